/-
  Part 5 of the tools and contracts from which the statement is proved.
-/
import Derived.Test.YtlddjhibbccljaaGreatPartf4
import Derived.Test.YtlddjhibbccljaaGreatProg
import Derived.Laws.Externs
set_option linter.unusedVariables false
open Go.IntKind
section
set_option maxRecDepth 100000
namespace Den
open Go
noncomputable def zp4:ArgT (Sl×Int×Unit):=(ArgT.cons (Ty.leaf .sl) (ArgT.cons (Ty.leaf (.int .i64)) ArgT.nil))
noncomputable def zp7:Ty Sl:=(Ty.leaf .sl)
noncomputable def zit:FSem:=mkE zp4 zp7 (λa=>F.ze4 a.1 a.2.1)
noncomputable def zph:Cfg:={ P:=Go.Proofs.Tryz.prog,n:=47,tab:=[],mutL:=[],rtL:=[],locL:=[] }
noncomputable def zpe:Code:=match Go.Proofs.Tryz.f172.body with | some c=>c | none=>.skip
noncomputable def zpa:An:=(.seq .leaf (.seq .leaf (.seq (.seq .leaf (.block (.loop [(13,.leaf (.int .i64))] (.seq .leaf (.seq (.cond .leaf .leaf) (.join [] (.block (.seq .leaf (.seq .leaf (.seq .leaf (.cond (.draw [0,1,2,3,4,5,6,7,8,9,10,11,12,13,14,15,16]) .leaf))))) .leaf)))))) (.seq .leaf .leaf))))
theorem zqi:Entry Go.Proofs.Tryz.prog 172 zit false:=
 za0 (C:=zph) (fn:=Go.Proofs.Tryz.f172) (c:=zpe) (an:=zpa) trivial trivial Go.Proofs.Tryz.func172 rfl rfl (by decide) (λ_=>rfl) (by intro a K D;kernel_rfl)
noncomputable def zx9:ArgT (Sl×Sl×Unit):=(ArgT.cons (Ty.leaf .sl) (ArgT.cons (Ty.leaf .sl) ArgT.nil))
noncomputable def zxl:Ty (Sl×Sl):=(Ty.tup (.cons (Ty.leaf .sl) (.cons (Ty.leaf .sl) .nil)) (λx=>(x.1,x.2,())) (λy=>(y.1,y.2.1)) (λ_=>rfl) (λ_=>rfl))
noncomputable def zhy:FSem:=mkE zx9 zxl (λa=>F.zcm a.1 a.2.1)
noncomputable def zym:Cfg:={ P:=Go.Proofs.Tryz.prog,n:=177,tab:=[(163,zel),(143,zax),(144,zhz),(138,zcj),(167,zis),(168,zeo),(169,zjk),(139,zaj),(170,zkn),(171,zlg),(172,zit)],mutL:=[170,171],rtL:=[],locL:=[] }
noncomputable def zya:Code:=match Go.Proofs.Tryz.f140.body with | some c=>c | none=>.skip
noncomputable def zxy:An:=(.seq .leaf (.seq (.block (.seq .leaf (.cond (.seq .leaf .leaf) (.seq .leaf (.cond (.seq .leaf (.seq (.draw [0,1,2,4,5,6,3,7,8,9]) .leaf)) (.seq .leaf (.cond (.seq .leaf .leaf) .leaf))))))) (.seq .leaf (.seq .leaf (.seq .leaf (.seq .leaf (.seq (.draw [0,1,2,3,4,5,6,7,8,9,10,11,12,13]) (.seq (.seq .leaf (.block (.loop [(15,.leaf (.int .i64))] (.seq (.seq .leaf (.cond .leaf .leaf)) (.seq (.block (.seq (.draw [0,1,2,3,4,5,6,7,8,9,10,11,12,13,14,15,16,17]) (.seq (.draw [0,1,2,3,4,5,6,7]) (.join [(17,.leaf (.int .u64))] (.block (.loop [(17,.leaf (.int .u64)),(18,.leaf (.int .u64))] (.join [] (.seq .leaf (.cond .leaf .leaf)) (.block (.seq .leaf (.seq .leaf (.seq .leaf (.cond .leaf .leaf)))))))) (.join [(17,.leaf (.int .u64))] (.seq .leaf (.cond (.seq .leaf .leaf) .leaf)) .leaf))))) .leaf))))) (.seq (.draw [0,2,3,4,6,1,5,7,8,9,10]) .leaf)))))))))
theorem znl:Entry Go.Proofs.Tryz.prog 140 zhy false:=
 za0 (C:=zym) (fn:=Go.Proofs.Tryz.f140) (c:=zya) (an:=zxy) ⟨zhf,zbh,znm,ze9,zqg,zl4,zs5,zan,zup,zx1,zqi,trivial⟩ trivial Go.Proofs.Tryz.func140 rfl rfl (by decide) (λ_=>rfl) (by intro a K D;kernel_rfl)
noncomputable def za8w:ArgT (TInt×TInt×Unit):=(ArgT.cons tyTInt (ArgT.cons tyTInt ArgT.nil))
noncomputable def za9l:Ty TInt:=tyTInt
noncomputable def zmb:FSem:=mkE za8w za9l (λa=>F.zg9 a.1 a.2.1)
noncomputable def zabo:Cfg:={ P:=Go.Proofs.Tryz.prog,n:=57,tab:=[(139,zaj),(143,zax),(137,zbj),(144,zhz),(138,zcj),(140,zhy)],mutL:=[],rtL:=[(11,2),(14,3)],locL:=[2,3,4] }
noncomputable def zaaz:Code:=match Go.Proofs.Tryz.f86.body with | some c=>c | none=>.skip
noncomputable def zaaa:An:=(.seq .leaf (.seq (.draw [0,1,3,4,2,5,6,7]) (.join [(5,.leaf (.sl)),(6,.leaf (.sl))] (.block (.loop [(5,.leaf (.sl)),(6,.leaf (.sl))] (.join [] (.seq .leaf (.cond .leaf .leaf)) (.block (.seq .leaf .leaf))))) (.seq (.seq .leaf (.cond (.seq .leaf .leaf) .leaf)) (.seq .leaf (.seq (.block (.loop [(9,.leaf (.int .u64)),(10,.leaf (.int .u64))] (.seq (.seq .leaf (.cond .leaf .leaf)) (.block (.draw [0,1,2,3,4,5]))))) (.seq .leaf .leaf)))))))
theorem zsp:Entry Go.Proofs.Tryz.prog 86 zmb false:=
 za0 (C:=zabo) (fn:=Go.Proofs.Tryz.f86) (c:=zaaz) (an:=zaaa) ⟨zan,zbh,zc1,znm,ze9,znl,trivial⟩ trivial Go.Proofs.Tryz.func86 rfl rfl (by decide) (λ_=>rfl) (by intro a K D;kernel_rfl)
noncomputable def zxh:ArgT (TInt×Unit):=(ArgT.cons tyTInt ArgT.nil)
noncomputable def zxt:Ty Bool:=(Ty.leaf .bool)
noncomputable def zdn:FSem:=mkE zxh zxt (λa=>F.zbr a.1)
noncomputable def zyu:Cfg:={ P:=Go.Proofs.Tryz.prog,n:=19,tab:=[],mutL:=[],rtL:=[(3,1),(7,1),(13,1)],locL:=[1] }
noncomputable def zyi:Code:=match Go.Proofs.Tryz.f127.body with | some c=>c | none=>.skip
noncomputable def zy6:An:=(.seq .leaf (.seq .leaf .leaf))
theorem zff:Entry Go.Proofs.Tryz.prog 127 zdn false:=
 za0 (C:=zyu) (fn:=Go.Proofs.Tryz.f127) (c:=zyi) (an:=zy6) trivial trivial Go.Proofs.Tryz.func127 rfl rfl (by decide) (λ_=>rfl) (by intro a K D;kernel_rfl)
noncomputable def za3m:ArgT (Sl×Sl×Unit):=(ArgT.cons (Ty.leaf .sl) (ArgT.cons (Ty.leaf .sl) ArgT.nil))
noncomputable def za4b:Ty Sl:=(Ty.leaf .sl)
noncomputable def zkm:FSem:=mkE za3m za4b (λa=>F.zez a.1 a.2.1)
noncomputable def za6e:Cfg:={ P:=Go.Proofs.Tryz.prog,n:=58,tab:=[],mutL:=[],rtL:=[],locL:=[45,55] }
noncomputable def za5p:Code:=match Go.Proofs.Tryz.f141.body with | some c=>c | none=>.skip
noncomputable def za50:An:=(.seq .leaf (.join [(0,.leaf (.sl)),(1,.leaf (.sl))] (.seq .leaf (.cond .leaf .leaf)) (.seq .leaf (.seq .leaf (.seq (.seq .leaf (.block (.loop [(5,.leaf (.sl)),(6,.leaf (.int .u64)),(22,.leaf (.int .i64))] (.seq .leaf (.seq (.cond .leaf .leaf) (.seq (.block (.seq .leaf (.seq .leaf (.join [(6,.leaf (.int .u64))] (.seq .leaf (.cond .leaf .leaf)) (.seq .leaf .leaf))))) .leaf)))))) (.seq (.seq .leaf (.cond .leaf .leaf)) (.seq .leaf .leaf)))))))
theorem zqh:Entry Go.Proofs.Tryz.prog 141 zkm false:=
 za0 (C:=za6e) (fn:=Go.Proofs.Tryz.f141) (c:=za5p) (an:=za50) trivial trivial Go.Proofs.Tryz.func141 rfl rfl (by decide) (λ_=>rfl) (by intro a K D;kernel_rfl)
noncomputable def za0g:ArgT (Sl×Sl×Unit):=(ArgT.cons (Ty.leaf .sl) (ArgT.cons (Ty.leaf .sl) ArgT.nil))
noncomputable def za0x:Ty Sl:=(Ty.leaf .sl)
noncomputable def zjc:FSem:=mkE za0g za0x (λa=>F.zdb a.1 a.2.1)
noncomputable def za2c:Cfg:={ P:=Go.Proofs.Tryz.prog,n:=45,tab:=[(139,zaj)],mutL:=[],rtL:=[],locL:=[] }
noncomputable def za1v:Code:=match Go.Proofs.Tryz.f142.body with | some c=>c | none=>.skip
noncomputable def za1e:An:=(.seq .leaf (.seq .leaf (.seq .leaf (.seq (.seq .leaf (.block (.loop [(6,.leaf (.int .u64)),(15,.leaf (.int .i64))] (.seq .leaf (.seq (.cond .leaf .leaf) (.seq (.block (.seq .leaf (.seq .leaf (.join [(9,.leaf (.int .u64))] (.seq .leaf (.cond .leaf .leaf)) (.seq .leaf .leaf))))) .leaf)))))) (.seq .leaf .leaf)))))
theorem zoz:Entry Go.Proofs.Tryz.prog 142 zjc false:=
 za0 (C:=za2c) (fn:=Go.Proofs.Tryz.f142) (c:=za1v) (an:=za1e) ⟨zan,trivial⟩ trivial Go.Proofs.Tryz.func142 rfl rfl (by decide) (λ_=>rfl) (by intro a K D;kernel_rfl)
noncomputable def zx8:ArgT (TInt×TInt×Unit):=(ArgT.cons tyTInt (ArgT.cons tyTInt ArgT.nil))
noncomputable def zxk:Ty (TInt×TInt×Int):=(Ty.tup (.cons tyTInt (.cons tyTInt (.cons (Ty.leaf (.int .i64)) .nil))) (λx=>(x.1,x.2.1,x.2.2,())) (λy=>(y.1,y.2.1,y.2.2.1)) (λ_=>rfl) (λ_=>rfl))
noncomputable def zn3:FSem:=mkE zx8 zxk (λa=>F.zgz a.1 a.2.1)
noncomputable def zyl:Cfg:={ P:=Go.Proofs.Tryz.prog,n:=53,tab:=[(139,zaj),(140,zhy),(137,zbj),(141,zkm),(142,zjc)],mutL:=[],rtL:=[(10,3),(19,2),(26,2),(28,3),(42,2),(44,3),(49,3)],locL:=[2,3,4,5] }
noncomputable def zy9:Code:=match Go.Proofs.Tryz.f85.body with | some c=>c | none=>.skip
noncomputable def zxx:An:=(.seq .leaf (.seq .leaf (.seq (.seq .leaf (.cond (.seq .leaf .leaf) .leaf)) (.seq .leaf (.join [(8,.leaf (.sl)),(9,.leaf (.sl))] (.seq .leaf (.cond (.seq .leaf .leaf) .leaf)) (.seq (.draw [0,1,2,3,4,5,7,8,9,6,10,11,12,13]) .leaf))))))
theorem zza:Entry Go.Proofs.Tryz.prog 85 zn3 false:=
 za0 (C:=zyl) (fn:=Go.Proofs.Tryz.f85) (c:=zy9) (an:=zxx) ⟨zan,znl,zc1,zqh,zoz,trivial⟩ trivial Go.Proofs.Tryz.func85 rfl rfl (by decide) (λ_=>rfl) (by intro a K D;kernel_rfl)
noncomputable def za3w:ArgT (TInt×TInt×Unit):=(ArgT.cons tyTInt (ArgT.cons tyTInt ArgT.nil))
noncomputable def za4l:Ty TInt:=tyTInt
noncomputable def zpn:FSem:=mkE za3w za4l (λa=>F.zh7 a.1 a.2.1)
noncomputable def za6o:Cfg:={ P:=Go.Proofs.Tryz.prog,n:=19,tab:=[(127,zdn),(85,zn3)],mutL:=[],rtL:=[],locL:=[2,3,4,5,6] }
noncomputable def za5z:Code:=match Go.Proofs.Tryz.f164.body with | some c=>c | none=>.skip
noncomputable def za5a:An:=(.seq .leaf (.seq (.seq .leaf (.cond (.seq .leaf .leaf) .leaf)) (.seq .leaf (.seq .leaf .leaf))))
theorem za8i:Entry Go.Proofs.Tryz.prog 164 zpn false:=
 za0 (C:=za6o) (fn:=Go.Proofs.Tryz.f164) (c:=za5z) (an:=za5a) ⟨zff,zza,trivial⟩ trivial Go.Proofs.Tryz.func164 rfl rfl (by decide) (λ_=>rfl) (by intro a K D;kernel_rfl)
noncomputable def za8y:ArgT (TInt×Unit):=(ArgT.cons tyTInt ArgT.nil)
noncomputable def za9n:Ty TInt:=tyTInt
noncomputable def zmc:FSem:=mkE za8y za9n (λa=>F.zix a.1)
noncomputable def zabq:Cfg:={ P:=Go.Proofs.Tryz.prog,n:=11,tab:=[(139,zaj),(143,zax),(137,zbj)],mutL:=[],rtL:=[(3,1),(6,1)],locL:=[1,2] }
noncomputable def zab1:Code:=match Go.Proofs.Tryz.f154.body with | some c=>c | none=>.skip
noncomputable def zaac:An:=(.seq .leaf (.seq (.draw [0,1,2,3,4,5,6,7,8]) .leaf))
theorem zsq:Entry Go.Proofs.Tryz.prog 154 zmc false:=
 za0 (C:=zabq) (fn:=Go.Proofs.Tryz.f154) (c:=zab1) (an:=zaac) ⟨zan,zbh,zc1,trivial⟩ trivial Go.Proofs.Tryz.func154 rfl rfl (by decide) (λ_=>rfl) (by intro a K D;kernel_rfl)
noncomputable def zv3:ArgT (TInt×TInt×Unit):=(ArgT.cons tyTInt (ArgT.cons tyTInt ArgT.nil))
noncomputable def zvd:Ty TRat:=tyTRat
noncomputable def zcz:FSem:=mkE zv3 zvd (λa=>F.zcd a.1 a.2.1)
noncomputable def zw9:Cfg:={ P:=Go.Proofs.Tryz.prog,n:=20,tab:=[(86,zmb),(164,zpn),(154,zmc)],mutL:=[],rtL:=[(9,3)],locL:=[2,3,4,5] }
noncomputable def zvy:Code:=match Go.Proofs.Tryz.f130.body with | some c=>c | none=>.skip
noncomputable def zvn:An:=(.seq .leaf (.seq .leaf (.join [(5,.box [.bool,.sl])] (.seq .leaf (.cond .leaf .leaf)) (.seq (.draw [0,1,3,4,2,5,6,7]) .leaf))))
theorem zem:Entry Go.Proofs.Tryz.prog 130 zcz false:=
 za0 (C:=zw9) (fn:=Go.Proofs.Tryz.f130) (c:=zvy) (an:=zvn) ⟨zsp,za8i,zsq,trivial⟩ trivial Go.Proofs.Tryz.func130 rfl rfl (by decide) (λ_=>rfl) (by intro a K D;kernel_rfl)
noncomputable def za3r:ArgT (TRat×TRat×Unit):=(ArgT.cons tyTRat (ArgT.cons tyTRat ArgT.nil))
noncomputable def za4g:Ty (TRat×Int):=(Ty.tup (.cons tyTRat (.cons (Ty.leaf (.int .i64)) .nil)) (λx=>(x.1,x.2,())) (λy=>(y.1,y.2.1)) (λ_=>rfl) (λ_=>rfl))
noncomputable def zkq:FSem:=mkE za3r za4g (λa=>F.zh5 a.1 a.2.1)
noncomputable def za6j:Cfg:={ P:=Go.Proofs.Tryz.prog,n:=21,tab:=[(165,zgt),(87,zfl),(130,zcz)],mutL:=[],rtL:=[(6,3),(10,2),(12,3),(15,2),(17,3)],locL:=[2,3,4] }
noncomputable def za5u:Code:=match Go.Proofs.Tryz.f131.body with | some c=>c | none=>.skip
noncomputable def za55:An:=(.seq .leaf (.seq (.seq .leaf (.cond (.seq .leaf .leaf) .leaf)) (.seq (.draw [0,1,2,3,5,6,7,8,4,9,10,11,12]) .leaf)))
theorem zqj:Entry Go.Proofs.Tryz.prog 131 zkq false:=
 za0 (C:=za6j) (fn:=Go.Proofs.Tryz.f131) (c:=za5u) (an:=za55) ⟨zm6,zin,zem,trivial⟩ trivial Go.Proofs.Tryz.func131 rfl rfl (by decide) (λ_=>rfl) (by intro a K D;kernel_rfl)
noncomputable def za3s:ArgT (TRat×TRat×Unit):=(ArgT.cons tyTRat (ArgT.cons tyTRat ArgT.nil))
noncomputable def za4h:Ty TRat:=tyTRat
noncomputable def zdm:FSem:=mkE za3s za4h (λa=>F.zd6 a.1 a.2.1)
noncomputable def za6k:Cfg:={ P:=Go.Proofs.Tryz.prog,n:=31,tab:=[(87,zfl),(130,zcz),(127,zdn),(129,zgu)],mutL:=[],rtL:=[(5,2),(9,3),(13,2),(15,3),(20,2),(22,3),(25,2),(27,3)],locL:=[2,3,4] }
noncomputable def za5v:Code:=match Go.Proofs.Tryz.f75.body with | some c=>c | none=>.skip
noncomputable def za56:An:=(.seq .leaf (.join [(4,.box [.bool,.sl,.bool,.sl])] (.seq .leaf (.cond (.seq .leaf .leaf) .leaf)) (.seq (.draw [0,1,2,3,5,6,7,8,4,9,10,11]) .leaf)))
theorem zex:Entry Go.Proofs.Tryz.prog 75 zdm false:=
 za0 (C:=za6k) (fn:=Go.Proofs.Tryz.f75) (c:=za5v) (an:=za56) ⟨zin,zem,zff,zl7,trivial⟩ trivial Go.Proofs.Tryz.func75 rfl rfl (by decide) (λ_=>rfl) (by intro a K D;kernel_rfl)
noncomputable def za3t:ArgT (TRat×Unit):=(ArgT.cons tyTRat ArgT.nil)
noncomputable def za4i:Ty TRat:=tyTRat
noncomputable def zgs:FSem:=mkE za3t za4i (λa=>F.zf8 a.1)
noncomputable def za6l:Cfg:={ P:=Go.Proofs.Tryz.prog,n:=9,tab:=[(154,zmc)],mutL:=[],rtL:=[(3,1),(6,1)],locL:=[1,2] }
noncomputable def za5w:Code:=match Go.Proofs.Tryz.f97.body with | some c=>c | none=>.skip
noncomputable def za57:An:=(.seq .leaf (.seq (.draw [0,1,3,4,2,5,6]) .leaf))
theorem zl6:Entry Go.Proofs.Tryz.prog 97 zgs false:=
 za0 (C:=za6l) (fn:=Go.Proofs.Tryz.f97) (c:=za5w) (an:=za57) ⟨zsq,trivial⟩ trivial Go.Proofs.Tryz.func97 rfl rfl (by decide) (λ_=>rfl) (by intro a K D;kernel_rfl)
noncomputable def za8u:ArgT (TInt×TInt×Unit):=(ArgT.cons tyTInt (ArgT.cons tyTInt ArgT.nil))
noncomputable def za9j:Ty TInt:=tyTInt
noncomputable def zs8:FSem:=mkE za8u za9j (λa=>F.ziw a.1 a.2.1)
noncomputable def zabm:Cfg:={ P:=Go.Proofs.Tryz.prog,n:=40,tab:=[(139,zaj),(141,zkm),(137,zbj),(163,zel),(142,zjc)],mutL:=[],rtL:=[(7,2),(10,3),(13,2),(15,3),(18,2),(28,3),(34,2)],locL:=[2,3,4] }
noncomputable def zaax:Code:=match Go.Proofs.Tryz.f128.body with | some c=>c | none=>.skip
noncomputable def zaa8:An:=(.seq .leaf (.seq (.draw [0,1,3,4,2,5,6,7]) (.seq (.seq .leaf (.cond (.seq (.draw [0,1,2,3,4,5,6]) .leaf) .leaf)) (.seq (.seq .leaf (.cond (.seq (.draw [0,1,2,3,4,5,6]) .leaf) .leaf)) (.seq (.draw [0,1,2,3,4,5,6]) .leaf)))))
theorem zach:Entry Go.Proofs.Tryz.prog 128 zs8 false:=
 za0 (C:=zabm) (fn:=Go.Proofs.Tryz.f128) (c:=zaax) (an:=zaa8) ⟨zan,zqh,zc1,zhf,zoz,trivial⟩ trivial Go.Proofs.Tryz.func128 rfl rfl (by decide) (λ_=>rfl) (by intro a K D;kernel_rfl)
noncomputable def za3p:ArgT (TRat×TRat×Unit):=(ArgT.cons tyTRat (ArgT.cons tyTRat ArgT.nil))
noncomputable def za4e:Ty TRat:=tyTRat
noncomputable def zck:FSem:=mkE za3p za4e (λa=>F.zbq a.1 a.2.1)
noncomputable def za6h:Cfg:={ P:=Go.Proofs.Tryz.prog,n:=39,tab:=[(87,zfl),(128,zs8),(130,zcz),(127,zdn),(129,zgu)],mutL:=[],rtL:=[(6,2),(10,3),(14,2),(16,3),(21,2),(23,3),(26,3),(28,2),(33,2),(35,3)],locL:=[2,3,4,5] }
noncomputable def za5s:Code:=match Go.Proofs.Tryz.f74.body with | some c=>c | none=>.skip
noncomputable def za53:An:=(.seq .leaf (.join [(4,.box [.bool,.sl,.bool,.sl])] (.seq .leaf (.cond (.seq .leaf .leaf) .leaf)) (.seq (.draw [0,1,2,3,5,6,7,8,11,4,9,10,12]) (.seq (.draw [0,1,2,3,4,5,6,7]) .leaf))))
theorem zdv:Entry Go.Proofs.Tryz.prog 74 zck false:=
 za0 (C:=za6h) (fn:=Go.Proofs.Tryz.f74) (c:=za5s) (an:=za53) ⟨zin,zach,zem,zff,zl7,trivial⟩ trivial Go.Proofs.Tryz.func74 rfl rfl (by decide) (λ_=>rfl) (by intro a K D;kernel_rfl)
noncomputable def za3u:ArgT (TRat×TRat×Unit):=(ArgT.cons tyTRat (ArgT.cons tyTRat ArgT.nil))
noncomputable def za4j:Ty TRat:=tyTRat
noncomputable def zkr:FSem:=mkE za3u za4j (λa=>F.zh6 a.1 a.2.1)
noncomputable def za6m:Cfg:={ P:=Go.Proofs.Tryz.prog,n:=9,tab:=[(97,zgs),(74,zck)],mutL:=[],rtL:=[],locL:=[2,3,4] }
noncomputable def za5x:Code:=match Go.Proofs.Tryz.f132.body with | some c=>c | none=>.skip
noncomputable def za58:An:=(.seq .leaf (.seq (.draw [0,1,2,3,4]) .leaf))
theorem zqk:Entry Go.Proofs.Tryz.prog 132 zkr false:=
 za0 (C:=za6m) (fn:=Go.Proofs.Tryz.f132) (c:=za5x) (an:=za58) ⟨zl6,zdv,trivial⟩ trivial Go.Proofs.Tryz.func132 rfl rfl (by decide) (λ_=>rfl) (by intro a K D;kernel_rfl)
noncomputable def zri:ArgT (Sl×Sl×Unit):=(ArgT.cons (Ty.leaf .sl) (ArgT.cons (Ty.leaf .sl) ArgT.nil))
noncomputable def zro:Ty (Sl×Sl):=(Ty.tup (.cons (Ty.leaf .sl) (.cons (Ty.leaf .sl) .nil)) (λx=>(x.1,x.2,())) (λy=>(y.1,y.2.1)) (λ_=>rfl) (λ_=>rfl))
noncomputable def zdj:FSem:=mkE zri zro (λa=>F.zb9 a.1 a.2.1)
noncomputable def zs3:Cfg:={ P:=Go.Proofs.Tryz.prog,n:=83,tab:=[(38,zc9),(73,zkp),(131,zkq),(75,zdm),(132,zkr)],mutL:=[],rtL:=[],locL:=[10] }
noncomputable def zry:Code:=match Go.Proofs.Tryz.f77.body with | some c=>c | none=>.skip
noncomputable def zrt:An:=(.seq .leaf (.seq .leaf (.seq .leaf (.seq .leaf (.seq (.seq .leaf (.block (.loop [(8,.leaf (.int .i64))] (.seq (.seq .leaf (.cond .leaf .leaf)) (.seq (.block (.seq (.draw [0,1,2,3,4,5,6,7,8,9,10,11,12,13,14,15,16,17,18,19,20,21]) (.seq .leaf (.block (.loop [(55,.leaf (.int .i64))] (.seq .leaf (.seq (.cond .leaf .leaf) (.seq (.block (.seq .leaf (.draw [0,1,2,3,4,5,6,7,8,9,10,11,12,13,14,15,16,17,18]))) .leaf)))))))) .leaf))))) (.seq .leaf .leaf))))))
theorem zfi:Entry Go.Proofs.Tryz.prog 77 zdj false:=
 za0 (C:=zs3) (fn:=Go.Proofs.Tryz.f77) (c:=zry) (an:=zrt) ⟨zda,zur,zqj,zex,zqk,trivial⟩ trivial Go.Proofs.Tryz.func77 rfl rfl (by decide) (λ_=>rfl) (by intro a K D;kernel_rfl)
noncomputable def zrh:ArgT (Sl×Sl×Unit):=(ArgT.cons (Ty.leaf .sl) (ArgT.cons (Ty.leaf .sl) ArgT.nil))
noncomputable def zrn:Ty (Sl×Sl×Int):=(Ty.tup (.cons (Ty.leaf .sl) (.cons (Ty.leaf .sl) (.cons (Ty.leaf (.int .i64)) .nil))) (λx=>(x.1,x.2.1,x.2.2,())) (λy=>(y.1,y.2.1,y.2.2.1)) (λ_=>rfl) (λ_=>rfl))
noncomputable def zjl:FSem:=mkE zrh zrn (λa=>F.zd5 a.1 a.2.1)
noncomputable def zs2:Cfg:={ P:=Go.Proofs.Tryz.prog,n:=20,tab:=[(39,zfh),(77,zdj)],mutL:=[],rtL:=[],locL:=[] }
noncomputable def zrx:Code:=match Go.Proofs.Tryz.f22.body with | some c=>c | none=>.skip
noncomputable def zrs:An:=(.seq .leaf (.seq (.seq .leaf (.cond (.seq .leaf .leaf) .leaf)) (.seq .leaf (.seq .leaf .leaf))))
theorem zs6:Entry Go.Proofs.Tryz.prog 22 zjl false:=
 za0 (C:=zs2) (fn:=Go.Proofs.Tryz.f22) (c:=zrx) (an:=zrs) ⟨zjm,zfi,trivial⟩ trivial Go.Proofs.Tryz.func22 rfl rfl (by decide) (λ_=>rfl) (by intro a K D;kernel_rfl)
noncomputable def zt2:ArgT (Sl×TRat×Unit):=(ArgT.cons (Ty.leaf .sl) (ArgT.cons tyTRat ArgT.nil))
noncomputable def ztc:Ty Sl:=(Ty.leaf .sl)
noncomputable def zg0:FSem:=mkE zt2 ztc (λa=>F.zdr a.1 a.2.1)
noncomputable def zu7:Cfg:={ P:=Go.Proofs.Tryz.prog,n:=27,tab:=[(75,zdm),(38,zc9)],mutL:=[],rtL:=[],locL:=[3,7] }
noncomputable def ztw:Code:=match Go.Proofs.Tryz.f43.body with | some c=>c | none=>.skip
noncomputable def ztm:An:=(.seq .leaf (.seq .leaf (.seq (.seq .leaf (.block (.loop [(13,.leaf (.int .i64))] (.seq .leaf (.seq (.cond .leaf .leaf) (.seq (.block (.seq .leaf .leaf)) .leaf)))))) (.seq .leaf .leaf))))
theorem zl5:Entry Go.Proofs.Tryz.prog 43 zg0 false:=
 za0 (C:=zu7) (fn:=Go.Proofs.Tryz.f43) (c:=ztw) (an:=ztm) ⟨zex,zda,trivial⟩ trivial Go.Proofs.Tryz.func43 rfl rfl (by decide) (λ_=>rfl) (by intro a K D;kernel_rfl)
noncomputable def zt3:ArgT (Sl×Unit):=(ArgT.cons (Ty.leaf .sl) ArgT.nil)
noncomputable def ztd:Ty Sl:=(Ty.leaf .sl)
noncomputable def ze2:FSem:=mkE zt3 ztd (λa=>F.zb5 a.1)
noncomputable def zu8:Cfg:={ P:=Go.Proofs.Tryz.prog,n:=24,tab:=[(38,zc9),(79,zaq),(131,zkq),(43,zg0)],mutL:=[],rtL:=[],locL:=[3] }
noncomputable def ztx:Code:=match Go.Proofs.Tryz.f83.body with | some c=>c | none=>.skip
noncomputable def ztn:An:=(.seq .leaf (.seq .leaf (.seq (.seq .leaf (.cond (.seq .leaf .leaf) .leaf)) (.seq (.draw [1,2,3,4,5,6,11,0,7,8,9,10,12,13]) (.seq .leaf .leaf)))))
theorem zg5:Entry Go.Proofs.Tryz.prog 83 ze2 false:=
 za0 (C:=zu8) (fn:=Go.Proofs.Tryz.f83) (c:=ztx) (an:=ztn) ⟨zda,zaw,zqj,zl5,trivial⟩ trivial Go.Proofs.Tryz.func83 rfl rfl (by decide) (λ_=>rfl) (by intro a K D;kernel_rfl)
noncomputable def zmp:ArgT (Sl×Unit):=(ArgT.cons (Ty.leaf .sl) ArgT.nil)
noncomputable def zmr:Ty Sl:=(Ty.leaf .sl)
noncomputable def zdl:FSem:=mkE zmp zmr (λa=>F.zbx a.1)
noncomputable def zn0:Cfg:={ P:=Go.Proofs.Tryz.prog,n:=25,tab:=[(79,zaq),(75,zdm),(38,zc9)],mutL:=[],rtL:=[],locL:=[5,20] }
noncomputable def zmy:Code:=match Go.Proofs.Tryz.f26.body with | some c=>c | none=>.skip
noncomputable def zmt:An:=(.seq .leaf (.seq .leaf (.seq (.seq .leaf (.block (.loop [(3,.leaf (.sl)),(8,.leaf (.int .i64))] (.seq .leaf (.seq (.cond .leaf .leaf) (.join [(3,.leaf (.sl))] (.block (.seq .leaf (.seq .leaf (.cond (.draw [0,1,2,3,4,5,6,7]) .leaf)))) .leaf)))))) (.seq .leaf .leaf))))
theorem zgh:Entry Go.Proofs.Tryz.prog 26 zdl false:=
 za0 (C:=zn0) (fn:=Go.Proofs.Tryz.f26) (c:=zmy) (an:=zmt) ⟨zaw,zex,zda,trivial⟩ trivial Go.Proofs.Tryz.func26 rfl rfl (by decide) (λ_=>rfl) (by intro a K D;kernel_rfl)
noncomputable def zxf:ArgT (Sl×Sl×Unit):=(ArgT.cons (Ty.leaf .sl) (ArgT.cons (Ty.leaf .sl) ArgT.nil))
noncomputable def zxr:Ty Sl:=(Ty.leaf .sl)
noncomputable def zn7:FSem:=mkE zxf zxr (λa=>F.zdq a.1 a.2.1)
noncomputable def zys:Cfg:={ P:=Go.Proofs.Tryz.prog,n:=24,tab:=[(83,ze2),(77,zdj)],mutL:=[],rtL:=[],locL:=[] }
noncomputable def zyg:Code:=match Go.Proofs.Tryz.f123.body with | some c=>c | none=>.skip
noncomputable def zy4:An:=(.seq .leaf (.seq .leaf (.seq (.block (.loop [(0,.leaf (.sl)),(1,.leaf (.sl))] (.seq (.seq .leaf (.cond .leaf .leaf)) (.block (.seq .leaf .leaf))))) (.seq .leaf .leaf))))
theorem zze:Entry Go.Proofs.Tryz.prog 123 zn7 false:=
 za0 (C:=zys) (fn:=Go.Proofs.Tryz.f123) (c:=zyg) (an:=zy4) ⟨zg5,zfi,trivial⟩ trivial Go.Proofs.Tryz.func123 rfl rfl (by decide) (λ_=>rfl) (by intro a K D;kernel_rfl)
noncomputable def zmq:ArgT (Sl×Unit):=(ArgT.cons (Ty.leaf .sl) ArgT.nil)
noncomputable def zms:Ty Sl:=(Ty.leaf .sl)
noncomputable def zg8:FSem:=mkE zmq zms (λa=>F.zbb a.1)
noncomputable def zn1:Cfg:={ P:=Go.Proofs.Tryz.prog,n:=21,tab:=[(83,ze2),(26,zdl),(123,zn7),(77,zdj)],mutL:=[],rtL:=[],locL:=[] }
noncomputable def zmz:Code:=match Go.Proofs.Tryz.f69.body with | some c=>c | none=>.skip
noncomputable def zmu:An:=(.seq .leaf (.seq .leaf (.seq (.seq .leaf (.cond (.seq .leaf .leaf) .leaf)) (.seq .leaf (.seq .leaf .leaf)))))
theorem znn:Entry Go.Proofs.Tryz.prog 69 zg8 false:=
 za0 (C:=zn1) (fn:=Go.Proofs.Tryz.f69) (c:=zmz) (an:=zmu) ⟨zg5,zgh,zze,zfi,trivial⟩ trivial Go.Proofs.Tryz.func69 rfl rfl (by decide) (λ_=>rfl) (by intro a K D;kernel_rfl)
noncomputable def za8v:ArgT (TInt×TInt×Unit):=(ArgT.cons tyTInt (ArgT.cons tyTInt ArgT.nil))
noncomputable def za9k:Ty Int:=(Ty.leaf (.int .i64))
noncomputable def zs9:FSem:=mkE za8v za9k (λa=>F.zlr a.1 a.2.1)
noncomputable def zabn:Cfg:={ P:=Go.Proofs.Tryz.prog,n:=26,tab:=[(153,zgr),(182,zgq),(139,zaj),(163,zel)],mutL:=[],rtL:=[(18,2),(21,3)],locL:=[2,3] }
noncomputable def zaay:Code:=match Go.Proofs.Tryz.f155.body with | some c=>c | none=>.skip
noncomputable def zaa9:An:=(.seq .leaf (.seq (.draw [0,2,1,3,4,5]) (.seq (.seq .leaf (.cond (.seq .leaf .leaf) .leaf)) (.seq (.draw [0,1,2,4,5,3,6,7,8,9]) .leaf))))
theorem zaci:Entry Go.Proofs.Tryz.prog 155 zs9 false:=
 za0 (C:=zabn) (fn:=Go.Proofs.Tryz.f155) (c:=zaay) (an:=zaa9) ⟨zl3,zm5,zan,zhf,trivial⟩ trivial Go.Proofs.Tryz.func155 rfl rfl (by decide) (λ_=>rfl) (by intro a K D;kernel_rfl)
noncomputable def za3q:ArgT (TRat×TRat×Unit):=(ArgT.cons tyTRat (ArgT.cons tyTRat ArgT.nil))
noncomputable def za4f:Ty Int:=(Ty.leaf (.int .i64))
noncomputable def zcl:FSem:=mkE za3q za4f (λa=>F.zc3 a.1 a.2.1)
noncomputable def za6i:Cfg:={ P:=Go.Proofs.Tryz.prog,n:=28,tab:=[(96,zcw),(87,zfl),(155,zs9)],mutL:=[],rtL:=[(17,2),(19,3),(22,3),(24,2)],locL:=[2,3] }
noncomputable def za5t:Code:=match Go.Proofs.Tryz.f98.body with | some c=>c | none=>.skip
noncomputable def za54:An:=(.seq .leaf (.seq (.seq (.draw [0,2,1,3,4,5]) (.seq .leaf (.cond (.seq (.seq .leaf (.cond (.seq .leaf .leaf) .leaf)) (.seq .leaf .leaf)) .leaf))) (.seq (.draw [0,1,2,3,5,6,7,8,4,9,10,11]) .leaf)))
theorem zdw:Entry Go.Proofs.Tryz.prog 98 zcl false:=
 za0 (C:=za6i) (fn:=Go.Proofs.Tryz.f98) (c:=za5t) (an:=za54) ⟨zeg,zin,zaci,trivial⟩ trivial Go.Proofs.Tryz.func98 rfl rfl (by decide) (λ_=>rfl) (by intro a K D;kernel_rfl)
noncomputable def zt1:ArgT (Sl×Unit):=(ArgT.cons (Ty.leaf .sl) ArgT.nil)
noncomputable def ztb:Ty TRat:=tyTRat
noncomputable def zko:FSem:=mkE zt1 ztb (λa=>F.zf6 a.1)
noncomputable def zu6:Cfg:={ P:=Go.Proofs.Tryz.prog,n:=37,tab:=[(83,ze2),(79,zaq),(98,zcl),(96,zcw),(97,zgs),(74,zck)],mutL:=[],rtL:=[],locL:=[2,3,5] }
noncomputable def ztv:Code:=match Go.Proofs.Tryz.f34.body with | some c=>c | none=>.skip
noncomputable def ztl:An:=(.seq .leaf (.seq .leaf (.seq (.seq .leaf (.cond (.seq .leaf .leaf) .leaf)) (.seq .leaf (.seq (.seq .leaf (.block (.loop [(3,.box [.bool,.sl,.bool,.sl]),(19,.leaf (.int .i64))] (.seq .leaf (.seq (.cond .leaf .leaf) (.join [(3,.box [.bool,.sl,.bool,.sl])] (.block (.seq .leaf (.join [(5,.box [.bool,.sl,.bool,.sl])] (.seq .leaf (.cond .leaf .leaf)) (.seq .leaf (.cond .leaf .leaf))))) .leaf)))))) (.seq (.draw [0,1,2,3]) .leaf))))))
theorem zuq:Entry Go.Proofs.Tryz.prog 34 zko false:=
 za0 (C:=zu6) (fn:=Go.Proofs.Tryz.f34) (c:=ztv) (an:=ztl) ⟨zg5,zaw,zdw,zeg,zl6,zdv,trivial⟩ trivial Go.Proofs.Tryz.func34 rfl rfl (by decide) (λ_=>rfl) (by intro a K D;kernel_rfl)
noncomputable def zgi:ArgT (Sl×Unit):=(ArgT.cons (Ty.leaf .sl) ArgT.nil)
noncomputable def zgj:Ty Addr:=(Ty.clo 156)
noncomputable def zcu:FSem:=mkE zgi zgj (λa=>F.zb3 a.1)
noncomputable def zgm:Cfg:={ P:=Go.Proofs.Tryz.prog,n:=4,tab:=[],mutL:=[],rtL:=[],locL:=[] }
noncomputable def zgl:Code:=match Go.Proofs.Tryz.f106.body with | some c=>c | none=>.skip
noncomputable def zgk:An:=(.seq .leaf (.seq .leaf .leaf))
theorem zgn:Entry Go.Proofs.Tryz.prog 106 zcu false:=
 za0 (C:=zgm) (fn:=Go.Proofs.Tryz.f106) (c:=zgl) (an:=zgk) trivial trivial Go.Proofs.Tryz.func106 rfl rfl (by decide) (λ_=>rfl) (by intro a K D;kernel_rfl)
end Den
end

section
namespace Den
open Go Go.RowKit Go.Shelf
open Go.Proofs
attribute [local go_sem] Oper.semAt_some
set_option maxRecDepth 100000 in
set_option maxHeartbeats 2000000 in
theorem zu2:BackFn Tryz.prog 156 (.agg [.bool,.sl,.bool,.sl]):=by
 refine⟨enters_of Tryz.func156 (by kernel_rfl) rfl,?_⟩
 rintro l ab ⟨xa,xl,xc⟩ J w hxl h0 hbox hround
 simp only at hxl h0 hbox hround
 have hb0:=hbox _ _ h0
 refine callsIn_of_wp Tryz.func156 rfl trivial ?_ rfl
 simp only[Tryz.ntmps156,List.size_toArray,List.length_cons,List.length_nil,Nat.reduceAdd,Nat.reduceSub,Array.replicate_succ,Array.replicate_zero,List.push_toArray,List.append_toArray,List.nil_append,List.cons_append]
 gi_wp2
 gi_loopw [3] (λi wr=>∃k:Nat,k<=xl/\i=.int .i64 ((k:Int)-1)/\J k wr) (λi _=>(RowKit.intOf i+1).toNat)
 case atStart=>exact⟨xl,Nat.le_refl _,rfl,h0⟩
 case round=>
  obtain⟨k,hk,rfl,hJ⟩:=hrel
  have hbx:=hbox _ _ hJ
  cases k with
  | zero=>
    gi_wp2
    go_end0
    exact⟨⟨_,rfl⟩,hJ⟩
  | succ j=>
    obtain⟨ad,⟨v0,v1,v2,v3,_⟩,hxa,hcells,f,tmps1,asg,body,hy,hR⟩:=hround j wr (by omega) hJ
    subst hxa
    have hc:∀i u,[Value.bool v0,.slice v1.a v1.len v1.cap,.bool v2,.slice v3.a v3.len v3.cap][i]?=some u->wr.cell? (ad.add (j*4+i))=some u:=λi u hu=>by
     have:=hcells i u (by simpa [STy.cells,LT.up,Lf.up] using hu)
     simpa [STy.size] using this
    have hc0:=hc 0 _ rfl
    have hk1:∀i,0<i->ad.add (j*4+i)={ block:=(ad.add (j*4)).block,off:=(ad.add (j*4)).off+i }:=λi hi=>by
     rw[zcg,zic]
     unfold Addr.add
     rw[if_neg (by omega)]
     congr 1
     omega
    have hc1:=hc 1 _ rfl
    have hc2:=hc 2 _ rfl
    have hc3:=hc 3 _ rfl
    rw[hk1 _ (by decide)]at hc1 hc2 hc3
    rw[Nat.add_zero]at hc0
    have hkj:(((j+1:Nat):Int)-1)=(j:Int):=by omega
    rw[hkj]
    simp only[STy.val,LT.up,Lf.up]at hy
    gi_wp2
    refine⟨rfl,hR.mono ?_⟩
    rintro e W3 ⟨rfl,hJ3⟩
    gi_wp2
    go_roundw
    case rel=>exact⟨j,by omega,by simp,hJ3⟩
    case measure=>simp[RowKit.intOf]
end Den
end

section
set_option maxRecDepth 100000
namespace Den
open Go
noncomputable def zail:Code:=match Go.Proofs.Tryz.f45.body with | some c=>c | none=>.skip
noncomputable def zah4:ArgT (TInt×Unit):=(ArgT.cons tyTInt ArgT.nil)
noncomputable def zahr:Ty Bool:=(Ty.leaf .bool)
noncomputable def zlp:FSem:=mkE zah4 zahr (λa=>F.zfc a.1)
noncomputable def zajj:Cfg:={ P:=Go.Proofs.Tryz.prog,n:=19,tab:=[],mutL:=[],rtL:=[(3,1),(8,1),(15,1)],locL:=[1] }
noncomputable def zaiz:Code:=match Go.Proofs.Tryz.f99.body with | some c=>c | none=>.skip
noncomputable def zaib:An:=(.seq .leaf (.seq .leaf .leaf))
theorem zqr:Entry Go.Proofs.Tryz.prog 99 zlp false:=
 za0 (C:=zajj) (fn:=Go.Proofs.Tryz.f99) (c:=zaiz) (an:=zaib) trivial trivial Go.Proofs.Tryz.func99 rfl rfl (by decide) (λ_=>rfl) (by intro a K D;kernel_rfl)
noncomputable def zah1:ArgT (TRat×TRat×Unit):=(ArgT.cons tyTRat (ArgT.cons tyTRat ArgT.nil))
noncomputable def zaho:Ty TRat:=tyTRat
noncomputable def ziv:FSem:=mkE zah1 zaho (λa=>F.zi8 a.1 a.2.1)
noncomputable def zajg:Cfg:={ P:=Go.Proofs.Tryz.prog,n:=65,tab:=[(90,zll),(134,zpr),(91,ziu),(99,zlp),(81,zbf)],mutL:=[],rtL:=[(7,2),(8,2),(13,3),(14,3),(20,2),(24,3),(28,2),(30,3),(33,2),(36,2),(38,3),(41,3),(43,2),(46,2),(50,3),(55,2),(59,3)],locL:=[2,3,4,5,6] }
noncomputable def zaiw:Code:=match Go.Proofs.Tryz.f80.body with | some c=>c | none=>.skip
noncomputable def zai8:An:=(.seq .leaf (.join [(4,.box [.bool,.sl,.bool,.sl])] (.seq .leaf (.cond (.seq .leaf .leaf) .leaf)) (.join [(4,.box [.bool,.sl,.bool,.sl])] (.seq .leaf (.cond (.seq (.draw [0,1,2,3,5,6,4,7,8]) .leaf) .leaf)) (.seq (.draw [0,1,2,3,5,6,7,8,10,11,4,9,12,13]) (.seq (.draw [0,1,2,4,5,6,9,10,11,13,14,15,3,7,8,12,16,17,18,19]) .leaf)))))
theorem zm8:Entry Go.Proofs.Tryz.prog 80 ziv false:=
 za0 (C:=zajg) (fn:=Go.Proofs.Tryz.f80) (c:=zaiw) (an:=zai8) ⟨zqm,za08,zm7,zqr,zbw,trivial⟩ trivial Go.Proofs.Tryz.func80 rfl rfl (by decide) (λ_=>rfl) (by intro a K D;kernel_rfl)
noncomputable def zads:ArgT (TRat×Unit):=(ArgT.cons tyTRat ArgT.nil)
noncomputable def zae6:Ty Int:=(Ty.leaf (.int .i64))
noncomputable def zjp:FSem:=mkE zads zae6 (λa=>F.zi9 a.1)
noncomputable def zaf7:Cfg:={ P:=Go.Proofs.Tryz.prog,n:=6,tab:=[(92,zgw)],mutL:=[],rtL:=[(3,1)],locL:=[1] }
noncomputable def zaeu:Code:=match Go.Proofs.Tryz.f32.body with | some c=>c | none=>.skip
noncomputable def zaei:An:=(.seq .leaf (.seq .leaf .leaf))
theorem zok:Entry Go.Proofs.Tryz.prog 32 zjp false:=
 za0 (C:=zaf7) (fn:=Go.Proofs.Tryz.f32) (c:=zaeu) (an:=zaei) ⟨zjy,trivial⟩ trivial Go.Proofs.Tryz.func32 rfl rfl (by decide) (λ_=>rfl) (by intro a K D;kernel_rfl)
noncomputable def zadv:ArgT (Sl×Unit):=(ArgT.cons (Ty.leaf .sl) ArgT.nil)
noncomputable def zae9:Ty Sl:=(Ty.leaf .sl)
noncomputable def zd0:FSem:=mkE zadv zae9 (λa=>F.zcq a.1)
noncomputable def zafa:Cfg:={ P:=Go.Proofs.Tryz.prog,n:=24,tab:=[(32,zjp)],mutL:=[],rtL:=[],locL:=[] }
noncomputable def zaex:Code:=match Go.Proofs.Tryz.f25.body with | some c=>c | none=>.skip
noncomputable def zael:An:=(.seq .leaf (.seq .leaf (.join [(3,.leaf (.int .i64))] (.block (.loop [(3,.leaf (.int .i64))] (.join [] (.seq .leaf (.cond .leaf .leaf)) (.block .leaf)))) (.seq .leaf .leaf))))
theorem zea:Entry Go.Proofs.Tryz.prog 25 zd0 false:=
 za0 (C:=zafa) (fn:=Go.Proofs.Tryz.f25) (c:=zaex) (an:=zael) ⟨zok,trivial⟩ trivial Go.Proofs.Tryz.func25 rfl rfl (by decide) (λ_=>rfl) (by intro a K D;kernel_rfl)
noncomputable def za9a:ArgT (Sl×TRat×Unit):=(ArgT.cons (Ty.leaf .sl) (ArgT.cons tyTRat ArgT.nil))
noncomputable def za9z:Ty Sl:=(Ty.leaf .sl)
noncomputable def zfm:FSem:=mkE za9a za9z (λa=>F.zev a.1 a.2.1)
noncomputable def zac2:Cfg:={ P:=Go.Proofs.Tryz.prog,n:=24,tab:=[(80,ziv),(25,zd0)],mutL:=[],rtL:=[],locL:=[3,20] }
noncomputable def zabd:Code:=match Go.Proofs.Tryz.f33.body with | some c=>c | none=>.skip
noncomputable def zaao:An:=(.seq .leaf (.seq .leaf (.seq (.seq .leaf (.block (.loop [(5,.leaf (.sl)),(6,.leaf (.int .i64))] (.seq (.seq .leaf (.cond .leaf .leaf)) (.seq (.block (.draw [0,1,2,3,4,5,6,7,8,9])) .leaf))))) (.seq .leaf .leaf))))
theorem zio:Entry Go.Proofs.Tryz.prog 33 zfm false:=
 za0 (C:=zac2) (fn:=Go.Proofs.Tryz.f33) (c:=zabd) (an:=zaao) ⟨zm8,zea,trivial⟩ trivial Go.Proofs.Tryz.func33 rfl rfl (by decide) (λ_=>rfl) (by intro a K D;kernel_rfl)
noncomputable def zadw:ArgT (Unit):=ArgT.nil
noncomputable def zaea:Ty TRat:=tyTRat
noncomputable def zjq:FSem:=mkE zadw zaea (λa=>F.zg4 )
noncomputable def zafb:Cfg:={ P:=Go.Proofs.Tryz.prog,n:=2,tab:=[(81,zbf)],mutL:=[],rtL:=[],locL:=[0] }
noncomputable def zaey:Code:=match Go.Proofs.Tryz.f101.body with | some c=>c | none=>.skip
noncomputable def zaem:An:=(.seq .leaf (.seq .leaf .leaf))
theorem zol:Entry Go.Proofs.Tryz.prog 101 zjq false:=
 za0 (C:=zafb) (fn:=Go.Proofs.Tryz.f101) (c:=zaey) (an:=zaem) ⟨zbw,trivial⟩ trivial Go.Proofs.Tryz.func101 rfl rfl (by decide) (λ_=>rfl) (by intro a K D;kernel_rfl)
noncomputable def zalt:ArgT (Sl×Int×Unit):=(ArgT.cons (Ty.leaf .sl) (ArgT.cons (Ty.leaf (.int .i64)) ArgT.nil))
noncomputable def zaly:Ty TRat:=tyTRat
noncomputable def za7e:FSem:=mkE zalt zaly (λa=>F.zq9 a.1 a.2.1)
noncomputable def zamd:Cfg:={ P:=Go.Proofs.Tryz.prog,n:=18,tab:=[(101,zjq)],mutL:=[],rtL:=[],locL:=[4] }
noncomputable def zam6:Code:=match Go.Proofs.Tryz.f105.body with | some c=>c | none=>.skip
noncomputable def zam1:An:=(.seq .leaf (.join [(4,.box [.bool,.sl,.bool,.sl])] (.seq .leaf (.cond (.seq .leaf .leaf) .leaf)) (.seq .leaf .leaf)))
theorem zanq:Entry Go.Proofs.Tryz.prog 105 za7e false:=
 za0 (C:=zamd) (fn:=Go.Proofs.Tryz.f105) (c:=zam6) (an:=zam1) ⟨zol,trivial⟩ trivial Go.Proofs.Tryz.func105 rfl rfl (by decide) (λ_=>rfl) (by intro a K D;kernel_rfl)
noncomputable def zagx:ArgT (TRat×TRat×Unit):=(ArgT.cons tyTRat (ArgT.cons tyTRat ArgT.nil))
noncomputable def zahk:Ty TRat:=tyTRat
noncomputable def zln:FSem:=mkE zagx zahk (λa=>F.zk7 a.1 a.2.1)
noncomputable def zajc:Cfg:={ P:=Go.Proofs.Tryz.prog,n:=94,tab:=[(90,zll),(99,zlp),(91,ziu),(151,zlk),(134,zpr)],mutL:=[],rtL:=[(11,2),(12,2),(17,3),(18,3),(23,2),(27,3),(31,2),(33,3),(36,2),(39,2),(41,3),(46,2),(48,3),(51,3),(53,2),(58,2),(60,3),(64,2),(68,3),(72,2),(76,3),(88,3)],locL:=[2,3,4,5,6,7,8,9,10] }
noncomputable def zais:Code:=match Go.Proofs.Tryz.f103.body with | some c=>c | none=>.skip
noncomputable def zai4:An:=(.seq .leaf (.seq (.seq .leaf (.cond (.seq .leaf .leaf) .leaf)) (.seq (.seq .leaf (.cond (.seq .leaf .leaf) .leaf)) (.join [(4,.box [.bool,.sl,.bool,.sl])] (.seq .leaf (.cond (.seq (.draw [0,1,2,3,5,6,4,7,8]) .leaf) .leaf)) (.seq .leaf (.seq (.seq .leaf (.cond (.seq (.draw [0,1,2,3,5,6,7,8,11,4,9,10,12]) (.seq (.draw [0,1,2,3,4,5,6,7]) .leaf)) .leaf)) (.seq (.draw [0,1,2,4,5,6,8,9,3,7,10,11]) (.seq (.draw [0,1,2,4,5,6,9,3,7,8,10]) (.seq .leaf (.seq (.draw [0,1,3,4,5,6,2,7,8,9,10]) .leaf))))))))))
theorem zqp:Entry Go.Proofs.Tryz.prog 103 zln false:=
 za0 (C:=zajc) (fn:=Go.Proofs.Tryz.f103) (c:=zais) (an:=zai4) ⟨zqm,zqr,zm7,zql,za08,trivial⟩ trivial Go.Proofs.Tryz.func103 rfl rfl (by decide) (λ_=>rfl) (by intro a K D;kernel_rfl)
noncomputable def zah6:ArgT (Sl×Sl×Unit):=(ArgT.cons (Ty.leaf .sl) (ArgT.cons (Ty.leaf .sl) ArgT.nil))
noncomputable def zaht:Ty Sl:=(Ty.leaf .sl)
noncomputable def zlq:FSem:=mkE zah6 zaht (λa=>F.zk8 a.1 a.2.1)
noncomputable def zajl:Cfg:={ P:=Go.Proofs.Tryz.prog,n:=31,tab:=[(25,zd0),(105,za7e),(103,zln)],mutL:=[],rtL:=[],locL:=[27] }
noncomputable def zaj1:Code:=match Go.Proofs.Tryz.f40.body with | some c=>c | none=>.skip
noncomputable def zaid:An:=(.seq .leaf (.seq .leaf (.join [(5,.leaf (.sl))] (.seq .leaf (.block (.loop [(5,.leaf (.sl)),(6,.leaf (.int .i64))] (.join [] (.seq .leaf (.cond .leaf .leaf)) (.seq (.block .leaf) .leaf))))) (.seq .leaf .leaf))))
theorem zqs:Entry Go.Proofs.Tryz.prog 40 zlq false:=
 za0 (C:=zajl) (fn:=Go.Proofs.Tryz.f40) (c:=zaj1) (an:=zaid) ⟨zea,zanq,zqp,trivial⟩ trivial Go.Proofs.Tryz.func40 rfl rfl (by decide) (λ_=>rfl) (by intro a K D;kernel_rfl)
noncomputable def zah9:ArgT (Sl×Sl×Unit):=(ArgT.cons (Ty.leaf .sl) (ArgT.cons (Ty.leaf .sl) ArgT.nil))
noncomputable def zahw:Ty Sl:=(Ty.leaf .sl)
noncomputable def zpt:FSem:=mkE zah9 zahw (λa=>F.znf a.1 a.2.1)
noncomputable def zajo:Cfg:={ P:=Go.Proofs.Tryz.prog,n:=10,tab:=[(81,zbf),(33,zfm),(40,zlq)],mutL:=[],rtL:=[],locL:=[] }
noncomputable def zaj4:Code:=match Go.Proofs.Tryz.f42.body with | some c=>c | none=>.skip
noncomputable def zaig:An:=(.seq .leaf (.seq .leaf .leaf))
theorem za09:Entry Go.Proofs.Tryz.prog 42 zpt false:=
 za0 (C:=zajo) (fn:=Go.Proofs.Tryz.f42) (c:=zaj4) (an:=zaig) ⟨zbw,zio,zqs,trivial⟩ trivial Go.Proofs.Tryz.func42 rfl rfl (by decide) (λ_=>rfl) (by intro a K D;kernel_rfl)
noncomputable def zadu:ArgT (Sl×Sl×Unit):=(ArgT.cons (Ty.leaf .sl) (ArgT.cons (Ty.leaf .sl) ArgT.nil))
noncomputable def zae8:Ty Bool:=(Ty.leaf .bool)
noncomputable def zwi:FSem:=mkE zadu zae8 (λa=>F.zoa a.1 a.2.1)
noncomputable def zaf9:Cfg:={ P:=Go.Proofs.Tryz.prog,n:=10,tab:=[(42,zpt)],mutL:=[],rtL:=[],locL:=[] }
noncomputable def zaew:Code:=match Go.Proofs.Tryz.f124.body with | some c=>c | none=>.skip
noncomputable def zaek:An:=(.seq .leaf (.seq .leaf .leaf))
theorem zagj:Entry Go.Proofs.Tryz.prog 124 zwi false:=
 za0 (C:=zaf9) (fn:=Go.Proofs.Tryz.f124) (c:=zaew) (an:=zaek) ⟨za09,trivial⟩ trivial Go.Proofs.Tryz.func124 rfl rfl (by decide) (λ_=>rfl) (by intro a K D;kernel_rfl)
noncomputable def za98:ArgT (Sl×Sl×Unit):=(ArgT.cons (Ty.leaf .sl) (ArgT.cons (Ty.leaf .sl) ArgT.nil))
noncomputable def za9x:Ty Bool:=(Ty.leaf .bool)
noncomputable def zsf:FSem:=mkE za98 za9x (λa=>F.zj1 a.1 a.2.1)
noncomputable def zac0:Cfg:={ P:=Go.Proofs.Tryz.prog,n:=15,tab:=[(124,zwi)],mutL:=[],rtL:=[],locL:=[] }
noncomputable def zabb:Code:=match Go.Proofs.Tryz.f70.body with | some c=>c | none=>.skip
noncomputable def zaam:An:=(.seq .leaf (.seq .leaf .leaf))
theorem zaco:Entry Go.Proofs.Tryz.prog 70 zsf false:=
 za0 (C:=zac0) (fn:=Go.Proofs.Tryz.f70) (c:=zabb) (an:=zaam) ⟨zagj,trivial⟩ trivial Go.Proofs.Tryz.func70 rfl rfl (by decide) (λ_=>rfl) (by intro a K D;kernel_rfl)
noncomputable def zags:ArgT (TInt×TInt×Unit):=(ArgT.cons tyTInt (ArgT.cons tyTInt ArgT.nil))
noncomputable def zahf:Ty Int:=(Ty.leaf (.int .i64))
noncomputable def zzp:FSem:=mkE zags zahf (λa=>F.zr6 a.1 a.2.1)
noncomputable def zaj7:Cfg:={ P:=Go.Proofs.Tryz.prog,n:=9,tab:=[(150,zpp),(92,zgw)],mutL:=[],rtL:=[],locL:=[2,3] }
noncomputable def zain:Code:=match Go.Proofs.Tryz.f95.body with | some c=>c | none=>.skip
noncomputable def zahz:An:=(.seq .leaf (.seq .leaf .leaf))
theorem zale:Entry Go.Proofs.Tryz.prog 95 zzp false:=
 za0 (C:=zaj7) (fn:=Go.Proofs.Tryz.f95) (c:=zain) (an:=zahz) ⟨za07,zjy,trivial⟩ trivial Go.Proofs.Tryz.func95 rfl rfl (by decide) (λ_=>rfl) (by intro a K D;kernel_rfl)
noncomputable def za91:ArgT (TInt×Unit):=(ArgT.cons tyTInt ArgT.nil)
noncomputable def za9q:Ty Bool:=(Ty.leaf .bool)
noncomputable def zsc:FSem:=mkE za91 za9q (λa=>F.zj0 a.1)
noncomputable def zabt:Cfg:={ P:=Go.Proofs.Tryz.prog,n:=22,tab:=[(136,zbe)],mutL:=[],rtL:=[(3,1),(7,1),(12,1),(16,1)],locL:=[1] }
noncomputable def zab4:Code:=match Go.Proofs.Tryz.f94.body with | some c=>c | none=>.skip
noncomputable def zaaf:An:=(.seq .leaf (.seq (.draw [0,1,4,5,6,2,3,7,8,9,10,11,12,13,14,15,16,17,18,19]) .leaf))
theorem zacl:Entry Go.Proofs.Tryz.prog 94 zsc false:=
 za0 (C:=zabt) (fn:=Go.Proofs.Tryz.f94) (c:=zab4) (an:=zaaf) ⟨zbu,trivial⟩ trivial Go.Proofs.Tryz.func94 rfl rfl (by decide) (λ_=>rfl) (by intro a K D;kernel_rfl)
noncomputable def za97:ArgT (TRat×Unit):=(ArgT.cons tyTRat ArgT.nil)
noncomputable def za9w:Ty Bool:=(Ty.leaf .bool)
noncomputable def zmf:FSem:=mkE za97 za9w (λa=>F.zgf a.1)
noncomputable def zabz:Cfg:={ P:=Go.Proofs.Tryz.prog,n:=25,tab:=[(94,zsc),(92,zgw),(90,zll),(99,zlp)],mutL:=[],rtL:=[(3,1),(7,1),(12,1),(18,1),(20,1)],locL:=[1] }
noncomputable def zaba:Code:=match Go.Proofs.Tryz.f35.body with | some c=>c | none=>.skip
noncomputable def zaal:An:=(.seq .leaf (.seq .leaf .leaf))
theorem zst:Entry Go.Proofs.Tryz.prog 35 zmf false:=
 za0 (C:=zabz) (fn:=Go.Proofs.Tryz.f35) (c:=zaba) (an:=zaal) ⟨zacl,zjy,zqm,zqr,trivial⟩ trivial Go.Proofs.Tryz.func35 rfl rfl (by decide) (λ_=>rfl) (by intro a K D;kernel_rfl)
noncomputable def zagy:ArgT (TRat×TRat×Unit):=(ArgT.cons tyTRat (ArgT.cons tyTRat ArgT.nil))
noncomputable def zahl:Ty Int:=(Ty.leaf (.int .i64))
noncomputable def zlo:FSem:=mkE zagy zahl (λa=>F.zge a.1 a.2.1)
noncomputable def zajd:Cfg:={ P:=Go.Proofs.Tryz.prog,n:=16,tab:=[(91,ziu),(95,zzp)],mutL:=[],rtL:=[(5,2),(7,3),(10,3),(12,2)],locL:=[2,3] }
noncomputable def zait:Code:=match Go.Proofs.Tryz.f36.body with | some c=>c | none=>.skip
noncomputable def zai5:An:=(.seq .leaf (.seq (.draw [0,1,2,3,5,6,7,8,4,9,10,11]) .leaf))
theorem zqq:Entry Go.Proofs.Tryz.prog 36 zlo false:=
 za0 (C:=zajd) (fn:=Go.Proofs.Tryz.f36) (c:=zait) (an:=zai5) ⟨zm7,zale,trivial⟩ trivial Go.Proofs.Tryz.func36 rfl rfl (by decide) (λ_=>rfl) (by intro a K D;kernel_rfl)
noncomputable def za9b:ArgT (Sl×Int×Unit):=(ArgT.cons (Ty.leaf .sl) (ArgT.cons (Ty.leaf (.int .i64)) ArgT.nil))
noncomputable def zaa0:Ty Sl:=(Ty.leaf .sl)
noncomputable def zmh:FSem:=mkE za9b zaa0 (λa=>F.zj2 a.1 a.2.1)
noncomputable def zac3:Cfg:={ P:=Go.Proofs.Tryz.prog,n:=20,tab:=[(101,zjq),(25,zd0)],mutL:=[],rtL:=[],locL:=[14] }
noncomputable def zabe:Code:=match Go.Proofs.Tryz.f76.body with | some c=>c | none=>.skip
noncomputable def zaap:An:=(.seq .leaf (.seq .leaf (.seq (.seq .leaf (.block (.loop [(5,.leaf (.sl)),(6,.leaf (.int .i64))] (.seq (.seq .leaf (.cond .leaf .leaf)) (.seq (.block .leaf) .leaf))))) (.seq .leaf .leaf))))
theorem zsv:Entry Go.Proofs.Tryz.prog 76 zmh false:=
 za0 (C:=zac3) (fn:=Go.Proofs.Tryz.f76) (c:=zabe) (an:=zaap) ⟨zol,zea,trivial⟩ trivial Go.Proofs.Tryz.func76 rfl rfl (by decide) (λ_=>rfl) (by intro a K D;kernel_rfl)
noncomputable def zah8:ArgT (Sl×Sl×Unit):=(ArgT.cons (Ty.leaf .sl) (ArgT.cons (Ty.leaf .sl) ArgT.nil))
noncomputable def zahv:Ty Sl:=(Ty.leaf .sl)
noncomputable def zzv:FSem:=mkE zah8 zahv (λa=>F.zrc a.1 a.2.1)
noncomputable def zajn:Cfg:={ P:=Go.Proofs.Tryz.prog,n:=24,tab:=[(33,zfm),(76,zmh),(40,zlq)],mutL:=[],rtL:=[],locL:=[] }
noncomputable def zaj3:Code:=match Go.Proofs.Tryz.f21.body with | some c=>c | none=>.skip
noncomputable def zaif:An:=(.seq .leaf (.seq .leaf (.seq (.seq .leaf (.block (.loop [(5,.leaf (.sl)),(6,.leaf (.int .i64))] (.seq (.seq .leaf (.cond .leaf .leaf)) (.seq (.block .leaf) .leaf))))) (.seq .leaf .leaf))))
theorem zalk:Entry Go.Proofs.Tryz.prog 21 zzv false:=
 za0 (C:=zajn) (fn:=Go.Proofs.Tryz.f21) (c:=zaj3) (an:=zaif) ⟨zio,zsv,zqs,trivial⟩ trivial Go.Proofs.Tryz.func21 rfl rfl (by decide) (λ_=>rfl) (by intro a K D;kernel_rfl)
noncomputable def za41:ArgT (Sl×Unit):=(ArgT.cons (Ty.leaf .sl) ArgT.nil)
noncomputable def za4q:Ty Int:=(Ty.leaf (.int .i64))
noncomputable def zps:FSem:=mkE za41 za4q (λa=>F.zju a.1)
noncomputable def za6t:Cfg:={ P:=Go.Proofs.Tryz.prog,n:=7,tab:=[(25,zd0)],mutL:=[],rtL:=[],locL:=[] }
noncomputable def za64:Code:=match Go.Proofs.Tryz.f23.body with | some c=>c | none=>.skip
noncomputable def za5f:An:=(.seq .leaf (.seq .leaf .leaf))
theorem za8l:Entry Go.Proofs.Tryz.prog 23 zps false:=
 za0 (C:=za6t) (fn:=Go.Proofs.Tryz.f23) (c:=za64) (an:=za5f) ⟨zea,trivial⟩ trivial Go.Proofs.Tryz.func23 rfl rfl (by decide) (λ_=>rfl) (by intro a K D;kernel_rfl)
noncomputable def zah0:ArgT (TRat×Unit):=(ArgT.cons tyTRat ArgT.nil)
noncomputable def zahn:Ty TRat:=tyTRat
noncomputable def zzr:FSem:=mkE zah0 zahn (λa=>F.zr8 a.1)
noncomputable def zajf:Cfg:={ P:=Go.Proofs.Tryz.prog,n:=18,tab:=[(93,zlm)],mutL:=[],rtL:=[(3,1),(4,1),(6,1),(9,1),(13,1),(15,1)],locL:=[1,2] }
noncomputable def zaiv:Code:=match Go.Proofs.Tryz.f166.body with | some c=>c | none=>.skip
noncomputable def zai7:An:=(.seq .leaf (.seq (.seq .leaf (.cond (.seq (.draw [0,1,3,4,2,5,6,7]) .leaf) .leaf)) (.seq .leaf .leaf)))
theorem zalg:Entry Go.Proofs.Tryz.prog 166 zzr false:=
 za0 (C:=zajf) (fn:=Go.Proofs.Tryz.f166) (c:=zaiv) (an:=zai7) ⟨zqn,trivial⟩ trivial Go.Proofs.Tryz.func166 rfl rfl (by decide) (λ_=>rfl) (by intro a K D;kernel_rfl)
end Den
end

section
set_option maxRecDepth 100000
namespace Den
open Go
noncomputable def zagz:ArgT (TRat×TRat×Unit):=(ArgT.cons tyTRat (ArgT.cons tyTRat ArgT.nil))
noncomputable def zahm:Ty (TRat×Int):=(Ty.tup (.cons tyTRat (.cons (Ty.leaf (.int .i64)) .nil)) (λx=>(x.1,x.2,())) (λy=>(y.1,y.2.1)) (λ_=>rfl) (λ_=>rfl))
noncomputable def zzq:FSem:=mkE zagz zahm (λa=>F.zr7 a.1 a.2.1)
noncomputable def zaje:Cfg:={ P:=Go.Proofs.Tryz.prog,n:=16,tab:=[(166,zzr),(80,ziv)],mutL:=[],rtL:=[(6,3),(7,3)],locL:=[2,3,4] }
noncomputable def zaiu:Code:=match Go.Proofs.Tryz.f133.body with | some c=>c | none=>.skip
noncomputable def zai6:An:=(.seq .leaf (.seq (.seq .leaf (.cond (.seq .leaf .leaf) .leaf)) (.seq (.draw [0,1,2,3,4,5]) .leaf)))
theorem zalf:Entry Go.Proofs.Tryz.prog 133 zzq false:=
 za0 (C:=zaje) (fn:=Go.Proofs.Tryz.f133) (c:=zaiu) (an:=zai6) ⟨zalg,zm8,trivial⟩ trivial Go.Proofs.Tryz.func133 rfl rfl (by decide) (λ_=>rfl) (by intro a K D;kernel_rfl)
noncomputable def zxi:ArgT (TRat×TRat×Unit):=(ArgT.cons tyTRat (ArgT.cons tyTRat ArgT.nil))
noncomputable def zxu:Ty TRat:=tyTRat
noncomputable def zi1:FSem:=mkE zxi zxu (λa=>F.zew a.1 a.2.1)
noncomputable def zyv:Cfg:={ P:=Go.Proofs.Tryz.prog,n:=14,tab:=[(133,zzq)],mutL:=[],rtL:=[],locL:=[2,3,4,5] }
noncomputable def zyj:Code:=match Go.Proofs.Tryz.f78.body with | some c=>c | none=>.skip
noncomputable def zy7:An:=(.seq .leaf (.seq .leaf (.seq .leaf .leaf)))
theorem znp:Entry Go.Proofs.Tryz.prog 78 zi1 false:=
 za0 (C:=zyv) (fn:=Go.Proofs.Tryz.f78) (c:=zyj) (an:=zy7) ⟨zalf,trivial⟩ trivial Go.Proofs.Tryz.func78 rfl rfl (by decide) (λ_=>rfl) (by intro a K D;kernel_rfl)
noncomputable def za42:ArgT (Sl×Sl×Unit):=(ArgT.cons (Ty.leaf .sl) (ArgT.cons (Ty.leaf .sl) ArgT.nil))
noncomputable def za4r:Ty (Sl×Sl):=(Ty.tup (.cons (Ty.leaf .sl) (.cons (Ty.leaf .sl) .nil)) (λx=>(x.1,x.2,())) (λy=>(y.1,y.2.1)) (λ_=>rfl) (λ_=>rfl))
noncomputable def zgx:FSem:=mkE za42 za4r (λa=>F.zfd a.1 a.2.1)
noncomputable def za6u:Cfg:={ P:=Go.Proofs.Tryz.prog,n:=50,tab:=[(25,zd0),(78,zi1),(76,zmh),(40,zlq),(21,zzv),(42,zpt)],mutL:=[],rtL:=[],locL:=[] }
noncomputable def za65:Code:=match Go.Proofs.Tryz.f24.body with | some c=>c | none=>.skip
noncomputable def za5g:An:=(.seq .leaf (.seq .leaf (.seq .leaf (.seq .leaf (.seq (.block (.loop [(6,.leaf (.sl)),(7,.leaf (.sl))] (.seq (.seq .leaf (.cond .leaf .leaf)) (.block (.seq .leaf (.seq (.draw [0,1,2,3,4,5,6,7,8,9,10,11,14,12,13,15,16]) (.seq .leaf .leaf))))))) (.seq .leaf .leaf))))))
theorem zl9:Entry Go.Proofs.Tryz.prog 24 zgx false:=
 za0 (C:=za6u) (fn:=Go.Proofs.Tryz.f24) (c:=za65) (an:=za5g) ⟨zea,znp,zsv,zqs,zalk,za09,trivial⟩ trivial Go.Proofs.Tryz.func24 rfl rfl (by decide) (λ_=>rfl) (by intro a K D;kernel_rfl)
noncomputable def zt6:ArgT (Sl×Unit):=(ArgT.cons (Ty.leaf .sl) ArgT.nil)
noncomputable def ztg:Ty Sl:=(Ty.leaf .sl)
noncomputable def zg1:FSem:=mkE zt6 ztg (λa=>F.zdu a.1)
noncomputable def zub:Cfg:={ P:=Go.Proofs.Tryz.prog,n:=23,tab:=[(81,zbf),(80,ziv),(25,zd0)],mutL:=[],rtL:=[],locL:=[19] }
noncomputable def zu0:Code:=match Go.Proofs.Tryz.f27.body with | some c=>c | none=>.skip
noncomputable def ztq:An:=(.seq .leaf (.seq .leaf (.seq (.seq .leaf (.block (.loop [(3,.leaf (.sl)),(4,.leaf (.int .i64))] (.seq (.seq .leaf (.cond .leaf .leaf)) (.seq (.block (.draw [0,1,2,3,4,5,6,7,8,9,10])) .leaf))))) (.seq .leaf .leaf))))
theorem zl8:Entry Go.Proofs.Tryz.prog 27 zg1 false:=
 za0 (C:=zub) (fn:=Go.Proofs.Tryz.f27) (c:=zu0) (an:=ztq) ⟨zbw,zm8,zea,trivial⟩ trivial Go.Proofs.Tryz.func27 rfl rfl (by decide) (λ_=>rfl) (by intro a K D;kernel_rfl)
noncomputable def za99:ArgT (Sl×Unit):=(ArgT.cons (Ty.leaf .sl) ArgT.nil)
noncomputable def za9y:Ty Sl:=(Ty.leaf .sl)
noncomputable def zmg:FSem:=mkE za99 za9y (λa=>F.zdy a.1)
noncomputable def zac1:Cfg:={ P:=Go.Proofs.Tryz.prog,n:=19,tab:=[(25,zd0),(81,zbf),(78,zi1),(33,zfm)],mutL:=[],rtL:=[],locL:=[] }
noncomputable def zabc:Code:=match Go.Proofs.Tryz.f100.body with | some c=>c | none=>.skip
noncomputable def zaan:An:=(.seq .leaf (.seq .leaf (.seq (.seq .leaf (.cond (.seq .leaf .leaf) .leaf)) (.seq (.draw [0,2,3,4,5,6,7,1,8,9,10]) .leaf))))
theorem zsu:Entry Go.Proofs.Tryz.prog 100 zmg false:=
 za0 (C:=zac1) (fn:=Go.Proofs.Tryz.f100) (c:=zabc) (an:=zaan) ⟨zea,zbw,znp,zio,trivial⟩ trivial Go.Proofs.Tryz.func100 rfl rfl (by decide) (λ_=>rfl) (by intro a K D;kernel_rfl)
noncomputable def zah2:ArgT (TRat×Unit):=(ArgT.cons tyTRat ArgT.nil)
noncomputable def zahp:Ty TRat:=tyTRat
noncomputable def zzs:FSem:=mkE zah2 zahp (λa=>F.zr9 a.1)
noncomputable def zajh:Cfg:={ P:=Go.Proofs.Tryz.prog,n:=9,tab:=[(93,zlm)],mutL:=[],rtL:=[(3,1),(6,1)],locL:=[1,2] }
noncomputable def zaix:Code:=match Go.Proofs.Tryz.f117.body with | some c=>c | none=>.skip
noncomputable def zai9:An:=(.seq .leaf (.seq (.draw [0,1,3,4,2,5,6]) .leaf))
theorem zalh:Entry Go.Proofs.Tryz.prog 117 zzs false:=
 za0 (C:=zajh) (fn:=Go.Proofs.Tryz.f117) (c:=zaix) (an:=zai9) ⟨zqn,trivial⟩ trivial Go.Proofs.Tryz.func117 rfl rfl (by decide) (λ_=>rfl) (by intro a K D;kernel_rfl)
noncomputable def zv0:ArgT (Sl×TRat×Unit):=(ArgT.cons (Ty.leaf .sl) (ArgT.cons tyTRat ArgT.nil))
noncomputable def zva:Ty TRat:=tyTRat
noncomputable def zlj:FSem:=mkE zv0 zva (λa=>F.zfy a.1 a.2.1)
noncomputable def zw6:Cfg:={ P:=Go.Proofs.Tryz.prog,n:=19,tab:=[(79,zaq),(106,zcu),(75,zdm),(74,zck)],mutL:=[],rtL:=[],locL:=[3,4,5,7],backs:=[(156,(.agg [.bool,.sl,.bool,.sl]))] }
noncomputable def zvv:Code:=match Go.Proofs.Tryz.f46.body with | some c=>c | none=>.skip
noncomputable def zvk:An:=(.seq .leaf (.seq .leaf (.seq (.seq .leaf (.block (.back [(5,.box [.bool,.sl,.bool,.sl])] .leaf (.block (.draw [0,1,3,2,4,5]))))) (.seq .leaf .leaf))))
theorem zx4:Entry Go.Proofs.Tryz.prog 46 zlj false:=
 za0 (C:=zw6) (fn:=Go.Proofs.Tryz.f46) (c:=zvv) (an:=zvk) ⟨zaw,zgn,zex,zdv,trivial⟩ ⟨zu2,trivial⟩ Go.Proofs.Tryz.func46 rfl rfl (by decide) (λ_=>rfl) (by intro a K D;kernel_rfl)
noncomputable def zadt:ArgT (Sl×TRat×Unit):=(ArgT.cons (Ty.leaf .sl) (ArgT.cons tyTRat ArgT.nil))
noncomputable def zae7:Ty TRat:=tyTRat
noncomputable def zwh:FSem:=mkE zadt zae7 (λa=>F.zo9 a.1 a.2.1)
noncomputable def zaf8:Cfg:={ P:=Go.Proofs.Tryz.prog,n:=24,tab:=[(101,zjq),(80,ziv),(103,zln)],mutL:=[],rtL:=[],locL:=[3,4,5] }
noncomputable def zaev:Code:=match Go.Proofs.Tryz.f48.body with | some c=>c | none=>.skip
noncomputable def zaej:An:=(.seq .leaf (.seq .leaf (.seq (.seq .leaf (.block (.loop [(5,.box [.bool,.sl,.bool,.sl]),(6,.leaf (.int .i64))] (.seq (.seq .leaf (.cond .leaf .leaf)) (.seq (.block (.draw [0,1,3,4,5,6,2,7,8])) .leaf))))) (.seq .leaf .leaf))))
theorem zagi:Entry Go.Proofs.Tryz.prog 48 zwh false:=
 za0 (C:=zaf8) (fn:=Go.Proofs.Tryz.f48) (c:=zaev) (an:=zaej) ⟨zol,zm8,zqp,trivial⟩ trivial Go.Proofs.Tryz.func48 rfl rfl (by decide) (λ_=>rfl) (by intro a K D;kernel_rfl)
noncomputable def za0t:ArgT (Sl×TRat×Unit):=(ArgT.cons (Ty.leaf .sl) (ArgT.cons tyTRat ArgT.nil))
noncomputable def za1a:Ty Int:=(Ty.leaf (.int .i64))
noncomputable def zje:FSem:=mkE za0t za1a (λa=>F.zde a.1 a.2.1)
noncomputable def za2p:Cfg:={ P:=Go.Proofs.Tryz.prog,n:=31,tab:=[(46,zlj),(96,zcw)],mutL:=[],rtL:=[],locL:=[3] }
noncomputable def za28:Code:=match Go.Proofs.Tryz.f52.body with | some c=>c | none=>.skip
noncomputable def za1r:An:=(.seq .leaf (.seq .leaf (.seq (.seq .leaf (.block (.loop [(5,.leaf (.int .i64)),(6,.leaf (.int .i64)),(12,.leaf (.int .i64))] (.seq .leaf (.seq (.cond .leaf .leaf) (.join [(5,.leaf (.int .i64)),(6,.leaf (.int .i64))] (.block (.seq .leaf (.seq .leaf (.seq (.seq .leaf (.cond .leaf .leaf)) (.seq (.seq .leaf (.cond .leaf .leaf)) .leaf))))) .leaf)))))) (.seq .leaf .leaf))))
theorem zp1:Entry Go.Proofs.Tryz.prog 52 zje false:=
 za0 (C:=za2p) (fn:=Go.Proofs.Tryz.f52) (c:=za28) (an:=za1r) ⟨zx4,zeg,trivial⟩ trivial Go.Proofs.Tryz.func52 rfl rfl (by decide) (λ_=>rfl) (by intro a K D;kernel_rfl)
noncomputable def za0s:ArgT (Sl×TRat×Unit):=(ArgT.cons (Ty.leaf .sl) (ArgT.cons tyTRat ArgT.nil))
noncomputable def za19:Ty Int:=(Ty.leaf (.int .i64))
noncomputable def zoy:FSem:=mkE za0s za19 (λa=>F.zfs a.1 a.2.1)
noncomputable def za2o:Cfg:={ P:=Go.Proofs.Tryz.prog,n:=32,tab:=[(48,zwh),(32,zjp)],mutL:=[],rtL:=[],locL:=[3] }
noncomputable def za27:Code:=match Go.Proofs.Tryz.f53.body with | some c=>c | none=>.skip
noncomputable def za1q:An:=(.seq .leaf (.seq .leaf (.seq (.seq .leaf (.block (.loop [(5,.leaf (.int .i64)),(6,.leaf (.int .i64)),(7,.leaf (.int .i64))] (.seq (.seq .leaf (.cond .leaf .leaf)) (.join [(5,.leaf (.int .i64)),(6,.leaf (.int .i64))] (.block (.seq (.draw [0,1,2,3,4,5,6,7]) (.seq .leaf (.cond (.seq (.seq .leaf (.cond .leaf .leaf)) .leaf) .leaf)))) .leaf))))) (.seq .leaf .leaf))))
theorem za32:Entry Go.Proofs.Tryz.prog 53 zoy false:=
 za0 (C:=za2o) (fn:=Go.Proofs.Tryz.f53) (c:=za27) (an:=za1q) ⟨zagi,zok,trivial⟩ trivial Go.Proofs.Tryz.func53 rfl rfl (by decide) (λ_=>rfl) (by intro a K D;kernel_rfl)
noncomputable def zadm:ArgT (Sl×Unit):=(ArgT.cons (Ty.leaf .sl) ArgT.nil)
noncomputable def zae0:Ty Sl:=(Ty.leaf .sl)
noncomputable def zwe:FSem:=mkE zadm zae0 (λa=>F.zeq a.1)
noncomputable def zaf1:Cfg:={ P:=Go.Proofs.Tryz.prog,n:=19,tab:=[(81,zbf)],mutL:=[],rtL:=[],locL:=[15] }
noncomputable def zaeo:Code:=match Go.Proofs.Tryz.f63.body with | some c=>c | none=>.skip
noncomputable def zaec:An:=(.seq .leaf (.seq .leaf (.seq (.seq .leaf (.block (.loop [(3,.leaf (.sl)),(8,.leaf (.int .i64))] (.seq .leaf (.seq (.cond .leaf .leaf) (.seq (.block (.seq .leaf .leaf)) .leaf)))))) (.seq .leaf .leaf))))
theorem zagf:Entry Go.Proofs.Tryz.prog 63 zwe false:=
 za0 (C:=zaf1) (fn:=Go.Proofs.Tryz.f63) (c:=zaeo) (an:=zaec) ⟨zbw,trivial⟩ trivial Go.Proofs.Tryz.func63 rfl rfl (by decide) (λ_=>rfl) (by intro a K D;kernel_rfl)
noncomputable def za9g:ArgT (Sl×Unit):=(ArgT.cons (Ty.leaf .sl) ArgT.nil)
noncomputable def zaa5:Ty Sl:=(Ty.leaf .sl)
noncomputable def zie:FSem:=mkE za9g zaa5 (λa=>F.zdz a.1)
noncomputable def zac8:Cfg:={ P:=Go.Proofs.Tryz.prog,n:=42,tab:=[(39,zfh),(69,zg8),(26,zdl),(22,zjl),(79,zaq),(43,zg0)],mutL:=[],rtL:=[],locL:=[40] }
noncomputable def zabj:Code:=match Go.Proofs.Tryz.f107.body with | some c=>c | none=>.skip
noncomputable def zaau:An:=(.seq .leaf (.seq (.seq .leaf (.cond (.seq .leaf .leaf) .leaf)) (.seq .leaf (.seq .leaf (.seq .leaf (.block (.loop [(3,.leaf (.sl)),(4,.leaf (.sl)),(5,.leaf (.sl))] (.block (.seq .leaf (.join [] (.seq .leaf (.cond (.seq .leaf .leaf) .leaf)) (.seq .leaf .leaf)))))))))))
theorem zmo:Entry Go.Proofs.Tryz.prog 107 zie false:=
 za0 (C:=zac8) (fn:=Go.Proofs.Tryz.f107) (c:=zabj) (an:=zaau) ⟨zjm,znn,zgh,zs6,zaw,zl5,trivial⟩ trivial Go.Proofs.Tryz.func107 rfl rfl (by decide) (λ_=>rfl) (by intro a K D;kernel_rfl)
noncomputable def zadx:ArgT (Sl×Sl×Unit):=(ArgT.cons (Ty.leaf .sl) (ArgT.cons (Ty.leaf .sl) ArgT.nil))
noncomputable def zaeb:Ty Bool:=(Ty.leaf .bool)
noncomputable def zwj:FSem:=mkE zadx zaeb (λa=>F.zob a.1 a.2.1)
noncomputable def zafc:Cfg:={ P:=Go.Proofs.Tryz.prog,n:=27,tab:=[(70,zsf)],mutL:=[],rtL:=[],locL:=[] }
noncomputable def zaez:Code:=match Go.Proofs.Tryz.f109.body with | some c=>c | none=>.skip
noncomputable def zaen:An:=(.seq .leaf (.seq (.seq .leaf (.cond (.seq .leaf .leaf) .leaf)) (.seq (.seq .leaf (.block (.loop [(5,.leaf (.int .i64))] (.seq (.seq .leaf (.cond .leaf .leaf)) (.seq (.block (.seq (.draw [0,1,2,3,4,5,6,7,8,9]) (.cond (.seq .leaf .leaf) .leaf))) .leaf))))) (.seq .leaf .leaf))))
theorem zagk:Entry Go.Proofs.Tryz.prog 109 zwj false:=
 za0 (C:=zafc) (fn:=Go.Proofs.Tryz.f109) (c:=zaez) (an:=zaen) ⟨zaco,trivial⟩ trivial Go.Proofs.Tryz.func109 rfl rfl (by decide) (λ_=>rfl) (by intro a K D;kernel_rfl)
noncomputable def za0j:ArgT (Int×(Option Addr)×Unit):=(ArgT.cons (Ty.leaf (.int .i64)) (ArgT.cons (Ty.leaf .ptr) ArgT.nil))
noncomputable def za10:Ty Int:=(Ty.leaf (.int .i64))
noncomputable def zot:FSem:=mkE za0j za10 (λa=>F.zfr a.1 a.2.1)
noncomputable def za2f:Cfg:={ P:=Go.Proofs.Tryz.prog,n:=8,tab:=[(81,zbf),(52,zje)],mutL:=[],rtL:=[],locL:=[] }
noncomputable def za1y:Code:=match Go.Proofs.Tryz.f108.body with | some c=>c | none=>.skip
noncomputable def za1h:An:=(.seq .leaf (.seq (.draw [0,1,2,3,4]) .leaf))
theorem za2x:Entry Go.Proofs.Tryz.prog 108 zot false:=
 za0 (C:=za2f) (fn:=Go.Proofs.Tryz.f108) (c:=za1y) (an:=za1h) ⟨zbw,zp1,trivial⟩ trivial Go.Proofs.Tryz.func108 rfl rfl (by decide) (λ_=>rfl) (by intro a K D;kernel_rfl)
noncomputable def za44:ArgT (Sl×Unit):=(ArgT.cons (Ty.leaf .sl) ArgT.nil)
noncomputable def za4t:Ty TInterval:=tyTInterval
noncomputable def zpv:FSem:=mkE za44 za4t (λa=>F.zoj a.1)
noncomputable def za6w:Cfg:={ P:=Go.Proofs.Tryz.prog,n:=10,tab:=[(34,zko),(97,zgs)],mutL:=[],rtL:=[],locL:=[2,3] }
noncomputable def za67:Code:=match Go.Proofs.Tryz.f113.body with | some c=>c | none=>.skip
noncomputable def za5i:An:=(.seq .leaf (.seq .leaf (.seq (.draw [0,2,1,3,4]) .leaf)))
theorem za8n:Entry Go.Proofs.Tryz.prog 113 zpv false:=
 za0 (C:=za6w) (fn:=Go.Proofs.Tryz.f113) (c:=za67) (an:=za5i) ⟨zuq,zl6,trivial⟩ trivial Go.Proofs.Tryz.func113 rfl rfl (by decide) (λ_=>rfl) (by intro a K D;kernel_rfl)
noncomputable def za0u:ArgT (Sl×TRat×TRat×Unit):=(ArgT.cons (Ty.leaf .sl) (ArgT.cons tyTRat (ArgT.cons tyTRat ArgT.nil)))
noncomputable def za1b:Ty Int:=(Ty.leaf (.int .i64))
noncomputable def zfu:FSem:=mkE za0u za1b (λa=>F.zdf a.1 a.2.1 a.2.2.1)
noncomputable def za2q:Cfg:={ P:=Go.Proofs.Tryz.prog,n:=14,tab:=[(52,zje)],mutL:=[],rtL:=[],locL:=[4,5] }
noncomputable def za29:Code:=match Go.Proofs.Tryz.f111.body with | some c=>c | none=>.skip
noncomputable def za1s:An:=(.seq .leaf (.seq (.draw [0,1,3,4,2,5,6,7]) .leaf))
theorem zjj:Entry Go.Proofs.Tryz.prog 111 zfu false:=
 za0 (C:=za2q) (fn:=Go.Proofs.Tryz.f111) (c:=za29) (an:=za1s) ⟨zp1,trivial⟩ trivial Go.Proofs.Tryz.func111 rfl rfl (by decide) (λ_=>rfl) (by intro a K D;kernel_rfl)
noncomputable def za9h:ArgT (Sl×TRat×TRat×Unit):=(ArgT.cons (Ty.leaf .sl) (ArgT.cons tyTRat (ArgT.cons tyTRat ArgT.nil)))
noncomputable def zaa6:Ty Int:=(Ty.leaf (.int .i64))
noncomputable def zsj:FSem:=mkE za9h zaa6 (λa=>F.zqe a.1 a.2.1 a.2.2.1)
noncomputable def zac9:Cfg:={ P:=Go.Proofs.Tryz.prog,n:=16,tab:=[(98,zcl),(107,zie),(111,zfu)],mutL:=[],rtL:=[],locL:=[4,5] }
noncomputable def zabk:Code:=match Go.Proofs.Tryz.f54.body with | some c=>c | none=>.skip
noncomputable def zaav:An:=(.seq .leaf (.seq (.seq .leaf (.cond (.seq .leaf .leaf) .leaf)) (.seq (.draw [0,2,3,1,4,5]) .leaf)))
theorem zacs:Entry Go.Proofs.Tryz.prog 54 zsj false:=
 za0 (C:=zac9) (fn:=Go.Proofs.Tryz.f54) (c:=zabk) (an:=zaav) ⟨zdw,zmo,zjj,trivial⟩ trivial Go.Proofs.Tryz.func54 rfl rfl (by decide) (λ_=>rfl) (by intro a K D;kernel_rfl)
noncomputable def za9i:ArgT (Sl×Unit):=(ArgT.cons (Ty.leaf .sl) ArgT.nil)
noncomputable def zaa7:Ty Int:=(Ty.leaf (.int .i64))
noncomputable def zsk:FSem:=mkE za9i zaa7 (λa=>F.zm4 a.1)
noncomputable def zaca:Cfg:={ P:=Go.Proofs.Tryz.prog,n:=12,tab:=[(113,zpv),(54,zsj)],mutL:=[],rtL:=[(7,3),(9,3)],locL:=[3] }
noncomputable def zabl:Code:=match Go.Proofs.Tryz.f57.body with | some c=>c | none=>.skip
noncomputable def zaaw:An:=(.seq .leaf (.seq .leaf (.seq .leaf .leaf)))
theorem zact:Entry Go.Proofs.Tryz.prog 57 zsk false:=
 za0 (C:=zaca) (fn:=Go.Proofs.Tryz.f57) (c:=zabl) (an:=zaaw) ⟨za8n,zacs,trivial⟩ trivial Go.Proofs.Tryz.func57 rfl rfl (by decide) (λ_=>rfl) (by intro a K D;kernel_rfl)
noncomputable def za8z:ArgT (Unit):=ArgT.nil
noncomputable def za9o:Ty Bool:=(Ty.leaf .bool)
noncomputable def zsa:FSem:=mkE za8z za9o (λa=>F.zc7 )
noncomputable def zabr:Cfg:={ P:=Go.Proofs.Tryz.prog,n:=32,tab:=[(63,zwe),(107,zie),(109,zwj),(108,zot),(57,zsk)],mutL:=[],rtL:=[],locL:=[] }
noncomputable def zab2:Code:=match Go.Proofs.Tryz.f49.body with | some c=>c | none=>.skip
noncomputable def zaad:An:=(.seq .leaf (.seq .leaf (.seq .leaf (.seq (.draw [0,1,2,3,4,5,6,7,8,9,10,11,12,13,14,15,16,17,18,19,20,21,22,23,24,25]) .leaf))))
theorem zacj:Entry Go.Proofs.Tryz.prog 49 zsa false:=
 za0 (C:=zabr) (fn:=Go.Proofs.Tryz.f49) (c:=zab2) (an:=zaad) ⟨zagf,zmo,zagk,za2x,zact,trivial⟩ trivial Go.Proofs.Tryz.func49 rfl rfl (by decide) (λ_=>rfl) (by intro a K D;kernel_rfl)
end Den
end

section
set_option maxRecDepth 100000
namespace Den
open Go
noncomputable def za9e:ArgT (TRat×Unit):=(ArgT.cons tyTRat ArgT.nil)
noncomputable def zaa3:Ty Bool:=(Ty.leaf .bool)
noncomputable def zmi:FSem:=mkE za9e zaa3 (λa=>F.zj3 a.1)
noncomputable def zac6:Cfg:={ P:=Go.Proofs.Tryz.prog,n:=19,tab:=[(35,zmf)],mutL:=[],rtL:=[(6,1),(7,1),(13,1),(14,1)],locL:=[1] }
noncomputable def zabh:Code:=match Go.Proofs.Tryz.f51.body with | some c=>c | none=>.skip
noncomputable def zaas:An:=(.seq .leaf (.seq .leaf .leaf))
theorem zsw:Entry Go.Proofs.Tryz.prog 51 zmi false:=
 za0 (C:=zac6) (fn:=Go.Proofs.Tryz.f51) (c:=zabh) (an:=zaas) ⟨zst,trivial⟩ trivial Go.Proofs.Tryz.func51 rfl rfl (by decide) (λ_=>rfl) (by intro a K D;kernel_rfl)
noncomputable def za9f:ArgT (Sl×Unit):=(ArgT.cons (Ty.leaf .sl) ArgT.nil)
noncomputable def zaa4:Ty Bool:=(Ty.leaf .bool)
noncomputable def zsi:FSem:=mkE za9f zaa4 (λa=>F.zly a.1)
noncomputable def zac7:Cfg:={ P:=Go.Proofs.Tryz.prog,n:=19,tab:=[(51,zmi)],mutL:=[],rtL:=[],locL:=[] }
noncomputable def zabi:Code:=match Go.Proofs.Tryz.f110.body with | some c=>c | none=>.skip
noncomputable def zaat:An:=(.seq .leaf (.seq (.seq .leaf (.block (.loop [(3,.leaf (.int .i64))] (.seq (.seq .leaf (.cond .leaf .leaf)) (.seq (.block (.seq .leaf (.cond (.seq .leaf .leaf) .leaf))) .leaf))))) (.seq .leaf .leaf)))
theorem zacr:Entry Go.Proofs.Tryz.prog 110 zsi false:=
 za0 (C:=zac7) (fn:=Go.Proofs.Tryz.f110) (c:=zabi) (an:=zaat) ⟨zsw,trivial⟩ trivial Go.Proofs.Tryz.func110 rfl rfl (by decide) (λ_=>rfl) (by intro a K D;kernel_rfl)
noncomputable def za90:ArgT (Sl×Unit):=(ArgT.cons (Ty.leaf .sl) ArgT.nil)
noncomputable def za9p:Ty Bool:=(Ty.leaf .bool)
noncomputable def zsb:FSem:=mkE za90 za9p (λa=>F.zls a.1)
noncomputable def zabs:Cfg:={ P:=Go.Proofs.Tryz.prog,n:=15,tab:=[(110,zsi)],mutL:=[],rtL:=[],locL:=[] }
noncomputable def zab3:Code:=match Go.Proofs.Tryz.f50.body with | some c=>c | none=>.skip
noncomputable def zaae:An:=(.seq .leaf (.seq (.seq .leaf (.block (.loop [(7,.leaf (.int .i64))] (.seq .leaf (.seq (.cond .leaf .leaf) (.seq (.block (.seq .leaf (.seq .leaf (.cond (.seq .leaf .leaf) .leaf)))) .leaf)))))) (.seq .leaf .leaf)))
theorem zack:Entry Go.Proofs.Tryz.prog 50 zsb false:=
 za0 (C:=zabs) (fn:=Go.Proofs.Tryz.f50) (c:=zab3) (an:=zaae) ⟨zacr,trivial⟩ trivial Go.Proofs.Tryz.func50 rfl rfl (by decide) (λ_=>rfl) (by intro a K D;kernel_rfl)
noncomputable def zalr:ArgT (Sl×Unit):=(ArgT.cons (Ty.leaf .sl) ArgT.nil)
noncomputable def zalw:Ty Sl:=(Ty.leaf .sl)
noncomputable def za7c:FSem:=mkE zalr zalw (λa=>F.zwm a.1)
noncomputable def zamb:Cfg:={ P:=Go.Proofs.Tryz.prog,n:=6,tab:=[],mutL:=[],rtL:=[],locL:=[] }
noncomputable def zam4:Code:=match Go.Proofs.Tryz.f55.body with | some c=>c | none=>.skip
noncomputable def zalz:An:=(.seq .leaf (.seq .leaf .leaf))
theorem zano:Entry Go.Proofs.Tryz.prog 55 za7c false:=
 za0 (C:=zamb) (fn:=Go.Proofs.Tryz.f55) (c:=zam4) (an:=zalz) trivial trivial Go.Proofs.Tryz.func55 rfl rfl (by decide) (λ_=>rfl) (by intro a K D;kernel_rfl)
noncomputable def zah7:ArgT (Sl×Sl×Unit):=(ArgT.cons (Ty.leaf .sl) (ArgT.cons (Ty.leaf .sl) ArgT.nil))
noncomputable def zahu:Ty Sl:=(Ty.leaf .sl)
noncomputable def zzu:FSem:=mkE zah7 zahu (λa=>F.zrb a.1 a.2.1)
noncomputable def zajm:Cfg:={ P:=Go.Proofs.Tryz.prog,n:=24,tab:=[(100,zmg),(24,zgx)],mutL:=[],rtL:=[],locL:=[] }
noncomputable def zaj2:Code:=match Go.Proofs.Tryz.f59.body with | some c=>c | none=>.skip
noncomputable def zaie:An:=(.seq .leaf (.seq .leaf (.seq (.block (.loop [(0,.leaf (.sl)),(1,.leaf (.sl))] (.seq (.seq .leaf (.cond .leaf .leaf)) (.block (.seq .leaf .leaf))))) (.seq .leaf .leaf))))
theorem zalj:Entry Go.Proofs.Tryz.prog 59 zzu false:=
 za0 (C:=zajm) (fn:=Go.Proofs.Tryz.f59) (c:=zaj2) (an:=zaie) ⟨zsu,zl9,trivial⟩ trivial Go.Proofs.Tryz.func59 rfl rfl (by decide) (λ_=>rfl) (by intro a K D;kernel_rfl)
noncomputable def zt7:ArgT (Sl×Unit):=(ArgT.cons (Ty.leaf .sl) ArgT.nil)
noncomputable def zth:Ty Sl:=(Ty.leaf .sl)
noncomputable def zkt:FSem:=mkE zt7 zth (λa=>F.zfe a.1)
noncomputable def zuc:Cfg:={ P:=Go.Proofs.Tryz.prog,n:=22,tab:=[(100,zmg),(27,zg1),(59,zzu),(24,zgx)],mutL:=[],rtL:=[],locL:=[] }
noncomputable def zu1:Code:=match Go.Proofs.Tryz.f157.body with | some c=>c | none=>.skip
noncomputable def ztr:An:=(.seq .leaf (.seq .leaf (.seq (.seq .leaf (.cond (.seq .leaf .leaf) .leaf)) (.seq .leaf (.seq .leaf .leaf)))))
theorem zus:Entry Go.Proofs.Tryz.prog 157 zkt false:=
 za0 (C:=zuc) (fn:=Go.Proofs.Tryz.f157) (c:=zu1) (an:=ztr) ⟨zsu,zl8,zalj,zl9,trivial⟩ trivial Go.Proofs.Tryz.func157 rfl rfl (by decide) (λ_=>rfl) (by intro a K D;kernel_rfl)
noncomputable def za9c:ArgT (Sl×Unit):=(ArgT.cons (Ty.leaf .sl) ArgT.nil)
noncomputable def zaa1:Ty Sl:=(Ty.leaf .sl)
noncomputable def zsg:FSem:=mkE za9c zaa1 (λa=>F.zlw a.1)
noncomputable def zac4:Cfg:={ P:=Go.Proofs.Tryz.prog,n:=35,tab:=[(23,zps),(157,zkt),(27,zg1),(24,zgx),(81,zbf),(33,zfm)],mutL:=[],rtL:=[],locL:=[22] }
noncomputable def zabf:Code:=match Go.Proofs.Tryz.f112.body with | some c=>c | none=>.skip
noncomputable def zaaq:An:=(.seq .leaf (.seq (.seq .leaf (.cond (.seq .leaf .leaf) .leaf)) (.seq .leaf (.seq .leaf (.seq .leaf (.seq (.block (.loop [(3,.leaf (.sl)),(4,.leaf (.sl)),(5,.leaf (.sl))] (.seq (.seq .leaf (.cond .leaf .leaf)) (.block (.seq .leaf (.seq .leaf .leaf)))))) (.seq .leaf .leaf)))))))
theorem zacp:Entry Go.Proofs.Tryz.prog 112 zsg false:=
 za0 (C:=zac4) (fn:=Go.Proofs.Tryz.f112) (c:=zabf) (an:=zaaq) ⟨za8l,zus,zl8,zl9,zbw,zio,trivial⟩ trivial Go.Proofs.Tryz.func112 rfl rfl (by decide) (λ_=>rfl) (by intro a K D;kernel_rfl)
noncomputable def za9d:ArgT (Sl×TRat×TRat×Unit):=(ArgT.cons (Ty.leaf .sl) (ArgT.cons tyTRat (ArgT.cons tyTRat ArgT.nil)))
noncomputable def zaa2:Ty Int:=(Ty.leaf (.int .i64))
noncomputable def zsh:FSem:=mkE za9d zaa2 (λa=>F.zlx a.1 a.2.1 a.2.2.1)
noncomputable def zac5:Cfg:={ P:=Go.Proofs.Tryz.prog,n:=21,tab:=[(36,zlo),(112,zsg),(53,zoy)],mutL:=[],rtL:=[],locL:=[4,5] }
noncomputable def zabg:Code:=match Go.Proofs.Tryz.f56.body with | some c=>c | none=>.skip
noncomputable def zaar:An:=(.seq .leaf (.seq (.seq .leaf (.cond (.seq .leaf .leaf) .leaf)) (.seq .leaf (.seq (.draw [0,1,3,4,2,5,6,7]) .leaf))))
theorem zacq:Entry Go.Proofs.Tryz.prog 56 zsh false:=
 za0 (C:=zac5) (fn:=Go.Proofs.Tryz.f56) (c:=zabg) (an:=zaar) ⟨zqq,zacp,za32,trivial⟩ trivial Go.Proofs.Tryz.func56 rfl rfl (by decide) (λ_=>rfl) (by intro a K D;kernel_rfl)
noncomputable def za0f:ArgT (TInt×Unit):=(ArgT.cons tyTInt ArgT.nil)
noncomputable def za0w:Ty Bool:=(Ty.leaf .bool)
noncomputable def zoq:FSem:=mkE za0f za0w (λa=>F.zfp a.1)
noncomputable def za2b:Cfg:={ P:=Go.Proofs.Tryz.prog,n:=27,tab:=[],mutL:=[],rtL:=[(4,1),(10,1),(18,1)],locL:=[1] }
noncomputable def za1u:Code:=match Go.Proofs.Tryz.f183.body with | some c=>c | none=>.skip
noncomputable def za1d:An:=(.seq .leaf (.seq .leaf (.seq .leaf .leaf)))
theorem za2u:Entry Go.Proofs.Tryz.prog 183 zoq false:=
 za0 (C:=za2b) (fn:=Go.Proofs.Tryz.f183) (c:=za1u) (an:=za1d) trivial trivial Go.Proofs.Tryz.func183 rfl rfl (by decide) (λ_=>rfl) (by intro a K D;kernel_rfl)
noncomputable def zxg:ArgT (TRat×Unit):=(ArgT.cons tyTRat ArgT.nil)
noncomputable def zxs:Ty Bool:=(Ty.leaf .bool)
noncomputable def zi0:FSem:=mkE zxg zxs (λa=>F.zco a.1)
noncomputable def zyt:Cfg:={ P:=Go.Proofs.Tryz.prog,n:=25,tab:=[(183,zoq),(153,zgr),(86,zmb),(127,zdn)],mutL:=[],rtL:=[(3,1),(7,1),(12,1),(18,1),(20,1)],locL:=[1] }
noncomputable def zyh:Code:=match Go.Proofs.Tryz.f158.body with | some c=>c | none=>.skip
noncomputable def zy5:An:=(.seq .leaf (.seq .leaf .leaf))
theorem zno:Entry Go.Proofs.Tryz.prog 158 zi0 false:=
 za0 (C:=zyt) (fn:=Go.Proofs.Tryz.f158) (c:=zyh) (an:=zy5) ⟨za2u,zl3,zsp,zff,trivial⟩ trivial Go.Proofs.Tryz.func158 rfl rfl (by decide) (λ_=>rfl) (by intro a K D;kernel_rfl)
noncomputable def zxd:ArgT (TInterval×Unit):=(ArgT.cons tyTInterval ArgT.nil)
noncomputable def zxp:Ty Bool:=(Ty.leaf .bool)
noncomputable def zn5:FSem:=mkE zxd zxp (λa=>F.zku a.1)
noncomputable def zyq:Cfg:={ P:=Go.Proofs.Tryz.prog,n:=19,tab:=[(158,zi0),(98,zcl)],mutL:=[],rtL:=[(3,1),(7,1),(12,1),(14,1)],locL:=[1] }
noncomputable def zye:Code:=match Go.Proofs.Tryz.f159.body with | some c=>c | none=>.skip
noncomputable def zy2:An:=(.seq .leaf (.seq .leaf .leaf))
theorem zzc:Entry Go.Proofs.Tryz.prog 159 zn5 false:=
 za0 (C:=zyq) (fn:=Go.Proofs.Tryz.f159) (c:=zye) (an:=zy2) ⟨zno,zdw,trivial⟩ trivial Go.Proofs.Tryz.func159 rfl rfl (by decide) (λ_=>rfl) (by intro a K D;kernel_rfl)
noncomputable def za46:ArgT (Sl×TInterval×Unit):=(ArgT.cons (Ty.leaf .sl) (ArgT.cons tyTInterval ArgT.nil))
noncomputable def za4v:Ty Bool:=(Ty.leaf .bool)
noncomputable def zpx:FSem:=mkE za46 za4v (λa=>F.zhd a.1 a.2.1)
noncomputable def za6y:Cfg:={ P:=Go.Proofs.Tryz.prog,n:=34,tab:=[(158,zi0),(159,zn5),(98,zcl),(111,zfu)],mutL:=[],rtL:=[(5,3),(9,3),(18,3),(20,3),(27,3),(29,3)],locL:=[3] }
noncomputable def za69:Code:=match Go.Proofs.Tryz.f115.body with | some c=>c | none=>.skip
noncomputable def za5k:An:=(.seq .leaf (.seq .leaf .leaf))
theorem za8p:Entry Go.Proofs.Tryz.prog 115 zpx false:=
 za0 (C:=za6y) (fn:=Go.Proofs.Tryz.f115) (c:=za69) (an:=za5k) ⟨zno,zzc,zdw,zjj,trivial⟩ trivial Go.Proofs.Tryz.func115 rfl rfl (by decide) (λ_=>rfl) (by intro a K D;kernel_rfl)
noncomputable def zxj:ArgT (TInterval×Unit):=(ArgT.cons tyTInterval ArgT.nil)
noncomputable def zxv:Ty Bool:=(Ty.leaf .bool)
noncomputable def zn8:FSem:=mkE zxj zxv (λa=>F.zh9 a.1)
noncomputable def zyw:Cfg:={ P:=Go.Proofs.Tryz.prog,n:=19,tab:=[(35,zmf),(36,zlo)],mutL:=[],rtL:=[(3,1),(7,1),(12,1),(14,1)],locL:=[1] }
noncomputable def zyk:Code:=match Go.Proofs.Tryz.f116.body with | some c=>c | none=>.skip
noncomputable def zy8:An:=(.seq .leaf (.seq .leaf .leaf))
theorem zzf:Entry Go.Proofs.Tryz.prog 116 zn8 false:=
 za0 (C:=zyw) (fn:=Go.Proofs.Tryz.f116) (c:=zyk) (an:=zy8) ⟨zst,zqq,trivial⟩ trivial Go.Proofs.Tryz.func116 rfl rfl (by decide) (λ_=>rfl) (by intro a K D;kernel_rfl)
noncomputable def zaha:ArgT (Sl×TInterval×Unit):=(ArgT.cons (Ty.leaf .sl) (ArgT.cons tyTInterval ArgT.nil))
noncomputable def zahx:Ty Bool:=(Ty.leaf .bool)
noncomputable def zzw:FSem:=mkE zaha zahx (λa=>F.zk9 a.1 a.2.1)
noncomputable def zajp:Cfg:={ P:=Go.Proofs.Tryz.prog,n:=16,tab:=[(116,zn8),(56,zsh)],mutL:=[],rtL:=[(9,3),(11,3)],locL:=[3] }
noncomputable def zaj5:Code:=match Go.Proofs.Tryz.f61.body with | some c=>c | none=>.skip
noncomputable def zaih:An:=(.seq .leaf (.seq .leaf .leaf))
theorem zall:Entry Go.Proofs.Tryz.prog 61 zzw false:=
 za0 (C:=zajp) (fn:=Go.Proofs.Tryz.f61) (c:=zaj5) (an:=zaih) ⟨zzf,zacq,trivial⟩ trivial Go.Proofs.Tryz.func61 rfl rfl (by decide) (λ_=>rfl) (by intro a K D;kernel_rfl)
noncomputable def za3k:ArgT (TInt×Unit):=(ArgT.cons tyTInt ArgT.nil)
noncomputable def za49:Ty TInt:=tyTInt
noncomputable def zpl:FSem:=mkE za3k za49 (λa=>F.zh0 a.1)
noncomputable def za6c:Cfg:={ P:=Go.Proofs.Tryz.prog,n:=10,tab:=[(139,zaj),(143,zax),(137,zbj)],mutL:=[],rtL:=[(3,1),(5,1)],locL:=[1,2] }
noncomputable def za5n:Code:=match Go.Proofs.Tryz.f191.body with | some c=>c | none=>.skip
noncomputable def za4y:An:=(.seq .leaf (.seq (.draw [0,1,2,3,4,5,6,7]) .leaf))
theorem za8g:Entry Go.Proofs.Tryz.prog 191 zpl false:=
 za0 (C:=za6c) (fn:=Go.Proofs.Tryz.f191) (c:=za5n) (an:=za4y) ⟨zan,zbh,zc1,trivial⟩ trivial Go.Proofs.Tryz.func191 rfl rfl (by decide) (λ_=>rfl) (by intro a K D;kernel_rfl)
noncomputable def za0m:ArgT (TInt×TInt×Unit):=(ArgT.cons tyTInt (ArgT.cons tyTInt ArgT.nil))
noncomputable def za13:Ty (TRat×Int):=(Ty.tup (.cons tyTRat (.cons (Ty.leaf (.int .i64)) .nil)) (λx=>(x.1,x.2,())) (λy=>(y.1,y.2.1)) (λ_=>rfl) (λ_=>rfl))
noncomputable def zow:FSem:=mkE za0m za13 (λa=>F.zil a.1 a.2.1)
noncomputable def za2i:Cfg:={ P:=Go.Proofs.Tryz.prog,n:=16,tab:=[(191,zpl),(165,zgt),(130,zcz)],mutL:=[],rtL:=[],locL:=[2,3,4] }
noncomputable def za21:Code:=match Go.Proofs.Tryz.f184.body with | some c=>c | none=>.skip
noncomputable def za1k:An:=(.seq .leaf (.seq (.draw [0,2,1,3,4,5]) (.seq (.seq .leaf (.cond (.seq .leaf .leaf) .leaf)) (.seq .leaf .leaf))))
theorem za30:Entry Go.Proofs.Tryz.prog 184 zow false:=
 za0 (C:=za2i) (fn:=Go.Proofs.Tryz.f184) (c:=za21) (an:=za1k) ⟨za8g,zm6,zem,trivial⟩ trivial Go.Proofs.Tryz.func184 rfl rfl (by decide) (λ_=>rfl) (by intro a K D;kernel_rfl)
noncomputable def za0l:ArgT (Int×Int×Unit):=(ArgT.cons (Ty.leaf (.int .i64)) (ArgT.cons (Ty.leaf (.int .i64)) ArgT.nil))
noncomputable def za12:Ty TRat:=tyTRat
noncomputable def zov:FSem:=mkE za0l za12 (λa=>F.zik a.1 a.2.1)
noncomputable def za2h:Cfg:={ P:=Go.Proofs.Tryz.prog,n:=19,tab:=[(84,zek),(184,zow),(79,zaq)],mutL:=[],rtL:=[],locL:=[4,5] }
noncomputable def za20:Code:=match Go.Proofs.Tryz.f160.body with | some c=>c | none=>.skip
noncomputable def za1j:An:=(.seq .leaf (.seq .leaf (.seq (.seq .leaf (.cond (.seq .leaf .leaf) .leaf)) (.seq .leaf .leaf))))
theorem za2z:Entry Go.Proofs.Tryz.prog 160 zov false:=
 za0 (C:=za2h) (fn:=Go.Proofs.Tryz.f160) (c:=za20) (an:=za1j) ⟨zhe,za30,zaw,trivial⟩ trivial Go.Proofs.Tryz.func160 rfl rfl (by decide) (λ_=>rfl) (by intro a K D;kernel_rfl)
noncomputable def za45:ArgT (TInterval×Unit):=(ArgT.cons tyTInterval ArgT.nil)
noncomputable def za4u:Ty TRat:=tyTRat
noncomputable def zpw:FSem:=mkE za45 za4u (λa=>F.zjw a.1)
noncomputable def za6x:Cfg:={ P:=Go.Proofs.Tryz.prog,n:=10,tab:=[(74,zck),(160,zov),(75,zdm)],mutL:=[],rtL:=[(3,1),(5,1)],locL:=[1,2] }
noncomputable def za68:Code:=match Go.Proofs.Tryz.f120.body with | some c=>c | none=>.skip
noncomputable def za5j:An:=(.seq .leaf (.seq .leaf .leaf))
theorem za8o:Entry Go.Proofs.Tryz.prog 120 zpw false:=
 za0 (C:=za6x) (fn:=Go.Proofs.Tryz.f120) (c:=za68) (an:=za5j) ⟨zdv,za2z,zex,trivial⟩ trivial Go.Proofs.Tryz.func120 rfl rfl (by decide) (λ_=>rfl) (by intro a K D;kernel_rfl)
end Den
end

section
set_option maxRecDepth 100000
namespace Den
open Go
noncomputable def zxe:ArgT (TInterval×Unit):=(ArgT.cons tyTInterval ArgT.nil)
noncomputable def zxq:Ty TRat:=tyTRat
noncomputable def zn6:FSem:=mkE zxe zxq (λa=>F.zh2 a.1)
noncomputable def zyr:Cfg:={ P:=Go.Proofs.Tryz.prog,n:=8,tab:=[(132,zkr)],mutL:=[],rtL:=[(3,1),(5,1)],locL:=[1,2] }
noncomputable def zyf:Code:=match Go.Proofs.Tryz.f119.body with | some c=>c | none=>.skip
noncomputable def zy3:An:=(.seq .leaf (.seq .leaf .leaf))
theorem zzd:Entry Go.Proofs.Tryz.prog 119 zn6 false:=
 za0 (C:=zyr) (fn:=Go.Proofs.Tryz.f119) (c:=zyf) (an:=zy3) ⟨zqk,trivial⟩ trivial Go.Proofs.Tryz.func119 rfl rfl (by decide) (λ_=>rfl) (by intro a K D;kernel_rfl)
noncomputable def za0i:ArgT (Sl×Unit):=(ArgT.cons (Ty.leaf .sl) ArgT.nil)
noncomputable def za0z:Ty TInterval:=tyTInterval
noncomputable def zos:FSem:=mkE za0i za0z (λa=>F.zig a.1)
noncomputable def za2e:Cfg:={ P:=Go.Proofs.Tryz.prog,n:=40,tab:=[(98,zcl),(79,zaq),(74,zck)],mutL:=[],rtL:=[],locL:=[2,3,4,6,7] }
noncomputable def za1x:Code:=match Go.Proofs.Tryz.f161.body with | some c=>c | none=>.skip
noncomputable def za1g:An:=(.seq .leaf (.seq (.draw [0,1,2,3,4,5,6,7,8,9]) (.seq (.seq .leaf (.block (.loop [(3,.box [.bool,.sl,.bool,.sl]),(4,.box [.bool,.sl,.bool,.sl]),(17,.leaf (.int .i64))] (.seq .leaf (.seq (.cond .leaf .leaf) (.join [(3,.box [.bool,.sl,.bool,.sl]),(4,.box [.bool,.sl,.bool,.sl])] (.block (.seq .leaf (.join [(3,.box [.bool,.sl,.bool,.sl])] (.seq .leaf (.cond .leaf .leaf)) (.seq .leaf (.cond .leaf .leaf))))) .leaf)))))) (.seq .leaf (.seq (.draw [0,1,3,4,2,5,6,7]) .leaf)))))
theorem za2w:Entry Go.Proofs.Tryz.prog 161 zos false:=
 za0 (C:=za2e) (fn:=Go.Proofs.Tryz.f161) (c:=za1x) (an:=za1g) ⟨zdw,zaw,zdv,trivial⟩ trivial Go.Proofs.Tryz.func161 rfl rfl (by decide) (λ_=>rfl) (by intro a K D;kernel_rfl)
noncomputable def zxc:ArgT (TRat×Unit):=(ArgT.cons tyTRat ArgT.nil)
noncomputable def zxo:Ty TInterval:=tyTInterval
noncomputable def zn4:FSem:=mkE zxc zxo (λa=>F.zh1 a.1)
noncomputable def zyp:Cfg:={ P:=Go.Proofs.Tryz.prog,n:=7,tab:=[(161,zos)],mutL:=[],rtL:=[],locL:=[1,2] }
noncomputable def zyd:Code:=match Go.Proofs.Tryz.f122.body with | some c=>c | none=>.skip
noncomputable def zy1:An:=(.seq .leaf (.seq .leaf .leaf))
theorem zzb:Entry Go.Proofs.Tryz.prog 122 zn4 false:=
 za0 (C:=zyp) (fn:=Go.Proofs.Tryz.f122) (c:=zyd) (an:=zy1) ⟨za2w,trivial⟩ trivial Go.Proofs.Tryz.func122 rfl rfl (by decide) (λ_=>rfl) (by intro a K D;kernel_rfl)
noncomputable def za3o:ArgT (TInterval×TInterval×Unit):=(ArgT.cons tyTInterval (ArgT.cons tyTInterval ArgT.nil))
noncomputable def za4d:Ty TInterval:=tyTInterval
noncomputable def zpm:FSem:=mkE za3o za4d (λa=>F.zjr a.1 a.2.1)
noncomputable def za6g:Cfg:={ P:=Go.Proofs.Tryz.prog,n:=16,tab:=[(74,zck)],mutL:=[],rtL:=[(5,2),(7,3),(10,2),(12,3)],locL:=[2,3,4] }
noncomputable def za5r:Code:=match Go.Proofs.Tryz.f121.body with | some c=>c | none=>.skip
noncomputable def za52:An:=(.seq .leaf (.seq (.draw [0,1,2,3,5,6,7,8,4,9,10,11]) .leaf))
theorem za8h:Entry Go.Proofs.Tryz.prog 121 zpm false:=
 za0 (C:=za6g) (fn:=Go.Proofs.Tryz.f121) (c:=za5r) (an:=za52) ⟨zdv,trivial⟩ trivial Go.Proofs.Tryz.func121 rfl rfl (by decide) (λ_=>rfl) (by intro a K D;kernel_rfl)
noncomputable def za43:ArgT (Sl×TInterval×TRat×Unit):=(ArgT.cons (Ty.leaf .sl) (ArgT.cons tyTInterval (ArgT.cons tyTRat ArgT.nil)))
noncomputable def za4s:Ty (TInterval×Int):=(Ty.tup (.cons tyTInterval (.cons (Ty.leaf (.int .i64)) .nil)) (λx=>(x.1,x.2,())) (λy=>(y.1,y.2.1)) (λ_=>rfl) (λ_=>rfl))
noncomputable def zpu:FSem:=mkE za43 za4s (λa=>F.zjv a.1 a.2.1 a.2.2.1)
noncomputable def za6v:Cfg:={ P:=Go.Proofs.Tryz.prog,n:=43,tab:=[(107,zie),(119,zn6),(98,zcl),(120,zpw),(111,zfu),(79,zaq),(122,zn4),(121,zpm),(115,zpx),(96,zcw)],mutL:=[],rtL:=[(30,4),(36,4),(38,4)],locL:=[4,5,6,9] }
noncomputable def za66:Code:=match Go.Proofs.Tryz.f66.body with | some c=>c | none=>.skip
noncomputable def za5h:An:=(.seq .leaf (.seq .leaf (.join [(6,.box [.bool,.sl,.bool,.sl,.bool,.sl,.bool,.sl])] (.seq .leaf (.cond (.seq .leaf .leaf) .leaf)) (.seq (.block (.loop [(4,.box [.bool,.sl,.bool,.sl,.bool,.sl,.bool,.sl])] (.seq (.seq (.draw [0,2,1,3,4]) (.cond .leaf .leaf)) (.block (.seq .leaf (.seq .leaf (.cond .leaf .leaf))))))) (.seq (.draw [0,1,2,3,4,5]) .leaf)))))
theorem za8m:Entry Go.Proofs.Tryz.prog 66 zpu false:=
 za0 (C:=za6v) (fn:=Go.Proofs.Tryz.f66) (c:=za66) (an:=za5h) ⟨zmo,zzd,zdw,za8o,zjj,zaw,zzb,za8h,za8p,zeg,trivial⟩ trivial Go.Proofs.Tryz.func66 rfl rfl (by decide) (λ_=>rfl) (by intro a K D;kernel_rfl)
noncomputable def zah3:ArgT (TRat×TRat×Unit):=(ArgT.cons tyTRat (ArgT.cons tyTRat ArgT.nil))
noncomputable def zahq:Ty TRat:=tyTRat
noncomputable def zzt:FSem:=mkE zah3 zahq (λa=>F.zra a.1 a.2.1)
noncomputable def zaji:Cfg:={ P:=Go.Proofs.Tryz.prog,n:=9,tab:=[(117,zzs),(103,zln)],mutL:=[],rtL:=[],locL:=[2,3,4] }
noncomputable def zaiy:Code:=match Go.Proofs.Tryz.f67.body with | some c=>c | none=>.skip
noncomputable def zaia:An:=(.seq .leaf (.seq (.draw [0,1,2,3,4]) .leaf))
theorem zali:Entry Go.Proofs.Tryz.prog 67 zzt false:=
 za0 (C:=zaji) (fn:=Go.Proofs.Tryz.f67) (c:=zaiy) (an:=zaia) ⟨zalh,zqp,trivial⟩ trivial Go.Proofs.Tryz.func67 rfl rfl (by decide) (λ_=>rfl) (by intro a K D;kernel_rfl)
noncomputable def zrf:ArgT (Sl×TInterval×TRat×Unit):=(ArgT.cons (Ty.leaf .sl) (ArgT.cons tyTInterval (ArgT.cons tyTRat ArgT.nil)))
noncomputable def zrl:Ty Bool:=(Ty.leaf .bool)
noncomputable def zs4:FSem:=mkE zrf zrl (λa=>F.zh3 a.1 a.2.1 a.2.2.1)
noncomputable def zs0:Cfg:={ P:=Go.Proofs.Tryz.prog,n:=123,tab:=[(55,za7c),(66,zpu),(61,zzw),(36,zlo),(67,zzt),(32,zjp),(49,zsa),(50,zsb),(51,zmi)],mutL:=[],rtL:=[(23,4),(24,4),(25,4),(31,4),(32,4),(33,4),(39,4),(40,4),(41,4),(47,4),(48,4),(49,4),(75,7),(76,7),(77,7),(83,7),(84,7),(85,7),(98,4),(100,7),(106,7),(108,4),(114,7),(116,7)],locL:=[4,5,7] }
noncomputable def zrv:Code:=match Go.Proofs.Tryz.f14.body with | some c=>c | none=>.skip
noncomputable def zrq:An:=(.seq .leaf (.join [] (.seq .leaf (.cond (.seq .leaf .leaf) .leaf)) (.seq (.draw [0,2,3,8,1,4,5,6,7,9,10]) (.join [] (.seq .leaf (.cond (.seq .leaf .leaf) .leaf)) (.seq (.draw [0,1,2,3,4,5,6,7,8,9,10,11,12,13,14,15,16,17,18,19,20,21,22,23,24,25,26,27,29,28,30,31,32,33]) .leaf)))))
theorem zalq:Entry Go.Proofs.Tryz.prog 14 zs4 false:=
 za0 (C:=zs0) (fn:=Go.Proofs.Tryz.f14) (c:=zrv) (an:=zrq) ⟨zano,za8m,zall,zqq,zali,zok,zacj,zack,zsw,trivial⟩ trivial Go.Proofs.Tryz.func14 rfl rfl (by decide) (λ_=>rfl) (by intro a K D;kernel_rfl)
end Den
end

section
namespace Den
open Go Iv Pq
def CD(a:Nat)(f:Nat->Rat):Prop:=∃(D:Int) (n:Nat->Int),D≠0/\Lt a D/\(∀j,Lt a (n j))/\∀j,f j*(D:Rat)=(n j:Rat)
theorem zo6{D:Int}(h:D≠0):(D:Rat)≠0:=λh0=>h (Rat.intCast_inj.1 (by rw[h0];rfl))
theorem zdx(x:Rat):x*((x.den:Nat):Rat)=(x.num:Rat):=by
 have h:=Rat.num_divInt_den x
 rw[Rat.divInt_eq_div,Rat.intCast_natCast]at h
 have h0:((x.den:Nat):Rat)≠0:=by
  have:=zo6 (zce x)
  rwa [Rat.intCast_natCast]at this
 have h2:=Rat.mul_inv_cancel _ h0
 rw[Rat.div_def]at h
 generalize ((x.den:Nat):Rat)=d at *
 generalize ((x.num:Int):Rat)=m at *
 rw[<-h,Rat.mul_assoc,Rat.mul_comm d⁻¹ d,h2,Rat.mul_one]
theorem Lt.zero{k:Nat}:Lt k 0:=by unfold Lt;exact Nat.pow_pos W_pos
theorem CD.mono{a b:Nat}{f:Nat->Rat}(h:CD a f)(hb:a<=b):CD b f:=by
 obtain⟨D,n,h1,h2,h3,h4⟩:=h
 exact⟨D,n,h1,h2.mono hb,λj=>(h3 j).mono hb,h4⟩
theorem CD.congr{a:Nat}{f g:Nat->Rat}(h:CD a f)(hg:∀j,g j=f j):CD a g:=by
 obtain⟨D,n,h1,h2,h3,h4⟩:=h
 exact⟨D,n,h1,h2,h3,λj=>by rw[hg];exact h4 j⟩
theorem BR_of{a:Nat}{x:Rat}{D n:Int}(h0:D≠0)(hD:Lt a D)(hn:Lt a n)(he:x*(D:Rat)=(n:Rat)):BR a x:=by
 have e:x=Rat.divInt n D:=by
  rw[Rat.divInt_eq_div,<-he,Rat.div_def,Rat.mul_assoc,Rat.mul_inv_cancel _ (zo6 h0),Rat.mul_one]
 rw[e];exact BR.divInt hn hD h0
theorem CD.br{a:Nat}{f:Nat->Rat}(h:CD a f)(j:Nat):BR a (f j):=by
 obtain⟨D,n,h1,h2,h3,h4⟩:=h
 exact BR_of h1 h2 (h3 j) (h4 j)
theorem CD.step{A B d s:Nat}{f b:Nat->Rat}(hf:CD A f)(hb:CD B b)(h0:b d≠0):CD (A+B+1) (stepF b d s f):=by
 obtain⟨D,n,h1,h2,h3,h4⟩:=hf
 obtain⟨E,m,g1,g2,g3,g4⟩:=hb
 have hE:=zo6 g1
 have hm:m d≠0:=λhm=>h0 (by
  have:=g4 d
  rw[hm]at this
  rcases Rat.mul_eq_zero.1 (show b d*(E:Rat)=0 from this)with h | h
  . exact h
  . exact absurd h hE)
 refine⟨D*m d,λj=>if s<=j then n j*m d+-(n (s+d)*m (j-s))else n j*m d,Int.mul_ne_zero h1 hm,(h2.mul (g3 d)).mono (by omega),λj=>?_,λj=>?_⟩
 . simp only
   split
   . exact((h3 j).mul (g3 d)).addm ((h3 (s+d)).mul (g3 (j-s))).neg
   . exact((h3 j).mul (g3 d)).mono (by omega)
 . simp only
   unfold stepF
   rw[Rat.intCast_mul]
   split
   . have e1:b (j-s)/b d*(m d:Rat)=(m (j-s):Rat):=by
      rw[<-g4 d,<-g4 (j-s),Rat.div_def]
      have:=Rat.mul_inv_cancel _ h0
      grind
     have e2:f (s+d)/b d*b (j-s)=f (s+d)*(b (j-s)/b d):=by rw[Rat.div_def,Rat.div_def];grind
     rw[Rat.intCast_add,Rat.intCast_neg,Rat.intCast_mul,Rat.intCast_mul,<-h4 j,<-h4 (s+d),<-e1,e2]
     grind
   . rw[Rat.intCast_mul,<-h4 j];grind
theorem CD.restK{A B d N:Nat}{f b:Nat->Rat}(hf:CD A f)(hb:CD B b)(h0:b d≠0):∀{k:Nat},CD (A+k*(B+1)) (restK b d N f k)
 | 0=>hf.mono (by omega)
 | k+1=>by
   have ih:=CD.restK (N:=N) hf hb h0 (k:=k)
   have:=ih.step hb h0 (s:=N-1-k)
   refine CD.mono this ?_
   rw[Nat.succ_mul];omega
theorem CD.mon{A d:Nat}{f:Nat->Rat}(hf:CD A f)(h0:f d≠0):CD A (λj=>(((1:Int):Rat))/f d*f j):=by
 obtain⟨D,n,h1,h2,h3,h4⟩:=hf
 have hD:=zo6 h1
 have hn:n d≠0:=λhn=>h0 (by
  have:=h4 d
  rw[hn]at this
  rcases Rat.mul_eq_zero.1 (show f d*(D:Rat)=0 from this)with h | h
  . exact h
  . exact absurd h hD)
 refine⟨n d,n,hn,h3 d,h3,λj=>?_⟩
 rw[<-h4 d,<-h4 j,Rat.div_def]
 have:=Rat.mul_inv_cancel _ h0
 have e:(((1:Int):Rat))=1:=rfl
 grind
theorem CD.der{A N:Nat}{f:Nat->Rat}(hf:CD A f)(hz:∀i,N<=i->f i=0)(hN:N<=4294967296):CD (A+1) (der f):=by
 obtain⟨D,n,h1,h2,h3,h4⟩:=hf
 refine⟨D,λi=>if i+1<N then n (i+1)*((i+1:Nat):Int)else 0,h1,h2.mono (by omega),λj=>?_,λj=>?_⟩
 . simp only
   split
   . refine(h3 _).mul ?_
     unfold Lt
     rw[Nat.pow_one,W_eq,Int.natAbs_natCast];omega
   . exact Lt.zero
 . simp only
   unfold Pq.der
   split
   . rw[Rat.intCast_mul,<-h4 (j+1),Rat.intCast_natCast];grind
   . rw[hz (j+1) (by omega)]
     show _=(0:Rat)
     grind
theorem CD.neg{A:Nat}{f:Nat->Rat}(hf:CD A f):CD A (λj=>(((-1:Int):Rat))*f j):=by
 obtain⟨D,n,h1,h2,h3,h4⟩:=hf
 refine⟨D,λj=>-(n j),h1,h2,λj=>(h3 j).neg,λj=>?_⟩
 have e2:((-(n j):Int):Rat)=-((n j:Int):Rat):=Rat.intCast_neg _
 simp only
 rw[e2,<-h4 j]
 have e:(((-1:Int):Rat))=-1:=rfl
 grind
theorem CD.of_BR{k N:Nat}{f:Nat->Rat}(hf:∀j,BR k (f j))(hz:∀i,N<=i->f i=0):CD ((N+1)*k+1) f:=by
 have key:∀M,∃D:Int,D≠0/\Lt (M*k+1) D/\∀j,j<M->∃t:Int,f j*(D:Rat)=(t:Rat):=by
  intro M
  induction M with
  | zero=>exact⟨1,by decide,by unfold Lt;rw[Nat.zero_mul,W_eq];decide,λj hj=>absurd hj (Nat.not_lt_zero j)⟩
  | succ M ih=>
    obtain⟨D,h1,h2,h3⟩:=ih
    refine⟨D*((f M).den:Int),Int.mul_ne_zero h1 (zce (f M)),(h2.mul (hf M).2).mono (by rw[Nat.succ_mul];omega),λj hj=>?_⟩
    rw[Rat.intCast_mul]
    by_cases hjM:j=M
    . subst hjM
      refine⟨(f j).num*D,?_⟩
      rw[Rat.intCast_mul,Rat.intCast_natCast]
      have:=zdx (f j)
      grind
    . obtain⟨t,ht⟩:=h3 j (by omega)
      refine⟨t*((f M).den:Int),?_⟩
      rw[Rat.intCast_mul,<-ht];grind
 obtain⟨D,h1,h2,h3⟩:=key N
 have h4:∀j,∃t:Int,f j*(D:Rat)=(t:Rat):=λj=>by
  rcases Nat.lt_or_ge j N with h | h
  . exact h3 j h
  . exact⟨0,by rw[hz j h];show _=(0:Rat);grind⟩
 have h5:∀j,∃t:Int,f j*(D:Rat)=(t:Rat)/\Lt ((N+1)*k+1) t:=λj=>by
  obtain⟨t,ht⟩:=h4 j
  refine⟨t,ht,?_⟩
  have e:t*((f j).den:Int)=(f j).num*D:=Rat.intCast_inj.1 (by
   rw[Rat.intCast_mul,Rat.intCast_mul,<-ht,Rat.intCast_natCast]
   have:=zdx (f j)
   grind)
  have h5:Lt ((N+1)*k+1) (t*((f j).den:Int)):=by
   rw[e];exact((hf j).1.mul h2).mono (by rw[Nat.succ_mul];omega)
  refine h5.le ?_
  rw[Int.natAbs_mul]
  exact Nat.le_mul_of_pos_right _ (by have:=(f j).den_pos;omega)
 exact⟨D,λj=>(h5 j).choose,h1,h2.mono (by rw[Nat.succ_mul];omega),λj=>(h5 j).choose_spec.2,λj=>(h5 j).choose_spec.1⟩
theorem CD.shift{A i:Nat}{f:Nat->Rat}(hf:CD A f):CD A (λj=>f (i+j)):=by
 obtain⟨D,n,h1,h2,h3,h4⟩:=hf
 exact⟨D,λj=>n (i+j),h1,h2,λj=>h3 _,λj=>h4 _⟩
theorem Lt.pow{B k:Nat}{v:Int}(hv:Lt B v):Lt (k*B+1) (v ^ k):=by
 induction k with
 | zero=>unfold Lt;rw[Int.pow_zero,Nat.zero_mul,W_eq];decide
 | succ k ih=>rw[Int.pow_succ];exact(ih.mul hv).mono (by rw[Nat.succ_mul];omega)
theorem CD.evb{B:Nat}{c:Rat}(hc:BR B c):∀{p:List Rat} {A:Nat},CD A (co p)->BR (A+(p.length+1)*(B+1)+1) (ev p c):=by
 have key:∀(p:List Rat) (A:Nat) (D:Int) (n:Nat->Int),D≠0->(∀j,Lt A (n j))->(∀j,co p j*(D:Rat)=(n j:Rat))->∃t:Int,ev p c*((D*((c.den:Int) ^ p.length):Int):Rat)=(t:Rat)/\Lt (A+(p.length+1)*(B+1)) t:=by
  intro p
  induction p with
  | nil=>intro A D n h1 h3 h4;exact⟨0,by show(0:Rat)*_=0;grind,Lt.zero⟩
  | cons x r ih=>
    intro A D n h1 h3 h4
    obtain⟨t,ht,lt⟩:=ih A D (λj=>n (j+1)) h1 (λj=>h3 _) (λj=>h4 (j+1))
    refine⟨n 0*(c.den:Int) ^ (r.length+1)+c.num*t,?_,?_⟩
    . have e0:=h4 0
      have e1:co (x :: r) 0=x:=rfl
      rw[e1]at e0
      have e2:=zdx c
      have e3:ev (x :: r) c=x+ev r c*c:=rfl
      simp only[Rat.intCast_add,Rat.intCast_mul,Int.pow_succ,List.length_cons,Rat.intCast_natCast]at ht |-
      rw[<-ht,<-e0,<-e2,e3]
      generalize (((c.den:Int) ^ r.length:Int):Rat)=z
      generalize ((c.den:Nat):Rat)=d
      generalize ev r c=y
      generalize (D:Rat)=D'
      grind
    . rw[List.length_cons]
      have e5:(r.length+1+1)*(B+1)=(r.length+1)*(B+1)+(B+1):=Nat.succ_mul _ _
      refine Lt.mono (Lt.addm (k:=A+(r.length+1)*(B+1)+B) ((h3 0).mul (Lt.pow (k:=r.length+1) hc.2) |>.mono ?_) ((hc.1.mul lt).mono (by omega))) (by omega)
      have:(r.length+1)*B+1<=(r.length+1)*(B+1):=by rw[Nat.mul_succ];omega
      omega
 intro p A hA
 obtain⟨D,n,h1,h2,h3,h4⟩:=hA
 obtain⟨t,ht,lt⟩:=key p A D n h1 h3 h4
 have hd:((c.den:Int) ^ p.length)≠0:=Int.pow_ne_zero (zce c)
 refine BR_of (Int.mul_ne_zero h1 hd) ((h2.mul (Lt.pow hc.2)).mono ?_) (lt.mono (by omega)) ht
 have:p.length*B+1<=(p.length+1)*(B+1):=by rw[Nat.succ_mul,Nat.mul_succ];omega
 omega
end Den
end

section
namespace Den
open Go Iv Pq
def divN(p q:List Rat):Nat:=(trim p).length+1-(trim q).length
def remL(p q:List Rat):List Rat:=trim ((List.range ((trim q).length-1)).map λj=>restK (co q) ((trim q).length-1) (divN p q) (co p) (divN p q) j)
theorem za86{p q:List Rat}:(remL p q).length<=(trim q).length-1:=Nat.le_trans trim_len (by simp)
theorem zjs{p q:List Rat}:nf (remL p q):=nf_trim
theorem za3e{p q rs:List Rat}(hz:∀j,(trim q).length-1<=j->co rs j=0)(hR:∀j,co rs j=restK (co q) ((trim q).length-1) ((trim p).length+1-(trim q).length) (co p) ((trim p).length+1-(trim q).length) j):trim rs=remL p q:=by
 refine zat λi=>?_
 rw[zn2]
 split
 . exact hR i
 . exact hz i (by omega)
theorem zask{A B:Nat}{p q:List Rat}(hp:CD A (co p))(hq:CD B (co q))(hq0:trim q≠[]):CD (A+divN p q*(B+1)) (co (remL p q)):=by
 have h0:co q ((trim q).length-1)≠0:=by
  have:=nf_top nf_trim hq0
  rw[co_trim]at this
  exact this
 obtain⟨D,n,h1,h2,h3,h4⟩:=CD.restK (N:=divN p q) hp hq h0 (k:=divN p q)
 refine⟨D,λj=>if j<(trim q).length-1 then n j else 0,h1,h2,λj=>?_,λj=>?_⟩
 . simp only
   split
   . exact h3 j
   . exact Lt.zero
 . simp only
   unfold remL
   rw[co_trim,zn2]
   split
   . exact h4 j
   . show(0:Rat)*_=(0:Rat)
     rw[Rat.zero_mul]
def divR(p q qs rs:List Rat):Prop:=(∀j,conv (co qs) (co q) j+co rs j=co p j)/\∀j,(trim q).length-1<=j->co rs j=0
open Classical in
noncomputable def quoL(p q:List Rat):List Rat:=if h:∃Q:List Rat×List Rat,divR p q Q.1 Q.2 then trim h.choose.1 else []
theorem zwv{p q qs rs:List Rat}(hq0:trim q≠[])(h:divR p q qs rs):trim qs=quoL p q:=by
 have hex:∃Q:List Rat×List Rat,divR p q Q.1 Q.2:=⟨(qs,rs),h⟩
 unfold quoL
 rw[dif_pos hex]
 have h2:=hex.choose_spec
 have h0:co q ((trim q).length-1)≠0:=by
  have:=nf_top nf_trim hq0
  rw[co_trim]at this
  exact this
 have hl:0<(trim q).length:=List.length_pos_iff.2 hq0
 exact zat λi=>(div_unique (q:=co qs) (q':=co hex.choose.1) (b:=co q) (r:=co rs) (r':=co hex.choose.2) (n:=qs.length+hex.choose.1.length) h0 (λi hi=>by rw[<-co_trim,co_ge (by omega)]) (λi hi=>co_ge (by omega)) (λi hi=>co_ge (by omega)) h.2 h2.2 λi=>by rw[h.1,h2.1]).1 i
def gcdS:Nat->List Rat->List Rat->List Rat
 | 0,a,_=>a
 | n+1,a,b=>if b=[]then a else gcdS n b (monQ (remL a b))
end Den
end

section
namespace Den
open Go Iv Pq
def cz(c k:Nat):Nat:=(c+1)*3 ^ k-1
theorem za36{c:Nat}:cz c 0=c:=by unfold cz;rw[Nat.pow_zero,Nat.mul_one];rfl
theorem zafn{c k:Nat}:cz c (k+1)=3*cz c k+2:=by
 unfold cz
 have h:0<(c+1)*3 ^ k:=Nat.mul_pos (Nat.succ_pos c) (Nat.pow_pos (by decide))
 rw[Nat.pow_succ,<-Nat.mul_assoc]
 omega
theorem zle{c k j:Nat}(h:k<=j):cz c k<=cz c j:=by
 induction h with
 | refl=>exact Nat.le_refl _
 | step _ ih=>rw[zafn];omega
theorem zaqv{c k:Nat}:∀s,cz c k+(s+2)*(cz c k+1)<=cz c (k+s+1)
 | 0=>by rw[zafn];show cz c k+2*(cz c k+1)<=3*cz c k+2;omega
 | s+1=>by
   have ih:=zaqv (c:=c) (k:=k) s
   rw[show k+(s+1)+1=k+s+1+1 from rfl,zafn,Nat.succ_mul]
   omega
theorem CD.pos{a:Nat}{f:Nat->Rat}(h:CD a f):1<=a:=by
 obtain⟨D,n,h1,h2,h3,h4⟩:=h
 rcases a with _ | a
 . unfold Lt at h2;rw[Nat.pow_zero]at h2;omega
 . omega
theorem zalu{a:Nat}(h:1<=a):CD a (co []):=⟨1,λ_=>0,by decide,Lt.mono (k:=1) (by unfold Lt;decide) h,λ_=>Lt.zero,λj=>by rw[co_nil,Rat.zero_mul];rfl⟩
theorem zns{a:Nat}{p:List Rat}(h:CD a (co p)):CD a (co (monQ p)):=by
 by_cases h0:trim p=[]
 . have:monQ p=[]:=by unfold monQ;rw[h0];rfl
   rw[this];exact zalu h.pos
 . exact(CD.mon (d:=(trim p).length-1) h (zfw h0)).congr λj=>za33
theorem za48{a:Nat}{p:List Rat}(h:CD a (co p))(h8:p.length<=8):CD (a+1) (co (trim (derL p))):=
 CD.congr (h.der (N:=8) (λi hi=>co_ge (by omega)) (by decide)) λj=>by rw[co_trim,zafh]
theorem PL.cd{h:Hp}{B C:Nat}{l:Sl}{p:List Rat}(hp:PL h B l p)(hc:CD C (co p)):PL h C l p:=hp.re λv hv=>by
 obtain⟨i,hi,rfl⟩:=List.mem_iff_getElem.1 hv
 have:=hc.br i
 rwa [co_lt hi]at this
theorem zadz{B k:Nat}{p:List Rat}(hp:∀v∈p,BR B v)(hB:1<=B)(h8:p.length<=k):CD ((k+1)*B+1) (co p):=CD.of_BR (λj=>by
 rcases Nat.lt_or_ge j p.length with h | h
 . rw[co_lt h];exact hp _ (List.getElem_mem h)
 . rw[co_ge h];exact zgo.mono hB) λi hi=>co_ge (by omega)
def negT(r:List Rat):List Rat:=trim (r.map ((((-1:Int):Rat))*·))
theorem m1_ne:(((-1:Int):Rat))≠0:=by decide
theorem za7t{r:List Rat}(hr:nf r):(negT r).length=r.length:=by
 unfold negT
 rw[trim_nf (za3a m1_ne hr),List.length_map]
theorem zafv{r:List Rat}(hr:nf r)(h:r≠[]):negT r≠[]:=λhh=>h (List.eq_nil_of_length_eq_zero (by rw[<-za7t hr,hh];rfl))
theorem zakh:negT []=[]:=rfl
theorem zao9{r:List Rat}:nf (negT r):=nf_trim
theorem zasj{a:Nat}{r:List Rat}(h:CD a (co r)):CD a (co (negT r)):=h.neg.congr λj=>by unfold negT;rw[co_trim,zr0]
structure SzI(c:Nat)(x y:List Rat):Prop where
 lt:y.length<x.length
 le:x.length<=8
 nx:nf x
 ny:nf y
 cx:CD (cz c (8-x.length)) (co x)
 cy:CD (cz c (8-x.length)) (co y)
section
variable {c : Nat} {x y r : List Rat}
theorem SzI.bx(hs:SzI c x y):CD (cz c 7) (co x):=hs.cx.mono (zle (by have:=hs.lt;omega))
theorem SzI.by'(hs:SzI c x y):CD (cz c 7) (co y):=hs.cy.mono (zle (by have:=hs.lt;omega))
theorem SzI.ty(hs:SzI c x y):trim y=y:=trim_nf hs.ny
theorem SzI.tx(hs:SzI c x y):trim x=x:=trim_nf hs.nx
theorem SzI.top(hs:SzI c x y)(h0:y≠[]):co y ((trim y).length-1)≠0:=by rw[hs.ty];exact nf_top hs.ny h0
theorem SzI.room(hs:SzI c x y)(h0:y≠[]):cz c (8-x.length)+((trim x).length+1-(trim y).length)*(cz c (8-x.length)+1)<=cz c (8-y.length):=by
 rw[hs.tx,hs.ty]
 have h1:=hs.lt
 have h2:=hs.le
 have h3:=zaqv (c:=c) (k:=8-x.length) (x.length-y.length-1)
 have e1:x.length-y.length-1+2=x.length+1-y.length:=by omega
 have e2:8-x.length+(x.length-y.length-1)+1=8-y.length:=by omega
 rwa [e1,e2]at h3
theorem SzI.rest(hs:SzI c x y)(h0:y≠[]){k j:Nat}(hk:k<=(trim x).length+1-(trim y).length):BR (cz c 7) (restK (co y) ((trim y).length-1) ((trim x).length+1-(trim y).length) (co x) k j):=by
 refine(((hs.cx.restK hs.cy (hs.top h0)).br j).mono ?_:BR _ _)
 refine Nat.le_trans ?_ (Nat.le_trans (hs.room h0) (zle (by have:=List.length_pos_iff.2 h0;omega)))
 exact Nat.add_le_add_left (Nat.mul_le_mul_right _ hk) _
theorem SzI.step(hs:SzI c x y)(h0:y≠[])(hr:nf r)(hl:r.length<=y.length-1)(hc:∀A,CD A (co (remL x y))->CD A (co r)):SzI c y r:=by
 have hp:=List.length_pos_iff.2 h0
 have h1:=hs.lt
 have h2:=hs.le
 refine⟨by omega,by omega,hs.ny,hr,hs.cy.mono (zle (by omega)),hc _ ?_⟩
 exact(zask hs.cx hs.cy (by rw[hs.ty];exact h0)).mono (hs.room h0)
theorem zlz(hs:SzI c x y):(remL x y).length<=y.length-1:=by have:=za86 (p:=x) (q:=y);rwa [hs.ty]at this
theorem SzI.mon(hs:SzI c x y)(h0:y≠[]):SzI c y (monQ (remL x y)):=hs.step h0 zf4 (by rw[zb7,trim_nf zjs];exact zlz hs) λA=>zns
theorem SzI.neg(hs:SzI c x y)(h0:y≠[]):SzI c y (negT (remL x y)):=hs.step h0 zao9 (by rw[za7t zjs];exact zlz hs) λA=>zasj
def gcdQ(a b:List Rat):List Rat:=gcdS ((monQ b).length+1) (monQ a) (monQ b)
theorem SzI.start{a b:List Rat}(h1:CD c (co a))(h2:CD c (co b))(hlt:(trim b).length<(trim a).length)(h8:(trim a).length<=8):SzI c (monQ a) (monQ b):=by
 refine⟨by rw[zb7,zb7];exact hlt,by rw[zb7];exact h8,zf4,zf4,(zns h1).mono ?_,(zns h2).mono ?_⟩
 . have:=zle (c:=c) (Nat.zero_le (8-(monQ a).length));rwa [za36]at this
 . have:=zle (c:=c) (Nat.zero_le (8-(monQ a).length));rwa [za36]at this
theorem zak4{n:Nat}(x:List Rat):gcdS n x []=x:=by
 cases n with
 | zero=>rfl
 | succ n=>unfold gcdS;rw[if_pos rfl]
theorem za7j:∀{n:Nat} {x y:List Rat},SzI c x y->y.length<n->nf (gcdS n x y)/\gcdS n x y≠[]/\(gcdS n x y).length<=x.length/\CD (cz c 7) (co (gcdS n x y))
 | n+1,x,y,hs,hn=>by
   have hlt:=hs.lt
   unfold gcdS
   by_cases h0:y=[]
   . rw[if_pos h0]
     exact⟨hs.nx,List.length_pos_iff.1 (by omega),Nat.le_refl _,hs.bx⟩
   . rw[if_neg h0]
     have hs2:=hs.mon h0
     have hlt2:=hs2.lt
     obtain⟨a,b,c1,d⟩:=za7j (n:=n) hs2 (by omega)
     exact⟨a,b,by omega,d⟩
theorem za7i{a b:List Rat}(h1:CD c (co a))(h2:CD c (co b))(hlt:(trim b).length<(trim a).length)(h8:(trim a).length<=8):nf (gcdQ a b)/\gcdQ a b≠[]/\(gcdQ a b).length<=(trim a).length/\CD (cz c 7) (co (gcdQ a b)):=by
 have:=za7j (n:=(monQ b).length+1) (SzI.start h1 h2 hlt h8) (Nat.lt_succ_self _)
 rwa [zb7 (p:=a)]at this
theorem zaoe{p q qs rs:List Rat}(hq0:trim q≠[])(hd:divR p q qs rs):(trim qs).length<=p.length:=by
 by_cases h0:trim qs=[]
 . rw[h0];exact Nat.zero_le _
 . have l1:=List.length_pos_iff.2 h0
   have l2:=List.length_pos_iff.2 hq0
   have t1:=nf_top nf_trim h0
   have t2:=nf_top nf_trim hq0
   rw[co_trim]at t1 t2
   have z1:∀i,(trim qs).length-1<i->co qs i=0:=λi hi=>by rw[<-co_trim,co_ge (by omega)]
   have z2:∀i,(trim q).length-1<i->co q i=0:=λi hi=>by rw[<-co_trim,co_ge (by omega)]
   have h3:=hd.1 ((trim qs).length-1+((trim q).length-1))
   rw[conv_top z1 z2,hd.2 _ (by omega)]at h3
   rcases Nat.lt_or_ge ((trim qs).length-1+((trim q).length-1)) p.length with h4 | h4
   . omega
   . exfalso
     rw[co_ge h4,Rat.add_zero]at h3
     rcases Rat.mul_eq_zero.1 h3 with h5 | h5
     . exact t1 h5
     . exact t2 h5
noncomputable def sqfL(p:List Rat):List Rat:=if trim p=[]then []else monQ (quoL (monQ p) (gcdQ (monQ p) (trim (derL (monQ p)))))
def chn:Nat->List Rat->List Rat->List (List Rat)
 | 0,_,_=>[]
 | n+1,p,q=>if q=[]then []else q :: chn n q (negT (remL p q))
theorem zwa{n:Nat}(p:List Rat):chn n p []=[]:=by
 cases n with
 | zero=>rfl
 | succ n=>unfold chn;rw[if_pos rfl]
noncomputable def chainL(p:List Rat):List (List Rat):=if (trim p).length<2 then []else sqfL p :: chn 9 (sqfL p) (trim (derL (sqfL p)))
theorem zasv{ps:List (List Rat)}{u:Rat}:chN (ps++[[]]) u=chN ps u:=by
 unfold chN
 rw[za71]
 rfl
end
end Den
end

section
namespace Rng
structure RL(α:Type)[Add α][Mul α][Neg α][Sub α](z o:α):Prop where
 addc:∀a b:α,a+b=b+a
 adda:∀a b c:α,a+b+c=a+(b+c)
 addz:∀a:α,a+z=a
 addn:∀a:α,a+-a=z
 mulc:∀a b:α,a*b=b*a
 mula:∀a b c:α,a*b*c=a*(b*c)
 mulo:∀a:α,a*o=a
 dist:∀a b c:α,a*(b+c)=a*b+a*c
 subd:∀a b:α,a-b=a+-b
inductive Ex where
 | v (n:Nat)
 | o
 | i
 | a (x y:Ex)
 | m (x y:Ex)
 | n (x:Ex)
 | s (x y:Ex)
def mIns(n:Nat):List Nat->List Nat
 | []=>[n]
 | k :: r=>if n<=k then n :: k :: r else k :: mIns n r
def mMul:List Nat->List Nat->List Nat
 | [],q=>q
 | n :: p,q=>mIns n (mMul p q)
def mLt:List Nat->List Nat->Bool
 | [],[]=>false
 | [],_ :: _=>true
 | _ :: _,[]=>false
 | a :: p,b :: q=>if a<b then true else if a=b then mLt p q else false
abbrev Pn:=List (List Nat×Int)
def pIns(p:List Nat)(c:Int):Pn->Pn
 | []=>if c=0 then []else [(p,c)]
 | (q,d) :: r=>if p=q then (if c+d=0 then r else (q,c+d) :: r)else if mLt p q then (if c=0 then (q,d) :: r else (p,c) :: (q,d) :: r)else (q,d) :: pIns p c r
def pAdd:Pn->Pn->Pn
 | [],b=>b
 | (p,c) :: a,b=>pIns p c (pAdd a b)
def pNeg(a:Pn):Pn:=a.map λt=>(t.1,-t.2)
def pMulM(p:List Nat)(c:Int):Pn->Pn
 | []=>[]
 | (q,d) :: r=>pIns (mMul p q) (c*d) (pMulM p c r)
def pMul:Pn->Pn->Pn
 | [],_=>[]
 | (p,c) :: a,b=>pAdd (pMulM p c b) (pMul a b)
def Ex.nf:Ex->Pn
 | .v k=>[([k],1)]
 | .o=>[]
 | .i=>[([],1)]
 | .a x y=>pAdd x.nf y.nf
 | .m x y=>pMul x.nf y.nf
 | .n x=>pNeg x.nf
 | .s x y=>pAdd x.nf (pNeg y.nf)
section
variable {α : Type} [Add α] [Mul α] [Neg α] [Sub α] {z o : α}
def Ex.ev(z o:α)(ρ:List α):Ex->α
 | .v k=>ρ.getD k z
 | .o=>z
 | .i=>o
 | .a x y=>x.ev z o ρ+y.ev z o ρ
 | .m x y=>x.ev z o ρ*y.ev z o ρ
 | .n x=>- x.ev z o ρ
 | .s x y=>x.ev z o ρ-y.ev z o ρ
def nsm(z:α)(a:α):Nat->α
 | 0=>z
 | k+1=>nsm z a k+a
def zsm(z:α)(a:α):Int->α
 | .ofNat k=>nsm z a k
 | .negSucc k=>- nsm z a (k+1)
def mEv(z o:α)(ρ:List α):List Nat->α
 | []=>o
 | n :: p=>ρ.getD n z*mEv z o ρ p
def pEv(z o:α)(ρ:List α):Pn->α
 | []=>z
 | (p,c) :: r=>zsm z (mEv z o ρ p) c+pEv z o ρ r
theorem zsm0{β:Type}[Add β][Neg β](z a:β):zsm z a 0=z:=rfl
namespace RL
variable (L : RL α z o) {a b c d : α} {ρ : List α}
include L
theorem zadd(a:α):z+a=a:=by rw[L.addc,L.addz]
theorem adda'(a b c:α):a+(b+c)=b+(a+c):=by rw[<-L.adda,L.addc a,L.adda]
theorem mula'(a b c:α):a*(b*c)=b*(a*c):=by rw[<-L.mula,L.mulc a,L.mula]
theorem cancel(h:a+c=b+c):a=b:=by
 have:a+c+-c=b+c+-c:=by rw[h]
 rwa [L.adda,L.addn,L.addz,L.adda,L.addn,L.addz]at this
theorem mulz(a:α):a*z=z:=by
 refine L.cancel (c:=a*z) ?_
 rw[<-L.dist,L.addz,L.zadd]
theorem zmul(a:α):z*a=z:=by rw[L.mulc,L.mulz]
theorem distr(a b c:α):(a+b)*c=a*c+b*c:=by rw[L.mulc,L.dist,L.mulc c,L.mulc c]
theorem negOf(h:a+b=z):b=-a:=by
 refine L.cancel (c:=a) ?_
 rw[L.addc b,h,L.addc,L.addn]
theorem negz:-z=z:=(L.negOf (L.addz z)).symm
theorem negneg(a:α):- -a=a:=(L.negOf (by rw[L.addc,L.addn])).symm
theorem negadd(a b:α):-(a+b)=-a+-b:=by
 refine(L.negOf ?_).symm
 rw[L.adda,L.adda' b,L.addn,L.addz,L.addn]
theorem mulneg(a b:α):a*-b=-(a*b):=by
 refine L.negOf ?_
 rw[<-L.dist,L.addn,L.mulz]
theorem negmul(a b:α):-a*b=-(a*b):=by rw[L.mulc,L.mulneg,L.mulc]
theorem nsm_add(a:α)(m:Nat):∀n:Nat,nsm z a (m+n)=nsm z a m+nsm z a n
 | 0=>(L.addz _).symm
 | n+1=>by
   show nsm z a (m+n)+a=nsm z a m+(nsm z a n+a)
   rw[nsm_add a m n,L.adda]
theorem nsm_mul(a b:α):∀n:Nat,nsm z a n*b=nsm z (a*b) n
 | 0=>L.zmul b
 | n+1=>by
   show(nsm z a n+a)*b=nsm z (a*b) n+a*b
   rw[L.distr,nsm_mul a b n]
theorem nsm_nsm(a:α)(m:Nat):∀n:Nat,nsm z (nsm z a m) n=nsm z a (m*n)
 | 0=>rfl
 | n+1=>by
   show nsm z (nsm z a m) n+nsm z a m=nsm z a (m*(n+1))
   rw[nsm_nsm a m n,Nat.mul_succ,L.nsm_add]
theorem nsm_neg(a:α):∀n:Nat,nsm z (-a) n=- nsm z a n
 | 0=>L.negz.symm
 | n+1=>by
   show nsm z (-a) n+-a=-(nsm z a n+a)
   rw[nsm_neg a n,L.negadd]
theorem zsm_sub(a:α)(m n:Nat):zsm z a (Int.subNatNat m n)=nsm z a m+- nsm z a n:=by
 rcases Nat.lt_or_ge m n with h | h
 . obtain⟨k,rfl⟩:∃k,n=m+(k+1):=⟨n-m-1,by omega⟩
   have e:Int.subNatNat m (m+(k+1))=Int.negSucc k:=by rw[Int.subNatNat_eq_coe];omega
   rw[e,L.nsm_add,L.negadd,<-L.adda,L.addn,L.zadd]
   rfl
 . obtain⟨k,rfl⟩:∃k,m=n+k:=⟨m-n,by omega⟩
   have e:Int.subNatNat (n+k) n=Int.ofNat k:=by rw[Int.subNatNat_eq_coe,Int.ofNat_eq_natCast];omega
   rw[e,L.nsm_add,L.addc (nsm z a n),L.adda,L.addn,L.addz]
   rfl
theorem zsm_add(a:α):∀m n:Int,zsm z a (m+n)=zsm z a m+zsm z a n
 | .ofNat m,.ofNat n=>L.nsm_add a m n
 | .ofNat m,.negSucc n=>L.zsm_sub a m (n+1)
 | .negSucc m,.ofNat n=>by
   rw[L.addc];exact L.zsm_sub a n (m+1)
 | .negSucc m,.negSucc n=>by
   show-nsm z a (m+n+1+1)=- nsm z a (m+1)+- nsm z a (n+1)
   rw[<-L.negadd,<-L.nsm_add]
   congr 2;omega
theorem zsm_neg(a:α)(m:Int):zsm z a (-m)=- zsm z a m:=by
 refine L.negOf ?_
 rw[<-L.zsm_add]
 have:m+-m=0:=by omega
 rw[this];rfl
theorem zsm_one(a:α):zsm z a 1=a:=L.zadd a
theorem zsm_mulr(a b:α):∀m:Int,zsm z a m*b=zsm z (a*b) m
 | .ofNat m=>L.nsm_mul a b m
 | .negSucc m=>by
   show-nsm z a (m+1)*b=- nsm z (a*b) (m+1)
   rw[L.negmul,L.nsm_mul]
theorem zsm_zsm(a:α):∀m n:Int,zsm z (zsm z a m) n=zsm z a (m*n)
 | .ofNat m,.ofNat n=>L.nsm_nsm a m n
 | .ofNat m,.negSucc n=>by
   show-nsm z (nsm z a m) (n+1)=_
   have e:Int.ofNat m*Int.negSucc n=-((m*(n+1):Nat):Int):=by
    rw[Int.negSucc_eq,Int.ofNat_eq_natCast,Int.mul_neg,Int.natCast_mul];rfl
   rw[e,L.zsm_neg,L.nsm_nsm]
   rfl
 | .negSucc m,.ofNat n=>by
   show nsm z (- nsm z a (m+1)) n=_
   have e:Int.negSucc m*Int.ofNat n=-(((m+1)*n:Nat):Int):=by
    rw[Int.negSucc_eq,Int.ofNat_eq_natCast,Int.neg_mul,Int.natCast_mul];rfl
   rw[e,L.zsm_neg,L.nsm_neg,L.nsm_nsm]
   rfl
 | .negSucc m,.negSucc n=>by
   show-nsm z (- nsm z a (m+1)) (n+1)=_
   have e:Int.negSucc m*Int.negSucc n=(((m+1)*(n+1):Nat):Int):=by
    rw[Int.negSucc_eq,Int.negSucc_eq,Int.neg_mul_neg,Int.natCast_mul];rfl
   rw[e,L.nsm_neg,L.negneg,L.nsm_nsm]
   rfl
theorem mIns_ev(n:Nat):∀p:List Nat,mEv z o ρ (mIns n p)=ρ.getD n z*mEv z o ρ p
 | []=>rfl
 | k :: p=>by
   unfold mIns
   split
   . rfl
   . show ρ.getD k z*mEv z o ρ (mIns n p)=ρ.getD n z*(ρ.getD k z*mEv z o ρ p)
     rw[mIns_ev n p,L.mula']
theorem mMul_ev(q:List Nat):∀p:List Nat,mEv z o ρ (mMul p q)=mEv z o ρ p*mEv z o ρ q
 | []=>by
   show mEv z o ρ q=o*mEv z o ρ q
   rw[L.mulc,L.mulo]
 | n :: p=>by
   show mEv z o ρ (mIns n (mMul p q))=ρ.getD n z*mEv z o ρ p*mEv z o ρ q
   rw[L.mIns_ev,mMul_ev q p,L.mula]
theorem pIns_ev(p:List Nat)(c:Int):∀a:Pn,pEv z o ρ (pIns p c a)=zsm z (mEv z o ρ p) c+pEv z o ρ a
 | []=>by
   unfold pIns
   split
   . rename_i h;subst h;show z=z+z;rw[L.addz]
   . rfl
 | (q,d) :: r=>by
   unfold pIns
   split
   . rename_i h
     subst h
     show _=zsm z (mEv z o ρ p) c+(zsm z (mEv z o ρ p) d+pEv z o ρ r)
     rw[<-L.adda,<-L.zsm_add]
     split
     . rename_i h;rw[h,zsm0,L.zadd]
     . rfl
   . split
     . split
       . rename_i h;subst h;rw[zsm0,L.zadd]
       . rfl
     . show zsm z (mEv z o ρ q) d+pEv z o ρ (pIns p c r)=zsm z (mEv z o ρ p) c+(zsm z (mEv z o ρ q) d+pEv z o ρ r)
       rw[pIns_ev p c r,L.adda']
theorem pAdd_ev(b:Pn):∀a:Pn,pEv z o ρ (pAdd a b)=pEv z o ρ a+pEv z o ρ b
 | []=>(L.zadd _).symm
 | (p,c) :: a=>by
   show pEv z o ρ (pIns p c (pAdd a b))=zsm z (mEv z o ρ p) c+pEv z o ρ a+pEv z o ρ b
   rw[L.pIns_ev,pAdd_ev b a,L.adda]
theorem pNeg_ev:∀a:Pn,pEv z o ρ (pNeg a)=- pEv z o ρ a
 | []=>L.negz.symm
 | (p,c) :: a=>by
   show zsm z (mEv z o ρ p) (-c)+pEv z o ρ (pNeg a)=-(zsm z (mEv z o ρ p) c+pEv z o ρ a)
   rw[L.zsm_neg,pNeg_ev a,L.negadd]
theorem pMulM_ev(p:List Nat)(c:Int):∀a:Pn,pEv z o ρ (pMulM p c a)=zsm z (mEv z o ρ p) c*pEv z o ρ a
 | []=>(L.mulz _).symm
 | (q,d) :: r=>by
   show pEv z o ρ (pIns (mMul p q) (c*d) (pMulM p c r))=zsm z (mEv z o ρ p) c*(zsm z (mEv z o ρ q) d+pEv z o ρ r)
   rw[L.pIns_ev,pMulM_ev p c r,L.dist,L.mMul_ev]
   congr 1
   rw[L.zsm_mulr,L.mulc (mEv z o ρ p) (zsm z (mEv z o ρ q) d),L.zsm_mulr,L.zsm_zsm,L.mulc (mEv z o ρ q),Int.mul_comm]
theorem pMul_ev(b:Pn):∀a:Pn,pEv z o ρ (pMul a b)=pEv z o ρ a*pEv z o ρ b
 | []=>(L.zmul _).symm
 | (p,c) :: a=>by
   show pEv z o ρ (pAdd (pMulM p c b) (pMul a b))=(zsm z (mEv z o ρ p) c+pEv z o ρ a)*pEv z o ρ b
   rw[L.pAdd_ev,L.pMulM_ev,pMul_ev b a,L.distr]
theorem nf_ev:∀e:Ex,pEv z o ρ e.nf=e.ev z o ρ
 | .v k=>by
   show zsm z (ρ.getD k z*o) 1+z=ρ.getD k z
   rw[L.addz,L.zsm_one,L.mulo]
 | .o=>rfl
 | .i=>by
   show zsm z o 1+z=o
   rw[L.addz,L.zsm_one]
 | .a x y=>by
   show pEv z o ρ (pAdd x.nf y.nf)=x.ev z o ρ+y.ev z o ρ
   rw[L.pAdd_ev,nf_ev x,nf_ev y]
 | .m x y=>by
   show pEv z o ρ (pMul x.nf y.nf)=x.ev z o ρ*y.ev z o ρ
   rw[L.pMul_ev,nf_ev x,nf_ev y]
 | .n x=>by
   show pEv z o ρ (pNeg x.nf)=- x.ev z o ρ
   rw[L.pNeg_ev,nf_ev x]
 | .s x y=>by
   show pEv z o ρ (pAdd x.nf (pNeg y.nf))=x.ev z o ρ-y.ev z o ρ
   rw[L.pAdd_ev,L.pNeg_ev,nf_ev x,nf_ev y,L.subd]
end RL
def cmb:List (Ex×Ex×Ex)->Ex
 | []=>.o
 | (q,l,r) :: t=>.a (.m q (.s l r)) (cmb t)
def Hyp(z o:α)(ρ:List α):List (Ex×Ex×Ex)->Prop
 | []=>True
 | (_,l,r) :: t=>l.ev z o ρ=r.ev z o ρ/\Hyp z o ρ t
def pEq:Pn->Pn->Bool
 | [],[]=>true
 | (p,c) :: a,(q,d) :: b=>p==q&&c==d&&pEq a b
 | _,_=>false
theorem pEq_of:∀{a b:Pn},pEq a b=true->a=b
 | [],[],_=>rfl
 | (p,c) :: a,(q,d) :: b,h=>by
   unfold pEq at h
   simp only[Bool.and_eq_true,beq_iff_eq]at h
   rw[h.1.1,h.1.2,pEq_of h.2]
 | [],_ :: _,h=>by simp[pEq]at h
 | _ :: _,[],h=>by simp[pEq]at h
theorem RL.cmb_ev(L:RL α z o){ρ:List α}:∀{t:List (Ex×Ex×Ex)},Hyp z o ρ t->(cmb t).ev z o ρ=z
 | [],_=>rfl
 | (q,l,r) :: t,h=>by
   show q.ev z o ρ*(l.ev z o ρ-r.ev z o ρ)+(cmb t).ev z o ρ=z
   rw[h.1,L.subd,L.addn,L.mulz,L.cmb_ev h.2,L.addz]
theorem RL.lin(L:RL α z o)(ρ:List α)(x y:Ex)(t:List (Ex×Ex×Ex))(hc:pEq (Ex.s x y).nf (cmb t).nf=true)(h:Hyp z o ρ t):x.ev z o ρ=y.ev z o ρ:=by
 have h1:(Ex.s x y).ev z o ρ=z:=by
  rw[<-L.nf_ev,pEq_of hc,L.nf_ev,L.cmb_ev h]
 have h2:x.ev z o ρ+- y.ev z o ρ=z:=by rw[<-L.subd];exact h1
 refine L.cancel (c:=- y.ev z o ρ) ?_
 rw[h2,L.addn]
end
end Rng
end

section
namespace Den
open Go Iv Pq
theorem za75{f g:Nat->Rat}:conv f g 0=f 0*g 0:=by
 unfold conv
 rw[sm_succ,sm_zero,Rat.zero_add]
theorem zafi{f g:Nat->Rat}{n:Nat}:conv f g (n+1)=f 0*g (n+1)+conv (λi=>f (i+1)) g n:=by
 unfold conv
 rw[sm_head]
 congr 1
 exact sm_congr λi _=>by rw[Nat.add_sub_add_right]
theorem zaqo{a:Rat}{f g h:Nat->Rat}:∀{n:Nat},conv (λi=>a*f i+g i) h n=a*conv f h n+conv g h n:=by
 intro n
 rw[conv_comm,conv_comm (f:=f),conv_comm (f:=g)]
 unfold conv
 rw[<-sm_mul,<-sm_add]
 exact sm_congr λi _=>by grind
theorem za74:∀{n:Nat} {f g h:Nat->Rat},conv (conv f g) h n=conv f (conv g h) n
 | 0,f,g,h=>by rw[za75,za75,za75,za75,Rat.mul_assoc]
 | n+1,f,g,h=>by
   rw[zafi,zafi (f:=f),zafi (f:=g),za75]
   have e:(λi=>conv f g (i+1))=λi=>f 0*g (i+1)+conv (λi=>f (i+1)) g i:=by
    funext i;exact zafi
   rw[e,zaqo (f:=λi=>g (i+1)),za74 (n:=n)]
   grind
structure PS where
 c:Nat->Rat
namespace PS
theorem ext{a b:PS}(h:∀n,a.c n=b.c n):a=b:=by
 obtain⟨f⟩:=a
 obtain⟨g⟩:=b
 congr 1
 funext n
 exact h n
def cst(r:Rat):PS:=⟨λn=>if n=0 then r else 0⟩
instance:Add PS:=⟨λa b=>⟨λn=>a.c n+b.c n⟩⟩
instance:Mul PS:=⟨λa b=>⟨conv a.c b.c⟩⟩
instance:Neg PS:=⟨λa=>⟨λn=>-(a.c n)⟩⟩
instance:_root_.Sub PS:=⟨λa b=>⟨λn=>a.c n-b.c n⟩⟩
instance:NatCast PS:=⟨λn=>cst n⟩
instance:IntCast PS:=⟨λn=>cst n⟩
instance (n:Nat):OfNat PS n:=⟨cst (n:Rat)⟩
def pw(a:PS):Nat->PS
 | 0=>cst 1
 | n+1=>pw a n*a
instance:HPow PS Nat PS:=⟨pw⟩
instance:SMul Nat PS:=⟨λn a=>cst n*a⟩
instance:SMul Int PS:=⟨λn a=>cst n*a⟩
theorem c_add(a b:PS)(n:Nat):(a+b).c n=a.c n+b.c n:=rfl
theorem c_mul(a b:PS)(n:Nat):(a*b).c n=conv a.c b.c n:=rfl
theorem c_neg(a:PS)(n:Nat):(-a).c n=-(a.c n):=rfl
theorem c_sub(a b:PS)(n:Nat):(a-b).c n=a.c n-b.c n:=rfl
theorem c_cst(r:Rat)(n:Nat):(cst r).c n=if n=0 then r else 0:=rfl
theorem c_cstm(r:Rat)(a:PS)(n:Nat):(cst r*a).c n=r*a.c n:=by
 rw[c_mul]
 have e:r*a.c n=(cst r).c 0*a.c (n-0):=by rw[c_cst,if_pos rfl,Nat.sub_zero]
 rw[e]
 unfold conv
 exact sm_one (k:=0) (by omega) λi _ hi=>by rw[c_cst,if_neg hi,Rat.zero_mul]
theorem mul_comm'(a b:PS):a*b=b*a:=ext λn=>conv_comm
theorem psL:Rng.RL PS 0 1 where
 addz a:=ext λn=>by
  show a.c n+(cst ((0:Nat):Rat)).c n=a.c n
  rw[c_cst];split<;>exact Rat.add_zero _
 addc a b:=ext λn=>Rat.add_comm _ _
 adda a b c:=ext λn=>Rat.add_assoc _ _ _
 mula a b c:=ext λn=>za74
 mulo a:=by rw[mul_comm'];exact ext λn=>by
                   show(cst ((1:Nat):Rat)*a).c n=a.c n
                   rw[c_cstm];exact Rat.one_mul _
 dist a b c:=ext λn=>conv_add
 addn a:=ext λn=>by
  show a.c n+-(a.c n)=(cst ((0:Nat):Rat)).c n
  rw[c_cst]
  have:((0:Nat):Rat)=0:=rfl
  rw[this];split<;>exact Rat.add_neg_cancel _
 subd a b:=ext λn=>Rat.sub_eq_add_neg _ _
 mulc:=mul_comm'
theorem c_zero(n:Nat):(0:PS).c n=0:=by
 show(cst ((0:Nat):Rat)).c n=0
 rw[c_cst];split<;>rfl
theorem c_one(n:Nat):(1:PS).c n=if n=0 then 1 else 0:=rfl
def d(a:PS):PS:=⟨der a.c⟩
theorem d_mul(a b:PS):d (a*b)=d a*b+a*d b:=ext λn=>der_conv
theorem low_of{f:Nat->Rat}(h:∃n,f n≠0):∃k,f k≠0/\∀i,i<k->f i=0:=by
 obtain⟨n,hn⟩:=h
 induction n using Nat.strongRecOn with
 | _ n ih=>
   by_cases hh:∃m,m<n/\f m≠0
   . obtain⟨m,h1,h2⟩:=hh;exact ih m h1 h2
   . exact⟨n,hn,λi hi=>Classical.byContradiction λh=>hh ⟨i,hi,h⟩⟩
theorem mul_eq_zero{a b:PS}(h:a*b=0):a=0\/b=0:=by
 by_cases ha:∃n,a.c n≠0
 . by_cases hb:∃n,b.c n≠0
   . exfalso
     obtain⟨i,h1,h2⟩:=low_of ha
     obtain⟨j,h3,h4⟩:=low_of hb
     have e:(a*b).c (i+j)=a.c i*b.c j:=by
      rw[c_mul]
      have e2:a.c i*b.c j=a.c i*b.c (i+j-i):=by rw[Nat.add_sub_cancel_left]
      rw[e2]
      unfold conv
      refine sm_one (k:=i) (f:=λk=>a.c k*b.c (i+j-k)) (by omega) λk hk hne=>?_
      rcases Nat.lt_or_ge k i with hlt | hge
      . rw[h2 k hlt,Rat.zero_mul]
      . rw[h4 (i+j-k) (by omega),Rat.mul_zero]
     rw[h,c_zero]at e
     rcases Rat.mul_eq_zero.1 e.symm with h5 | h5
     . exact h1 h5
     . exact h3 h5
   . right;exact ext λn=>by rw[c_zero];exact Classical.byContradiction λhh=>hb ⟨n,hh⟩
 . left;exact ext λn=>by rw[c_zero];exact Classical.byContradiction λhh=>ha ⟨n,hh⟩
theorem cancel{a b c:PS}(ha:a≠0)(h:a*b=a*c):b=c:=by
 have:a*(b-c)=0:=by exact psL.lin ([a,b,c]:List PS) (.m (.v 0) (.s (.v 1) (.v 2))) .o [(.i,(.m (.v 0) (.v 1)),(.m (.v 0) (.v 2)))] (by decide +kernel) ⟨h,trivial⟩
 rcases mul_eq_zero this with h1 | h1
 . exact absurd h1 ha
 . exact psL.lin ([b,c]:List PS) (.v 0) (.v 1) [(.i,(.s (.v 0) (.v 1)),.o)] (by decide +kernel) ⟨h1,trivial⟩
def Dg(n:Nat)(a:PS):Prop:=∀i,n<=i->a.c i=0
def Fs(a:PS):Prop:=∃n,Dg n a
theorem Fs.add{a b:PS}(ha:Fs a)(hb:Fs b):Fs (a+b):=by
 obtain⟨n,hn⟩:=ha
 obtain⟨m,hm⟩:=hb
 exact⟨n+m,λi hi=>by rw[c_add,hn i (by omega),hm i (by omega),Rat.add_zero]⟩
theorem Fs.neg{a:PS}(ha:Fs a):Fs (-a):=by
 obtain⟨n,hn⟩:=ha
 exact⟨n,λi hi=>by rw[c_neg,hn i hi,Rat.neg_zero]⟩
theorem Fs.sub{a b:PS}(ha:Fs a)(hb:Fs b):Fs (a-b):=by
 have:a-b=a+-b:=by exact psL.lin ([a,b]:List PS) (.s (.v 0) (.v 1)) (.a (.v 0) (.n (.v 1))) [] (by decide +kernel) trivial
 rw[this];exact ha.add hb.neg
theorem Fs.mul{a b:PS}(ha:Fs a)(hb:Fs b):Fs (a*b):=by
 obtain⟨n,hn⟩:=ha
 obtain⟨m,hm⟩:=hb
 exact⟨n+m,λi hi=>conv_zero_of hn hm (by omega)⟩
theorem Fs.cst(r:Rat):Fs (cst r):=⟨1,λi hi=>by rw[c_cst,if_neg (by omega)]⟩
theorem Fs.d{a:PS}(ha:Fs a):Fs (d a):=by
 obtain⟨n,hn⟩:=ha
 exact⟨n,λi hi=>by show der _ i=0;unfold der;rw[hn (i+1) (by omega),Rat.mul_zero]⟩
theorem Fs.co(p:List Rat):Fs ⟨co p⟩:=⟨p.length,λi hi=>co_ge hi⟩
end PS
end Den
end

section
namespace Den
open Go Iv Pq
namespace PS
def ps(p:List Rat):PS:=⟨co p⟩
theorem ps_c(p:List Rat)(n:Nat):(ps p).c n=co p n:=rfl
theorem ps_fs(p:List Rat):Fs (ps p):=Fs.co p
def mono(s:Nat)(r:Rat):PS:=⟨λi=>if i=s then r else 0⟩
theorem mono_fs(s:Nat)(r:Rat):Fs (mono s r):=⟨s+1,λi hi=>by show(if i=s then r else 0)=0;rw[if_neg (by omega)]⟩
theorem mono_mul(s:Nat)(r:Rat)(b:PS)(j:Nat):(mono s r*b).c j=if s<=j then r*b.c (j-s)else 0:=by
 rw[c_mul]
 by_cases h:s<=j
 . rw[if_pos h]
   have e:r*b.c (j-s)=(mono s r).c s*b.c (j-s):=by show _=(if s=s then r else 0)*_;rw[if_pos rfl]
   rw[e]
   unfold conv
   refine sm_one (k:=s) (f:=λi=>(mono s r).c i*b.c (j-i)) (by omega) λi _ hi=>?_
   show(if i=s then r else 0)*_=0
   rw[if_neg hi,Rat.zero_mul]
 . rw[if_neg h]
   unfold conv
   refine sm_zeros λi hi=>?_
   show(if i=s then r else 0)*_=0
   rw[if_neg (by omega),Rat.zero_mul]
theorem restK_zero{b f:Nat->Rat}{dd N:Nat}(hb:b dd≠0)(hb2:∀i,dd<i->b i=0)(hf:∀j,N+dd<=j->f j=0):∀{k:Nat},k<=N->∀j,N-k+dd<=j->restK b dd N f k j=0
 | 0,_,j,hj=>hf j (by omega)
 | k+1,hk,j,hj=>by
   have ih:=restK_zero hb hb2 hf (k:=k) (by omega)
   show stepF b dd (N-1-k) (restK b dd N f k) j=0
   unfold stepF
   rw[if_pos (by omega)]
   by_cases he:j=N-1-k+dd
   . rw[he,Nat.add_sub_cancel_left,Rat.div_mul_cancel hb]
     grind
   . rw[ih j (by omega),hb2 (j-(N-1-k)) (by omega)]
     grind
theorem restK_quo{b f:Nat->Rat}{dd N:Nat}:∀{k:Nat},∃q:PS,Fs q/\(⟨f⟩:PS)=q*⟨b⟩+⟨restK b dd N f k⟩
 | 0=>⟨0,⟨0,λi _=>c_zero i⟩,by
    show(⟨f⟩:PS)=0*⟨b⟩+⟨f⟩
    exact psL.lin ([{ c:=f },{ c:=b }]:List PS) (.v 0) (.a (.m .o (.v 1)) (.v 0)) [] (by decide +kernel) trivial⟩
 | k+1=>by
   obtain⟨q,h1,h2⟩:=restK_quo (b:=b) (f:=f) (dd:=dd) (N:=N) (k:=k)
   refine⟨q+mono (N-1-k) (restK b dd N f k (N-1-k+dd)/b dd),h1.add (mono_fs _ _),?_⟩
   have e:(⟨restK b dd N f k⟩:PS)=mono (N-1-k) (restK b dd N f k (N-1-k+dd)/b dd)*⟨b⟩+⟨restK b dd N f (k+1)⟩:=ext λj=>by
    rw[c_add,mono_mul]
    show restK b dd N f k j=_+stepF b dd (N-1-k) (restK b dd N f k) j
    unfold stepF
    split<;>grind
   rw[h2]
   exact psL.lin ([q,{ c:=b },{ c:=restK b dd N f k },mono (N-1-k) (restK b dd N f k (N-1-k+dd)/b dd),{ c:=restK b dd N f (k+1) }]:List PS) (.a (.m (.v 0) (.v 1)) (.v 2)) (.a (.m (.a (.v 0) (.v 3)) (.v 1)) (.v 4)) [(.i,(.v 2),(.a (.m (.v 3) (.v 1)) (.v 4)))] (by decide +kernel) ⟨e,trivial⟩
theorem rem_eq{p q:List Rat}(hq:trim q≠[]):∃u:PS,Fs u/\ps p=u*ps q+ps (remL p q):=by
 have h0:co q ((trim q).length-1)≠0:=by
  have:=nf_top nf_trim hq
  rwa [co_trim]at this
 have hl:=List.length_pos_iff.2 hq
 obtain⟨u,h1,h2⟩:=restK_quo (b:=co q) (f:=co p) (dd:=(trim q).length-1) (N:=divN p q) (k:=divN p q)
 refine⟨u,h1,?_⟩
 have e:ps (remL p q)=⟨restK (co q) ((trim q).length-1) (divN p q) (co p) (divN p q)⟩:=ext λj=>by
  rw[ps_c]
  unfold remL
  rw[co_trim,zn2]
  split
  . rfl
  . refine(restK_zero h0 (λi hi=>by rw[<-co_trim,co_ge (by omega)]) (λj hj=>?_) (Nat.le_refl _) j (by omega)).symm
    rw[<-co_trim,co_ge]
    unfold divN at hj
    omega
 rw[e]
 exact h2
theorem ps_trim(p:List Rat):ps (trim p)=ps p:=ext λj=>co_trim
theorem ps_nil:ps []=0:=ext λj=>by rw[c_zero];rfl
theorem ps_eq_nil{p:List Rat}(h:ps p=0):trim p=[]:=nf_eq_nil nf_trim λi=>by rw[co_trim,<-ps_c,h,c_zero]
theorem ps_mon{p:List Rat}(h:trim p≠[]):∃k:Rat,k≠0/\ps (monQ p)=cst k*ps p/\ps p=cst (1/k)*ps (monQ p):=by
 have hl:=zfw h
 have hk:=zafr hl
 refine⟨(((1:Int):Rat))/lead p,hk,ext λj=>?_,ext λj=>?_⟩
 . rw[c_cstm,ps_c,ps_c,za33]
 . rw[c_cstm,ps_c,ps_c,za33,<-Rat.mul_assoc,Rat.div_mul_cancel hk,Rat.one_mul]
theorem ps_mon_nil{p:List Rat}(h:trim p=[]):monQ p=[]:=by unfold monQ;rw[h];rfl
theorem ps_der(p:List Rat):ps (trim (derL p))=d (ps p):=ext λj=>by
 rw[ps_c,co_trim,zafh];rfl
theorem ps_neg(r:List Rat):ps (negT r)=-ps r:=ext λj=>by
 rw[c_neg,ps_c,ps_c]
 unfold negT
 rw[co_trim,zr0]
 have:(((-1:Int):Rat))=-1:=rfl
 rw[this];grind
theorem gcd_comb:∀{n:Nat} {x y:List Rat},nf y->y.length<n->∃a b x' y':PS,Fs a/\Fs b/\Fs x'/\Fs y'/\ps (gcdS n x y)=a*ps x+b*ps y/\ps x=ps (gcdS n x y)*x'/\ps y=ps (gcdS n x y)*y'
 | n+1,x,y,hy,hn=>by
   unfold gcdS
   by_cases h0:y=[]
   . rw[if_pos h0,h0,ps_nil]
     exact⟨1,0,1,0,Fs.cst 1,Fs.cst 0,Fs.cst 1,Fs.cst 0,by exact psL.lin ([ps x]:List PS) (.v 0) (.a (.m .i (.v 0)) (.m .o .o)) [] (by decide +kernel) trivial,by exact psL.lin ([ps x]:List PS) (.v 0) (.m (.v 0) .i) [] (by decide +kernel) trivial,by exact psL.lin ([ps x]:List PS) .o (.m (.v 0) .o) [] (by decide +kernel) trivial⟩
   . rw[if_neg h0]
     have ht:trim y≠[]:=by rw[trim_nf hy];exact h0
     obtain⟨u,hu,hr⟩:=rem_eq (p:=x) ht
     have hl:(monQ (remL x y)).length<n:=by
      rw[zb7,trim_nf zjs]
      have:=za86 (p:=x) (q:=y)
      rw[trim_nf hy]at this
      have:=List.length_pos_iff.2 h0
      omega
     obtain⟨a,b,x',y',ha,hb,hx',hy',e1,e2,e3⟩:=gcd_comb (n:=n) (x:=y) (y:=monQ (remL x y)) zf4 hl
     obtain⟨G,hG⟩:∃G,G=ps (gcdS n y (monQ (remL x y))):=⟨_,rfl⟩
     rw[<-hG]at e1 e2 e3 |-
     by_cases hz:trim (remL x y)=[]
     . have hr0:ps (remL x y)=0:=by rw[<-ps_trim,hz,ps_nil]
       have hm0:ps (monQ (remL x y))=0:=by rw[ps_mon_nil hz,ps_nil]
       rw[hr0]at hr
       rw[hm0]at e1
       exact⟨0,a,u*x',x',Fs.cst 0,ha,hu.mul hx',hx',by exact psL.lin ([G,ps x,a,ps y,b]:List PS) (.v 0) (.a (.m .o (.v 1)) (.m (.v 2) (.v 3))) [(.i,(.v 0),(.a (.m (.v 2) (.v 3)) (.m (.v 4) .o)))] (by decide +kernel) ⟨e1,trivial⟩,by exact psL.lin ([ps x,G,u,x',ps y]:List PS) (.v 0) (.m (.v 1) (.m (.v 2) (.v 3))) [(.i,(.v 0),(.a (.m (.v 2) (.v 4)) .o)),((.v 2),(.v 4),(.m (.v 1) (.v 3)))] (by decide +kernel) ⟨hr,e2,trivial⟩,by grind⟩
     . obtain⟨k,hk,m1,m2⟩:=ps_mon hz
       rw[m1]at e1
       rw[m2]at hr
       exact⟨b*cst k,a-b*cst k*u,u*x'+cst (1/k)*y',x',hb.mul (Fs.cst k),ha.sub ((hb.mul (Fs.cst k)).mul hu),(hu.mul hx').add ((Fs.cst _).mul hy'),hx',by rw[m2]at e1;rw[m1]at e1;exact psL.lin ([G,b,cst k,ps x,a,u,ps y,cst (1/k),ps (monQ (remL x y)),ps (remL x y)]:List PS) (.v 0) (.a (.m (.m (.v 1) (.v 2)) (.v 3)) (.m (.s (.v 4) (.m (.m (.v 1) (.v 2)) (.v 5))) (.v 6))) [((.n (.m (.v 1) (.v 2))),(.v 3),(.a (.m (.v 5) (.v 6)) (.m (.v 7) (.v 8)))),(.i,(.v 0),(.a (.m (.v 4) (.v 6)) (.m (.v 1) (.m (.v 2) (.m (.v 7) (.m (.v 2) (.v 9))))))),((.n (.m (.m (.v 1) (.v 2)) (.v 7))),(.v 8),(.m (.v 2) (.v 9)))] (by decide +kernel) ⟨hr,e1,m1,trivial⟩,by exact psL.lin ([ps x,G,u,x',cst (1/k),y',ps (monQ (remL x y)),ps y]:List PS) (.v 0) (.m (.v 1) (.a (.m (.v 2) (.v 3)) (.m (.v 4) (.v 5)))) [((.v 4),(.v 6),(.m (.v 1) (.v 5))),((.v 2),(.v 7),(.m (.v 1) (.v 3))),(.i,(.v 0),(.a (.m (.v 2) (.v 7)) (.m (.v 4) (.v 6))))] (by decide +kernel) ⟨e3,e2,hr,trivial⟩,by grind⟩
theorem d_pow(a:PS):∀n:Nat,a*d (a ^ n)=cst n*(a ^ n)*d a
 | 0=>by
   have:d (a ^ 0)=0:=ext λj=>by
    show der (cst 1).c j=_
    unfold der
    rw[c_cst,if_neg (by omega),c_zero,Rat.mul_zero]
   rw[this]
   have:cst ((0:Nat):Rat)=0:=rfl
   rw[this]
   exact psL.lin ([a,a ^ 0,a.d]:List PS) (.m (.v 0) .o) (.m (.m .o (.v 1)) (.v 2)) [] (by decide +kernel) trivial
 | n+1=>by
   have e:a ^ (n+1)=a ^ n*a:=rfl
   rw[e,d_mul]
   have ih:=d_pow a n
   have hc:cst ((n+1:Nat):Rat)=cst (n:Rat)+1:=ext λj=>by
    rw[c_add,c_cst,c_cst,c_one]
    split
    . exact Rat.natCast_add n 1
    . exact(Rat.add_zero 0).symm
   rw[hc]
   exact psL.lin ([a,(a ^ n).d,a ^ n,a.d,cst ↑n]:List PS) (.m (.v 0) (.a (.m (.v 1) (.v 0)) (.m (.v 2) (.v 3)))) (.m (.m (.a (.v 4) .i) (.m (.v 2) (.v 0))) (.v 3)) [((.v 0),(.m (.v 0) (.v 1)),(.m (.m (.v 4) (.v 2)) (.v 3)))] (by decide +kernel) ⟨ih,trivial⟩
theorem pow_ne{a:PS}(h:a≠0):∀n:Nat,a ^ n≠0
 | 0,hh=>by
   have:=congrArg (λx:PS=>x.c 0) hh
   have e:(a ^ 0).c 0=1:=rfl
   simp only[e,c_zero]at this
   exact absurd this (by decide)
 | n+1,hh=>by
   have e:a ^ (n+1)=a ^ n*a:=rfl
   rw[e]at hh
   rcases mul_eq_zero hh with h1 | h1
   . exact pow_ne h n h1
   . exact h h1
theorem pow_dvd{g A B s t q P Q:PS}(hq0:q≠0)(hs:Fs s)(ht:Fs t)(hA':Fs A)(hB:Fs B)(hg:Fs g)(hP:Fs P)(hQ:Fs Q)(h1:d (g*A)=g*B)(h2:s*A+t*B=1)(hA:A=q*P)(hd:d A=q*Q):∀j:Nat,∃h,Fs h/\g=q ^ j*h
 | 0=>⟨g,hg,by
                   have e:q ^ 0=(1:PS):=rfl
                   rw[e];exact psL.lin ([g]:List PS) (.v 0) (.m .i (.v 0)) [] (by decide +kernel) trivial⟩
 | j+1=>by
   obtain⟨h,hh,e⟩:=pow_dvd hq0 hs ht hA' hB hg hP hQ h1 h2 hA hd j
   have hj:=pow_ne hq0 j
   obtain⟨X,hX⟩:∃X,X=q ^ j:=⟨_,rfl⟩
   have dX:=d_pow q j
   rw[<-hX]at e hj dX
   have dq:=d_mul q P
   rw[<-hA,hd]at dq
   have dg:=d_mul X h
   rw[<-e]at dg
   rw[d_mul]at h1
   have k1:(cst (j:Rat)*d q*h+q*d h)*P=h*(B-q*Q):=by
    refine cancel hj ?_
    have:q*d g=X*(cst (j:Rat)*d q*h+q*d h):=by rw[dg];exact psL.lin ([q,X.d,h,X,h.d,cst ↑j,q.d]:List PS) (.m (.v 0) (.a (.m (.v 1) (.v 2)) (.m (.v 3) (.v 4)))) (.m (.v 3) (.a (.m (.m (.v 5) (.v 6)) (.v 2)) (.m (.v 0) (.v 4)))) [((.v 2),(.m (.v 0) (.v 1)),(.m (.m (.v 5) (.v 3)) (.v 6)))] (by decide +kernel) ⟨dX,trivial⟩
    have h3:q*d g*P=g*(B-q*Q):=by rw[hd]at h1;exact psL.lin ([q,g.d,P,g,B,Q,A]:List PS) (.m (.m (.v 0) (.v 1)) (.v 2)) (.m (.v 3) (.s (.v 4) (.m (.v 0) (.v 5)))) [(.i,(.a (.m (.v 1) (.v 6)) (.m (.v 3) (.m (.v 0) (.v 5)))),(.m (.v 3) (.v 4))),((.n (.v 1)),(.v 6),(.m (.v 0) (.v 2)))] (by decide +kernel) ⟨h1,hA,trivial⟩
    exact psL.lin ([X,cst ↑j,q.d,h,q,h.d,P,B,Q,g,g.d]:List PS) (.m (.v 0) (.m (.a (.m (.m (.v 1) (.v 2)) (.v 3)) (.m (.v 4) (.v 5))) (.v 6))) (.m (.v 0) (.m (.v 3) (.s (.v 7) (.m (.v 4) (.v 8))))) [((.a (.n (.m (.v 4) (.v 8))) (.v 7)),(.v 9),(.m (.v 0) (.v 3))),((.n (.v 6)),(.m (.v 4) (.v 10)),(.m (.v 0) (.a (.m (.m (.v 1) (.v 2)) (.v 3)) (.m (.v 4) (.v 5))))),(.i,(.m (.m (.v 4) (.v 10)) (.v 6)),(.m (.v 9) (.s (.v 7) (.m (.v 4) (.v 8)))))] (by decide +kernel) ⟨e,this,h3,trivial⟩
   have k2:h*B=q*(cst (j:Rat)*h*(Q-d P)+d h*P+h*Q):=by exact psL.lin ([h,B,q,cst ↑j,Q,P.d,h.d,P,q.d]:List PS) (.m (.v 0) (.v 1)) (.m (.v 2) (.a (.a (.m (.m (.v 3) (.v 0)) (.s (.v 4) (.v 5))) (.m (.v 6) (.v 7))) (.m (.v 0) (.v 4)))) [((.n (.m (.v 0) (.v 3))),(.m (.v 2) (.v 4)),(.a (.m (.v 8) (.v 7)) (.m (.v 2) (.v 5)))),((.n .i),(.m (.a (.m (.m (.v 3) (.v 8)) (.v 0)) (.m (.v 2) (.v 6))) (.v 7)),(.m (.v 0) (.s (.v 1) (.m (.v 2) (.v 4)))))] (by decide +kernel) ⟨dq,k1,trivial⟩
   refine⟨h*s*P+t*(cst (j:Rat)*h*(Q-d P)+d h*P+h*Q),?_,?_⟩
   . exact((hh.mul hs).mul hP).add (ht.mul ((((((Fs.cst _).mul hh).mul (hQ.sub hP.d)).add (hh.d.mul hP))).add (hh.mul hQ)))
   . have e2:q ^ (j+1)=X*q:=by rw[hX];rfl
     rw[e2]
     have h4:h=h*s*A+t*(h*B):=by exact psL.lin ([h,s,A,t,B]:List PS) (.v 0) (.a (.m (.m (.v 0) (.v 1)) (.v 2)) (.m (.v 3) (.m (.v 0) (.v 4)))) [((.n (.v 0)),(.a (.m (.v 1) (.v 2)) (.m (.v 3) (.v 4))),.i)] (by decide +kernel) ⟨h2,trivial⟩
     rw[e]
     exact psL.lin ([X,h,q,s,P,t,cst ↑j,Q,P.d,h.d,A,B]:List PS) (.m (.v 0) (.v 1)) (.m (.m (.v 0) (.v 2)) (.a (.m (.m (.v 1) (.v 3)) (.v 4)) (.m (.v 5) (.a (.a (.m (.m (.v 6) (.v 1)) (.s (.v 7) (.v 8))) (.m (.v 9) (.v 4))) (.m (.v 1) (.v 7)))))) [((.n (.m (.v 0) (.v 1))),(.a (.m (.v 3) (.v 10)) (.m (.v 5) (.v 11))),.i),((.m (.m (.v 0) (.v 1)) (.v 3)),(.v 10),(.m (.v 2) (.v 4))),((.m (.v 0) (.v 5)),(.m (.v 1) (.v 11)),(.m (.v 2) (.a (.a (.m (.m (.v 6) (.v 1)) (.s (.v 7) (.v 8))) (.m (.v 9) (.v 4))) (.m (.v 1) (.v 7)))))] (by decide +kernel) ⟨h2,hA,k2,trivial⟩
theorem top_ps{a:PS}(ha:Fs a)(h0:a≠0):∃k,a.c k≠0/\∀i,k<i->a.c i=0:=by
 obtain⟨n,hn⟩:=ha
 rcases top_of hn with h | ⟨k,_,h1,h2⟩
 . exact absurd (ext λi=>by rw[h,c_zero]) h0
 . exact⟨k,h1,h2⟩
theorem top_mul{a b:PS}{k j:Nat}(h1:a.c k≠0)(h2:∀i,k<i->a.c i=0)(h3:b.c j≠0)(h4:∀i,j<i->b.c i=0):(a*b).c (k+j)≠0/\∀i,k+j<i->(a*b).c i=0:=by
 refine⟨?_,λi hi=>?_⟩
 . rw[c_mul,conv_top h2 h4]
   intro hh
   rcases Rat.mul_eq_zero.1 hh with h | h
   . exact h1 h
   . exact h3 h
 . exact conv_zero_of (a:=k+1) (b:=j+1) (λi hi=>h2 i (by omega)) (λi hi=>h4 i (by omega)) (by omega)
theorem top_pow{a:PS}{k:Nat}(h1:a.c k≠0)(h2:∀i,k<i->a.c i=0):∀n:Nat,(a ^ n).c (n*k)≠0/\∀i,n*k<i->(a ^ n).c i=0
 | 0=>by
   refine⟨?_,λi hi=>?_⟩
   . rw[Nat.zero_mul];show(cst 1).c 0≠0;decide
   . show(cst 1).c i=0;rw[c_cst,if_neg (by omega)]
 | n+1=>by
   obtain⟨h3,h4⟩:=top_pow h1 h2 n
   have:=top_mul h3 h4 h1 h2
   rw[Nat.succ_mul]
   exact this
theorem coprime{g A B s t q P Q:PS}(hg0:g≠0)(hs:Fs s)(ht:Fs t)(hA':Fs A)(hB:Fs B)(hg:Fs g)(hqf:Fs q)(hP:Fs P)(hQ:Fs Q)(h1:d (g*A)=g*B)(h2:s*A+t*B=1)(hA:A=q*P)(hd:d A=q*Q)(hA0:A≠0):∀i,0<i->q.c i=0:=by
 have hq0:q≠0:=λhh=>hA0 (by rw[hA,hh];exact psL.lin ([P]:List PS) (.m .o (.v 0)) .o [] (by decide +kernel) trivial)
 obtain⟨k,k1,k2⟩:=top_ps hqf hq0
 rcases Nat.eq_zero_or_pos k with hk | hk
 . intro i hi;exact k2 i (by omega)
 . exfalso
   obtain⟨n,hn⟩:=hg
   obtain⟨h,hh,e⟩:=pow_dvd hq0 hs ht hA' hB ⟨n,hn⟩ hP hQ h1 h2 hA hd n
   have h0:h≠0:=λh3=>hg0 (by rw[e,h3];exact psL.lin ([q ^ n]:List PS) (.m (.v 0) .o) .o [] (by decide +kernel) trivial)
   obtain⟨m,m1,m2⟩:=top_ps hh h0
   obtain⟨p1,p2⟩:=top_pow k1 k2 n
   have:=(top_mul p1 p2 m1 m2).1
   rw[<-e]at this
   refine this (hn _ ?_)
   have:=Nat.mul_le_mul_left n hk
   omega
end PS
end Den
end

section
namespace Den
open Go Iv Pq
def vr:Int->List Rat->Nat
 | _,[]=>0
 | s,v :: r=>if v.num.sign=0 then vr s r else (if s=-v.num.sign then 1 else 0)+vr v.num.sign r
theorem zeb(s:Int)(v:Rat)(r:List Rat):vr s (v :: r)=if v.num.sign=0 then vr s r else (if s=-v.num.sign then 1 else 0)+vr v.num.sign r:=rfl
theorem zafe(c:Rat):∀(ps:List (List Rat)) (n:Nat) (s:Int),(ps.foldl (λst p=>chS st (ev p c)) (n,s)).1=n+vr s (ps.map λp=>ev p c)
 | [],n,s=>rfl
 | p :: r,n,s=>by
   simp only[List.foldl_cons,List.map_cons]
   rw[zeb]
   by_cases h0:(ev p c).num.sign=0
   . have e:chS (n,s) (ev p c)=(n,s):=by unfold chS;rw[if_pos h0]
     rw[e,if_pos h0]
     exact zafe c r n s
   . rw[if_neg h0]
     by_cases h1:s=-(ev p c).num.sign
     . have e:chS (n,s) (ev p c)=(n+1,(ev p c).num.sign):=by unfold chS;rw[if_neg h0,if_pos h1]
       rw[e,if_pos h1,zafe c r];omega
     . have e:chS (n,s) (ev p c)=(n,(ev p c).num.sign):=by unfold chS;rw[if_neg h0,if_neg h1]
       rw[e,if_neg h1,zafe c r];omega
theorem zaff{ps:List (List Rat)}{c:Rat}:chN ps c=vr 0 (ps.map λp=>ev p c):=by
 unfold chN chF
 rw[zafe];omega
theorem rle{a b:Rat}(h:a<=b):a<b\/a=b:=by
 by_cases h1:a<b
 . exact .inl h1
 . exact .inr (Rat.le_antisymm h (Rat.not_lt.1 h1))
theorem tri(a b:Rat):a<b\/a=b\/b<a:=by
 by_cases h:a<b
 . exact .inl h
 . rcases rle (Rat.not_lt.1 h)with h1 | h1
   . exact .inr (.inr h1)
   . exact .inr (.inl h1.symm)
theorem zqc{v:Rat}:v.num.sign=1↔0<v:=by
 rw[Int.sign_eq_one_iff_pos]
 have:=zamw (q:=-v)
 rw[Rat.neg_num]at this
 constructor
 . intro h;have:=this.1 (by omega);grind
 . intro h;have:=this.2 (by grind);omega
theorem zz8{v:Rat}:v.num.sign=-1↔v<0:=by
 rw[Int.sign_eq_neg_one_iff_neg]
 exact zamw
theorem zaga{v:Rat}:v.num.sign=0↔v=0:=by
 rw[Int.sign_eq_zero_iff_zero]
 exact Rat.num_eq_zero
theorem zhb(v:Rat):(v.num.sign=1/\0<v)\/(v.num.sign=0/\v=0)\/(v.num.sign=-1/\v<0):=by
 rcases tri v 0 with h | h | h
 . exact .inr (.inr ⟨zz8.2 h,h⟩)
 . exact .inr (.inl ⟨zaga.2 h,h⟩)
 . exact .inl ⟨zqc.2 h,h⟩
theorem zcf{a b:Rat}:0<a*b->(0<a/\0<b)\/(a<0/\b<0):=λh=>by
 rcases tri a 0 with h1 | h1 | h1
 . right
   refine⟨h1,Rat.not_le.1 λh2=>?_⟩
   have:=Rat.mul_nonneg (a:=-a) (b:=b) (by grind) h2
   grind
 . rw[h1,Rat.zero_mul]at h;exact absurd h (Rat.lt_irrefl)
 . left
   refine⟨h1,Rat.not_le.1 λh2=>?_⟩
   have:=Rat.mul_nonneg (a:=a) (b:=-b) (by grind) (by grind)
   grind
theorem zmj{a b:Rat}(h:a*b<0):(0<a/\b<0)\/(a<0/\0<b):=by
 have h2:0<a*(-b):=by grind
 rcases zcf h2 with ⟨h3,h4⟩ | ⟨h3,h4⟩
 . exact .inl ⟨h3,by grind⟩
 . exact .inr ⟨h3,by grind⟩
def Cl:List (Rat×Rat)->Prop
 | []=>True
 | [_]=>True
 | [_,b]=>0<b.1*b.2
 | a :: b :: c :: r=>(0<b.1*b.2\/(a.1*c.1<0/\a.2*c.2<0))/\Cl (b :: c :: r)
theorem znj{a:Rat×Rat}(h:0<a.1*a.2):a.1.num.sign=a.2.num.sign/\a.1.num.sign≠0:=by
 rcases zcf h with ⟨h1,h2⟩ | ⟨h1,h2⟩
 . rw[zqc.2 h1,zqc.2 h2];decide
 . rw[zz8.2 h1,zz8.2 h2];decide
theorem zasd{a b c:Rat}{r:List Rat}(h:a*c<0):vr a.num.sign (b :: c :: r)=1+vr c.num.sign r:=by
 rcases zmj h with ⟨h1,h2⟩ | ⟨h1,h2⟩
 . rw[zqc.2 h1,zeb,zeb,zeb,zz8.2 h2]
   rcases zhb b with ⟨hb,_⟩ | ⟨hb,_⟩ | ⟨hb,_⟩<;>rw[hb]<;>simp
 . rw[zz8.2 h1,zeb,zeb,zeb,zqc.2 h2]
   rcases zhb b with ⟨hb,_⟩ | ⟨hb,_⟩ | ⟨hb,_⟩<;>rw[hb]<;>simp
theorem za3i:∀(n:Nat) (a:Rat×Rat) (L:List (Rat×Rat)),L.length<n->0<a.1*a.2->Cl (a :: L)->vr a.1.num.sign (L.map (·.1))=vr a.2.num.sign (L.map (·.2))
 | n+1,a,[],hn,ha,hc=>rfl
 | n+1,a,[b],hn,ha,hc=>by
   have hb:0<b.1*b.2:=hc
   have s1:=znj ha
   have s2:=znj hb
   simp only[List.map_cons,List.map_nil]
   rw[zeb,zeb,<-s1.1,<-s2.1]
 | n+1,a,b :: c :: r,hn,ha,hc=>by
   obtain⟨h1,h2⟩:=hc
   have s1:=znj ha
   simp only[List.length_cons]at hn
   rcases h1 with hb | ⟨hx,hy⟩
   . have s2:=znj hb
     have ih:=za3i n b (c :: r) (by simp only[List.length_cons];omega) hb h2
     simp only[List.map_cons]
     simp only[List.map_cons]at ih
     rw[zeb (r:=c.1 :: r.map (·.1)),zeb (r:=c.2 :: r.map (·.2)),<-s1.1,ih,<-s2.1,if_neg s2.2,if_neg s2.2]
   . simp only[List.map_cons]
     rw[zasd hx,zasd hy]
     have hcc:0<c.1*c.2:=by
      rcases zcf ha with ⟨h3,h4⟩ | ⟨h3,h4⟩<;>rcases zmj hx with ⟨h5,h6⟩ | ⟨h5,h6⟩<;>rcases zmj hy with ⟨h7,h8⟩ | ⟨h7,h8⟩<;>first | (exfalso;grind) | skip
      . have:=Rat.mul_pos (a:=-c.1) (b:=-c.2) (by grind) (by grind);grind
      . exact Rat.mul_pos h6 h8
     have hc2:Cl (c :: r):=by
      cases r with
      | nil=>trivial
      | cons e r=>exact h2.2
     rw[za3i n c r (by omega) hcc hc2]
theorem zatj{p0 p1:Rat×Rat}{L:List (Rat×Rat)}(hc:Cl (p0 :: p1 :: L))(hf:0<p0.1*p0.2\/(0<p1.1/\0<p1.2/\p0.1<p0.2)\/(p1.1<0/\p1.2<0/\p0.2<p0.1)) :
 vr 0 ((p0 :: p1 :: L).map (·.1))=vr 0 ((p0 :: p1 :: L).map (·.2))+(if p0.1≠0/\p0.1*p0.2<=0 then 1 else 0):=by
 by_cases hp:0<p0.1*p0.2
 . rw[if_neg (by rintro⟨_,h⟩;exact absurd hp (Rat.not_lt.2 h))]
   have s0:=znj hp
   have:=za3i _ p0 (p1 :: L) (Nat.lt_succ_self _) hp hc
   simp only[List.map_cons]at this |-
   rw[zeb 0 p0.1,zeb 0 p0.2,<-s0.1,if_neg s0.2,if_neg s0.2,this,<-s0.1]
   rfl
 . have hp1:0<p1.1*p1.2:=by
    rcases hf with h | ⟨h1,h2,_⟩ | ⟨h1,h2,_⟩
    . exact absurd h hp
    . exact Rat.mul_pos h1 h2
    . have:=Rat.mul_pos (a:=-p1.1) (b:=-p1.2) (by grind) (by grind);grind
   have hc2:Cl (p1 :: L):=by
    cases L with
    | nil=>trivial
    | cons e r=>exact hc.2
   have ht:=za3i _ p1 L (Nat.lt_succ_self _) hp1 hc2
   have s1:=znj hp1
   have hle:p0.1*p0.2<=0:=Rat.not_lt.1 hp
   simp only[List.map_cons]
   have key:∀(v w:Rat) (l:List Rat),vr 0 (v :: w :: l)=(if v.num.sign=0 then vr 0 (w :: l)else vr v.num.sign (w :: l)):=λv w l=>by
    rw[zeb]
    split
    . rfl
    . rename_i hh
      rw[if_neg (by omega),Nat.zero_add]
   have k2:∀(s:Int) (w:Rat) (l:List Rat),w.num.sign≠0->vr s (w :: l)=(if s=-w.num.sign then 1 else 0)+vr w.num.sign l:=λs w l hw=>by
    rw[zeb,if_neg hw]
   have s2:p1.2.num.sign≠0:=by rw[<-s1.1];exact s1.2
   rw[key,key,k2 _ _ _ s1.2,k2 _ _ _ s2,k2 _ _ _ s1.2,k2 _ _ _ s2,ht,<-s1.1]
   have hJ:(if p0.1≠0/\p0.1*p0.2<=0 then 1 else 0)=(if p0.1.num.sign=0 then 0 else 1):=by
    by_cases h0:p0.1=0
    . rw[if_neg (λhh=>hh.1 h0),if_pos (zaga.2 h0)]
    . rw[if_pos ⟨h0,hle⟩,if_neg (λhh=>h0 (zaga.1 hh))]
   rw[hJ]
   rcases hf with h | ⟨h1,h2,h3⟩ | ⟨h1,h2,h3⟩
   . exact absurd h hp
   . rw[zqc.2 h1]
     rcases zhb p0.1 with ⟨ha,ha'⟩ | ⟨ha,ha'⟩ | ⟨ha,ha'⟩<;>rcases zhb p0.2 with ⟨hb,hb'⟩ | ⟨hb,hb'⟩ | ⟨hb,hb'⟩<;>rw[ha,hb]<;>first | (exfalso;grind;done) | (exfalso;have:=Rat.mul_pos ha' hb';grind;done) | (exfalso;have:=Rat.mul_pos (a:=-p0.1) (b:=-p0.2) (by grind) (by grind);grind;done) | (simp;done) | (simp;omega)
   . rw[zz8.2 h1]
     rcases zhb p0.1 with ⟨ha,ha'⟩ | ⟨ha,ha'⟩ | ⟨ha,ha'⟩<;>rcases zhb p0.2 with ⟨hb,hb'⟩ | ⟨hb,hb'⟩ | ⟨hb,hb'⟩<;>rw[ha,hb]<;>first | (exfalso;grind;done) | (exfalso;have:=Rat.mul_pos ha' hb';grind;done) | (exfalso;have:=Rat.mul_pos (a:=-p0.1) (b:=-p0.2) (by grind) (by grind);grind;done) | (simp;done) | (simp;omega)
def Bd(B x:Rat):Prop:=-B<=x/\x<=B
theorem Bd.nn{B x:Rat}(h:Bd B x):0<=B:=by have h1:=h.1;have h2:=h.2;grind
theorem Bd.add{A B x y:Rat}(h1:Bd A x)(h2:Bd B y):Bd (A+B) (x+y):=by
 obtain⟨a,b⟩:=h1;obtain⟨c,d⟩:=h2
 constructor<;>grind
theorem Bd.mul{A B x y:Rat}(h1:Bd A x)(h2:Bd B y):Bd (A*B) (x*y):=by
 obtain⟨a,b⟩:=h1;obtain⟨c,e⟩:=h2
 have k1:=Rat.mul_nonneg (a:=A-x) (b:=B+y) (by grind) (by grind)
 have k2:=Rat.mul_nonneg (a:=A+x) (b:=B-y) (by grind) (by grind)
 have k3:=Rat.mul_nonneg (a:=A-x) (b:=B-y) (by grind) (by grind)
 have k4:=Rat.mul_nonneg (a:=A+x) (b:=B+y) (by grind) (by grind)
 constructor<;>grind
theorem Bd.self(x:Rat):∃B,0<=B/\Bd B x:=by
 rcases Rat.le_total (a:=0) (b:=x)with h | h
 . exact⟨x,h,by constructor<;>grind⟩
 . exact⟨-x,by grind,by constructor<;>grind⟩
theorem ev_bd(R:Rat):∀p:List Rat,∃B,0<=B/\∀x,Bd R x->Bd B (ev p x)
 | []=>⟨0,Rat.le_refl,λx _=>by show Bd 0 0;constructor<;>grind⟩
 | c :: r=>by
   obtain⟨B,hB,h⟩:=ev_bd R r
   obtain⟨C,hC,hc⟩:=Bd.self c
   by_cases hR:0<=R
   . refine⟨C+B*R,?_,λx hx=>hc.add ((h x hx).mul hx)⟩
     have:=Rat.mul_nonneg hB hR
     grind
   . exact⟨0,Rat.le_refl,λx hx=>absurd hx.nn hR⟩
def dq:List Rat->Rat->Rat->Rat
 | [],_,_=>0
 | c :: r,x,y=>ev r y+x*dq r x y
theorem dq_eq:∀(p:List Rat) (x y:Rat),ev p y-ev p x=(y-x)*dq p x y
 | [],x,y=>by show(0:Rat)-0=(y-x)*0;grind
 | c :: r,x,y=>by
   have ih:=dq_eq r x y
   show(c+ev r y*y)-(c+ev r x*x)=(y-x)*(ev r y+x*dq r x y)
   grind
theorem dq_bd(R:Rat):∀p:List Rat,∃B,0<=B/\∀x y,Bd R x->Bd R y->Bd B (dq p x y)
 | []=>⟨0,Rat.le_refl,λx y _ _=>by show Bd 0 0;constructor<;>grind⟩
 | c :: r=>by
   obtain⟨B,hB,h⟩:=dq_bd R r
   obtain⟨C,hC,hc⟩:=ev_bd R r
   by_cases hR:0<=R
   . refine⟨C+R*B,?_,λx y hx hy=>(hc y hy).add (hx.mul (h x y hx hy))⟩
     have:=Rat.mul_nonneg hR hB
     grind
   . exact⟨0,Rat.le_refl,λx y hx=>absurd hx.nn hR⟩
def ddq:List Rat->Rat->Rat->Rat
 | [],_,_=>0
 | c :: r,x,y=>dq r x y+x*ddq r x y
theorem zaqy:∀(p:List Rat) (x y:Rat),dq p x y-dq p x x=(y-x)*ddq p x y
 | [],x,y=>by show(0:Rat)-0=(y-x)*0;grind
 | c :: r,x,y=>by
   have ih:=zaqy r x y
   have h2:=dq_eq r x y
   show(ev r y+x*dq r x y)-(ev r x+x*dq r x x)=(y-x)*(dq r x y+x*ddq r x y)
   grind
theorem zaqx(R:Rat):∀p:List Rat,∃B,0<=B/\∀x y,Bd R x->Bd R y->Bd B (ddq p x y)
 | []=>⟨0,Rat.le_refl,λx y _ _=>by show Bd 0 0;constructor<;>grind⟩
 | c :: r=>by
   obtain⟨B,hB,h⟩:=zaqx R r
   obtain⟨C,hC,hc⟩:=dq_bd R r
   by_cases hR:0<=R
   . refine⟨C+R*B,?_,λx y hx hy=>(hc x y hx hy).add (hx.mul (h x y hx hy))⟩
     have:=Rat.mul_nonneg hR hB
     grind
   . exact⟨0,Rat.le_refl,λx y hx=>absurd hx.nn hR⟩
def drv:List Rat->List Rat
 | []=>[]
 | _ :: r=>addL r (0 :: drv r)
theorem zaqz:∀(p:List Rat) (x:Rat),dq p x x=ev (drv p) x
 | [],x=>rfl
 | c :: r,x=>by
   have ih:=zaqz r x
   show ev r x+x*dq r x x=ev (addL r (0 :: drv r)) x
   rw[ev_addL,ih]
   show _=ev r x+(0+ev (drv r) x*x)
   grind
theorem zaqn:∀(p:List Rat) (i:Nat),co (drv p) i=der (co p) i
 | [],i=>by
   show(0:Rat)=_*0
   rw[Rat.mul_zero]
 | c :: r,i=>by
   show co (addL r (0 :: drv r)) i=((i+1:Nat):Rat)*co r i
   rw[co_addL]
   cases i with
   | zero=>
     show co r 0+0=_
     have:((0+1:Nat):Rat)=1:=rfl
     rw[this];grind
   | succ i=>
     show co r (i+1)+co (drv r) i=_
     rw[zaqn r i]
     unfold der
     have:((i+1+1:Nat):Rat)=((i+1:Nat):Rat)+1:=Rat.natCast_add (i+1) 1
     rw[this];grind
theorem zasy(p:List Rat)(x:Rat):dq p x x=ev (trim (derL p)) x:=by
 rw[zaqz,ev_trim]
 exact ev_congr λi=>by rw[zaqn,zafh]
end Den
end

section
namespace Den
open Go Iv Pq
theorem sq_nn(u:Rat):0<=u*u:=by
 rcases Rat.le_total (a:=0) (b:=u)with h | h
 . exact Rat.mul_nonneg h h
 . have:=Rat.mul_nonneg (a:=-u) (b:=-u) (by grind) (by grind)
   grind
theorem zark{a b c q u v ε U V Q:Rat}(h1:q*b=a+c)(h2:u*a+v*b=1)(hb:Bd ε b)(hu:Bd U u)(hv:Bd V v)(hq:Bd Q q)(e1:V*ε<=1/4)(e2:U*Q*ε<=1/4):a*c<0:=by
 have k1:=(hv.mul hb).2
 have k2:=((hu.mul hq).mul hb).2
 have w:3/4<=u*a:=by grind
 have w2:1/2<=u*a-u*q*b:=by grind
 have p:=Rat.mul_pos (a:=u*a) (b:=u*a-u*q*b) (by grind) (by grind)
 refine Rat.not_le.1 λhh=>?_
 have n1:=Rat.mul_nonneg (sq_nn u) hh
 have e:u*u*(a*c)=-((u*a)*(u*a-u*q*b)):=by grind
 grind
theorem sm_of{x y δ l L bx b2:Rat}(hxy:¬0<bx*b2)(h:b2-bx=(y-x)*l)(hl:Bd L l)(h0:x<=y)(hd:y-x<=δ):Bd (δ*L) bx/\Bd (δ*L) b2:=by
 have hb:Bd δ (y-x):=⟨by grind,hd⟩
 have k:=hb.mul hl
 rw[<-h]at k
 obtain⟨k1,k2⟩:=k
 rcases Rat.le_total (a:=0) (b:=bx)with s1 | s1<;>rcases Rat.le_total (a:=0) (b:=b2)with s2 | s2
 . rcases rle s1 with t1 | t1
   . rcases rle s2 with t2 | t2
     . exact absurd (Rat.mul_pos t1 t2) hxy
     . constructor<;>constructor<;>grind
   . constructor<;>constructor<;>grind
 . constructor<;>constructor<;>grind
 . constructor<;>constructor<;>grind
 . rcases rle s1 with t1 | t1
   . rcases rle s2 with t2 | t2
     . exact absurd (by have:=Rat.mul_pos (a:=-bx) (b:=-b2) (by grind) (by grind);grind) hxy
     . constructor<;>constructor<;>grind
   . constructor<;>constructor<;>grind
theorem zafo{E L:Rat}(hE:0<=E)(hL:0<=L):∃δ:Rat,0<δ/\∀e,0<=e->e<=E->e*(δ*L)<=1/4:=by
 have hp:0<4*((1+E)*(1+L)):=by
  have:=Rat.mul_pos (a:=1+E) (b:=1+L) (by grind) (by grind)
  grind
 refine⟨(4*((1+E)*(1+L)))⁻¹,Rat.inv_pos.2 hp,λe h0 he=>?_⟩
 have hi:=Rat.mul_inv_cancel _ (show 4*((1+E)*(1+L))≠0 by grind)
 have hd:=Rat.inv_pos.2 hp
 generalize (4*((1+E)*(1+L)))⁻¹=δ at *
 have k1:0<=(1+E)*(1+L)-e*L:=by
  have h1:=Rat.mul_nonneg (a:=E-e) (b:=L) (by grind) hL
  grind
 have k2:=Rat.mul_nonneg k1 (Rat.le_of_lt hd)
 grind
theorem zafu{a b:Rat}(ha:0<a)(hb:0<b):∃c,0<c/\c<=a/\c<=b:=by
 rcases Rat.le_total (a:=a) (b:=b)with h | h
 . exact⟨a,ha,Rat.le_refl,h⟩
 . exact⟨b,hb,h,Rat.le_refl⟩
theorem triple{a b c q u v:List Rat}(R:Rat)(h1:∀x,ev q x*ev b x=ev a x+ev c x)(h2:∀x,ev u x*ev a x+ev v x*ev b x=1) :
 ∃δ:Rat,0<δ/\∀x y,Bd R x->Bd R y->x<=y->y-x<=δ->0<ev b x*ev b y\/(ev a x*ev c x<0/\ev a y*ev c y<0):=by
 obtain⟨Q,hQ,bq⟩:=ev_bd R q
 obtain⟨U,hU,bu⟩:=ev_bd R u
 obtain⟨V,hV,bv⟩:=ev_bd R v
 obtain⟨L,hL,bl⟩:=dq_bd R b
 have hUQ:=Rat.mul_nonneg hU hQ
 obtain⟨δ,hd,he⟩:=zafo (E:=V+U*Q) (L:=L) (by grind) hL
 refine⟨δ,hd,λx y hx hy hxy hs=>?_⟩
 by_cases hb:0<ev b x*ev b y
 . exact .inl hb
 . right
   obtain⟨k1,k2⟩:=sm_of hb (dq_eq b x y) (bl x y hx hy) hxy hs
   have e1:=he V hV (by grind)
   have e2:=he (U*Q) hUQ (by grind)
   exact⟨zark (h1 x) (h2 x) k1 (bu x hx) (bv x hx) (bq x hx) e1 e2,zark (h1 y) (h2 y) k2 (bu y hy) (bv y hy) (bq y hy) e1 e2⟩
theorem first{p d u v:List Rat}(R:Rat)(h1:∀x,dq p x x=ev d x)(h2:∀x,ev u x*ev p x+ev v x*ev d x=1) :
 ∃δ:Rat,0<δ/\∀x y,Bd R x->Bd R y->x<y->y-x<=δ->0<ev p x*ev p y\/(0<ev d x/\0<ev d y/\ev p x<ev p y)\/(ev d x<0/\ev d y<0/\ev p y<ev p x):=by
 obtain⟨U,hU,bu⟩:=ev_bd R u
 obtain⟨V,hV,bv⟩:=ev_bd R v
 obtain⟨L,hL,bl⟩:=dq_bd R p
 obtain⟨M,hM,bm⟩:=zaqx R p
 obtain⟨N,hN,bn⟩:=dq_bd R d
 obtain⟨δ1,hd1,he1⟩:=zafo hU hL
 obtain⟨δ2,hd2,he2⟩:=zafo hV hM
 obtain⟨δ3,hd3,he3⟩:=zafo hV hN
 obtain⟨δ4,hd4,l1,l2⟩:=zafu hd1 hd2
 obtain⟨δ,hd,l3,l4⟩:=zafu hd4 hd3
 refine⟨δ,hd,λx y hx hy hxy hs=>?_⟩
 by_cases hp:0<ev p x*ev p y
 . exact .inl hp
 . right
   have hxy':x<=y:=Rat.le_of_lt hxy
   obtain⟨k1,_⟩:=sm_of hp (dq_eq p x y) (bl x y hx hy) hxy' (δ:=δ1) (by grind)
   have e1:=he1 U hU Rat.le_refl
   have e2:=he2 V hV Rat.le_refl
   have e3:=he3 V hV Rat.le_refl
   have w:3/4<=ev v x*ev d x:=by
    have:=((bu x hx).mul k1).2
    have:=h2 x
    grind
   have b2:Bd δ2 (y-x):=⟨by grind,by grind⟩
   have b3:Bd δ3 (y-x):=⟨by grind,by grind⟩
   have w2:1/2<=ev v x*dq p x y:=by
    have g1:=((bv x hx).mul (b2.mul (bm x y hx hy))).1
    have g2:=zaqy p x y
    rw[h1]at g2
    have g3:ev v x*dq p x y=ev v x*ev d x+ev v x*((y-x)*ddq p x y):=by rw[<-g2];grind
    grind
   have w3:1/2<=ev v x*ev d y:=by
    have g1:=((bv x hx).mul (b3.mul (bn x y hx hy))).1
    have g2:=dq_eq d x y
    have g3:ev v x*ev d y=ev v x*ev d x+ev v x*((y-x)*dq d x y):=by rw[<-g2];grind
    grind
   have g:=dq_eq p x y
   rcases zcf (a:=ev v x) (b:=ev d x) (by grind)with ⟨s1,s2⟩ | ⟨s1,s2⟩
   . left
     rcases zcf (a:=ev v x) (b:=dq p x y) (by grind)with ⟨_,s3⟩ | ⟨s3,_⟩
     . rcases zcf (a:=ev v x) (b:=ev d y) (by grind)with ⟨_,s4⟩ | ⟨s4,_⟩
       . have:=Rat.mul_pos (a:=y-x) (b:=dq p x y) (by grind) s3
         exact⟨s2,s4,by grind⟩
       . grind
     . grind
   . right
     rcases zcf (a:=ev v x) (b:=dq p x y) (by grind)with ⟨s3,_⟩ | ⟨_,s3⟩
     . grind
     . rcases zcf (a:=ev v x) (b:=ev d y) (by grind)with ⟨s4,_⟩ | ⟨_,s4⟩
       . grind
       . have:=Rat.mul_pos (a:=y-x) (b:=-(dq p x y)) (by grind) (by grind)
         exact⟨s2,s4,by grind⟩
def StE:List (List Rat)->Prop
 | []=>True
 | [_]=>True
 | [_,b]=>∃k:Rat,k≠0/\∀x,ev b x=k
 | a :: b :: c :: r=>(∃q,∀x,ev q x*ev b x=ev a x+ev c x)/\(∃u v,∀x,ev u x*ev a x+ev v x*ev b x=1)/\StE (b :: c :: r)
theorem StE.cell(R:Rat):∀{ps:List (List Rat)},StE ps->∃δ:Rat,0<δ/\∀x y,Bd R x->Bd R y->x<=y->y-x<=δ->Cl (ps.map λp=>(ev p x,ev p y))
 | [],_=>⟨1,by decide,λ_ _ _ _ _ _=>trivial⟩
 | [_],_=>⟨1,by decide,λ_ _ _ _ _ _=>trivial⟩
 | [_,b],⟨k,hk,h⟩=>⟨1,by decide,λx y _ _ _ _=>by
    show 0<ev b x*ev b y
    rw[h,h]
    rcases tri k 0 with h1 | h1 | h1
    . have:=Rat.mul_pos (a:=-k) (b:=-k) (by grind) (by grind);grind
    . exact absurd h1 hk
    . exact Rat.mul_pos h1 h1⟩
 | a :: b :: c :: r,⟨⟨q,hq⟩,⟨u,v,huv⟩,hr⟩=>by
   obtain⟨δ1,d1,h1⟩:=triple R hq huv
   obtain⟨δ2,d2,h2⟩:=StE.cell R hr
   obtain⟨δ,d3,l1,l2⟩:=zafu d1 d2
   exact⟨δ,d3,λx y hx hy hxy hs=>⟨h1 x y hx hy hxy (Rat.le_trans hs l1),h2 x y hx hy hxy (Rat.le_trans hs l2)⟩⟩
theorem StE.first(R:Rat){p d:List Rat}{r:List (List Rat)}(h:StE (p :: d :: r))(hd:∀x,dq p x x=ev d x):∃δ:Rat,0<δ/\∀x y,Bd R x->Bd R y->x<y->y-x<=δ ->
 chN (p :: d :: r) x=chN (p :: d :: r) y+(if ev p x≠0/\ev p x*ev p y<=0 then 1 else 0):=by
 have hb:∃u v,∀x,ev u x*ev p x+ev v x*ev d x=1:=by
  cases r with
  | nil=>
    obtain⟨k,hk,h1⟩:=h
    refine⟨[],[1/k],λx=>?_⟩
    rw[h1]
    show 0*_+(1/k+0*x)*k=1
    have:=Rat.div_mul_cancel (a:=(1:Rat)) hk
    grind
  | cons c r=>exact h.2.1
 obtain⟨u,v,huv⟩:=hb
 obtain⟨δ1,d1,h1⟩:=Den.first R hd huv
 obtain⟨δ2,d2,h2⟩:=StE.cell R h
 obtain⟨δ,d3,l1,l2⟩:=zafu d1 d2
 refine⟨δ,d3,λx y hx hy hxy hs=>?_⟩
 have:=zatj (p0:=(ev p x,ev p y)) (p1:=(ev d x,ev d y)) (L:=r.map λp=>(ev p x,ev p y)) (h2 x y hx hy (Rat.le_of_lt hxy) (Rat.le_trans hs l2)) (h1 x y hx hy hxy (Rat.le_trans hs l1))
 rw[zaff,zaff]
 simp only[List.map_cons,List.map_map]at this |-
 exact this
theorem arch{t δ:Rat}(hd:0<δ):∃n:Nat,t<=(n:Rat)*δ:=by
 refine⟨(t/δ).num.natAbs,?_⟩
 have h1:t/δ<=(((t/δ).num.natAbs:Nat):Rat):=by
  have h2:=zdx (t/δ)
  have h3:(1:Rat)<=(((t/δ).den:Nat):Rat):=by
   have:=(t/δ).den_pos
   have h4:((1:Nat):Rat)<=(((t/δ).den:Nat):Rat):=Rat.natCast_le_natCast.2 (by omega)
   exact h4
  have h5:((t/δ).num:Rat)<=(((t/δ).num.natAbs:Nat):Rat):=by
   rw[<-Rat.intCast_natCast]
   exact Rat.intCast_le_intCast.2 (by omega)
  have h6:(0:Rat)<=(((t/δ).num.natAbs:Nat):Rat):=by
   rw[<-Rat.intCast_natCast]
   exact Rat.intCast_nonneg.2 (by omega)
  generalize ((t/δ).num:Rat)=m at *
  generalize (((t/δ).num.natAbs:Nat):Rat)=M at *
  generalize (((t/δ).den:Nat):Rat)=D at *
  generalize t/δ=z at *
  refine Rat.not_lt.1 λhh=>?_
  have:=Rat.mul_nonneg (a:=z) (b:=D-1) (by grind) (by grind)
  grind
 have h2:=Rat.mul_nonneg (a:=(((t/δ).num.natAbs:Nat):Rat)-t/δ) (b:=δ) (by grind) (Rat.le_of_lt hd)
 have h3:t/δ*δ=t:=Rat.div_mul_cancel (by grind)
 grind
theorem mesh{P:Rat->Rat->Prop}{δ u v:Rat}(hd:0<δ)(h1:∀x y,u<=x->x<y->y<=v->y-x<=δ->P x y)(h2:∀x y z,u<=x->x<y->y<z->z<=v->P x y->P y z->P x z)(huv:u<v):P u v:=by
 have key:∀(n:Nat) (x:Rat),u<=x->x<v->v-x<=(n:Rat)*δ->P x v:=by
  intro n
  induction n with
  | zero=>
    intro x hx hxv hn
    exfalso
    have:((0:Nat):Rat)=0:=rfl
    rw[this,Rat.zero_mul]at hn
    grind
  | succ n ih=>
    intro x hx hxv hn
    by_cases hs:v-x<=δ
    . exact h1 x v hx hxv Rat.le_refl hs
    . have e:((n+1:Nat):Rat)=(n:Rat)+1:=Rat.natCast_add n 1
      rw[e]at hn
      refine h2 x (x+δ) v hx (by grind) (by grind) Rat.le_refl (h1 x (x+δ) hx (by grind) (by grind) (by grind)) (ih (x+δ) (by grind) (by grind) (by grind))
 obtain⟨n,hn⟩:=arch (t:=v-u) hd
 exact key n u Rat.le_refl huv hn
end Den
end

section
namespace Den
open Go Iv Pq PS
theorem toL{u:PS}(hu:Fs u):∃l:List Rat,ps l=u:=by
 obtain⟨n,hn⟩:=hu
 refine⟨(List.range n).map u.c,PS.ext λj=>?_⟩
 rw[ps_c,zn2]
 split
 . rfl
 . exact(hn j (by omega)).symm
theorem zats{a b c q:List Rat}(h:ps a=ps q*ps b-ps c)(x:Rat):ev q x*ev b x=ev a x+ev c x:=by
 rw[<-ev_mulL,<-ev_addL]
 refine ev_congr λi=>?_
 have:=congrArg (λs:PS=>s.c i) h
 simp only[c_sub,c_mul,ps_c]at this
 rw[co_mulL,co_addL,this]
 have e:conv (ps q).c (ps b).c i=conv (co q) (co b) i:=rfl
 grind
theorem zasz{a b u v:List Rat}{k:Rat}(h:ps u*ps a+ps v*ps b=cst k)(x:Rat):ev u x*ev a x+ev v x*ev b x=k:=by
 have e:ev (addL (mulL u a) (mulL v b)) x=ev [k] x:=ev_congr λi=>by
  have:=congrArg (λs:PS=>s.c i) h
  simp only[c_add,c_mul,c_cst]at this
  rw[co_addL,co_mulL,co_mulL]
  have e2:co [k] i=if i=0 then k else 0:=by
   cases i with
   | zero=>rfl
   | succ i=>rfl
  rw[e2]
  exact this
 rw[ev_addL,ev_mulL,ev_mulL]at e
 rw[e]
 show k+0*x=k
 grind
theorem zar0{b:List Rat}{k:Rat}(h:ps b=cst k)(x:Rat):ev b x=k:=by
 have e:ev b x=ev [k] x:=ev_congr λi=>by
  have:=congrArg (λs:PS=>s.c i) h
  simp only[c_cst,ps_c]at this
  have e2:co [k] i=if i=0 then k else 0:=by
   cases i with
   | zero=>rfl
   | succ i=>rfl
  rw[e2];exact this
 rw[e]
 show k+0*x=k
 grind
def StP:List (List Rat)->Prop
 | []=>True
 | [_]=>True
 | [a,b]=>∃u:PS,Fs u/\ps a=u*ps b
 | a :: b :: c :: r=>(∃u:PS,Fs u/\ps a=u*ps b-ps c)/\StP (b :: c :: r)
theorem zao1:∀{n:Nat} {p q:List Rat},nf q->q≠[]->q.length<=n->StP (p :: chn n p q)
 | 0,p,q,_,h0,hl=>absurd (List.length_pos_iff.2 h0) (by omega)
 | n+1,p,q,hq,h0,hl=>by
   have ht:trim q≠[]:=by rw[trim_nf hq];exact h0
   obtain⟨u,hu,hr⟩:=rem_eq (p:=p) ht
   have e:chn (n+1) p q=q :: chn n q (negT (remL p q)):=by
    show(if q=[]then []else q :: chn n q (negT (remL p q)))=_
    rw[if_neg h0]
   rw[e]
   by_cases hz:remL p q=[]
   . rw[hz,zakh,zwa]
     rw[hz,ps_nil]at hr
     exact⟨u,hu,by rw[hr];exact psL.lin ([u,ps q]:List PS) (.a (.m (.v 0) (.v 1)) .o) (.m (.v 0) (.v 1)) [] (by decide +kernel) trivial⟩
   . have hz2:=zafv zjs hz
     have hlen:(negT (remL p q)).length<=n:=by
      rw[za7t zjs]
      have:=za86 (p:=p) (q:=q)
      rw[trim_nf hq]at this
      omega
     have ih:=zao1 (n:=n) (p:=q) (q:=negT (remL p q)) zao9 hz2 hlen
     obtain⟨m,rfl⟩:∃m,n=m+1:=⟨n-1,by have:=List.length_pos_iff.2 hz2;omega⟩
     have e2:chn (m+1) q (negT (remL p q))=negT (remL p q) :: chn m (negT (remL p q)) (negT (remL q (negT (remL p q)))):=by
      show(if negT (remL p q)=[]then []else negT (remL p q) :: chn m (negT (remL p q)) (negT (remL q (negT (remL p q)))))=_
      rw[if_neg hz2]
     rw[e2]at ih |-
     exact⟨⟨u,hu,by rw[hr,ps_neg];exact psL.lin ([u,ps q,ps (remL p q)]:List PS) (.a (.m (.v 0) (.v 1)) (.v 2)) (.s (.m (.v 0) (.v 1)) (.n (.v 2))) [] (by decide +kernel) trivial⟩,ih⟩
theorem StP.last:∀{L:List (List Rat)} {a b:List Rat},StP (a :: b :: L)->∃s t A B:PS,Fs s/\Fs t/\Fs A/\Fs B/\ps ((b :: L).getLast (by simp))=s*ps a+t*ps b/\ps a=ps ((b :: L).getLast (by simp))*A/\ps b=ps ((b :: L).getLast (by simp))*B
 | [],a,b,⟨u,hu,h⟩=>⟨0,1,u,1,Fs.cst 0,Fs.cst 1,hu,Fs.cst 1,by simp only[List.getLast_singleton];exact psL.lin ([ps b,ps a]:List PS) (.v 0) (.a (.m .o (.v 1)) (.m .i (.v 0))) [] (by decide +kernel) trivial,by simp only[List.getLast_singleton];exact psL.lin ([ps a,ps b,u]:List PS) (.v 0) (.m (.v 1) (.v 2)) [(.i,(.v 0),(.m (.v 2) (.v 1)))] (by decide +kernel) ⟨h,trivial⟩,by simp only[List.getLast_singleton];exact psL.lin ([ps b]:List PS) (.v 0) (.m (.v 0) .i) [] (by decide +kernel) trivial⟩
 | c :: r,a,b,⟨⟨u,hu,h⟩,hr⟩=>by
   obtain⟨s,t,B,C,f1,f2,f3,f4,e1,e2,e3⟩:=StP.last hr
   have el:(b :: c :: r).getLast (by simp)=(c :: r).getLast (by simp):=List.getLast_cons (by simp)
   rw[el]
   generalize ps ((c :: r).getLast (by simp))=e at *
   exact⟨-t,s+t*u,u*B-C,B,f2.neg,f1.add (f2.mul hu),(hu.mul f3).sub f4,f3,by rw[e1];exact psL.lin ([s,ps b,t,ps c,ps a,u]:List PS) (.a (.m (.v 0) (.v 1)) (.m (.v 2) (.v 3))) (.a (.m (.n (.v 2)) (.v 4)) (.m (.a (.v 0) (.m (.v 2) (.v 5))) (.v 1))) [((.v 2),(.v 4),(.s (.m (.v 5) (.v 1)) (.v 3)))] (by decide +kernel) ⟨h,trivial⟩,by exact psL.lin ([ps a,e,u,B,C,ps b,ps c]:List PS) (.v 0) (.m (.v 1) (.s (.m (.v 2) (.v 3)) (.v 4))) [(.i,(.v 0),(.s (.m (.v 2) (.v 5)) (.v 6))),((.v 2),(.v 5),(.m (.v 1) (.v 3))),((.n .i),(.v 6),(.m (.v 1) (.v 4)))] (by decide +kernel) ⟨h,e2,e3,trivial⟩,e2⟩
theorem zafm(a b:Rat):cst a*cst b=cst (a*b):=PS.ext λi=>by
 rw[c_cstm,c_cst,c_cst]
 split
 . rfl
 . exact Rat.mul_zero _
theorem StP.toE{k:Rat}(hk:k≠0):∀{L:List (List Rat)} {a b:List Rat},StP (a :: b :: L)->ps ((b :: L).getLast (by simp))=cst k->StE (a :: b :: L)
 | [],a,b,h,hl=>⟨k,hk,λx=>zar0 hl x⟩
 | c :: r,a,b,h,hl=>by
   obtain⟨s,t,A,B,f1,f2,f3,f4,e1,e2,e3⟩:=StP.last h
   rw[hl]at e1
   obtain⟨⟨u,hu,h1⟩,hr⟩:=h
   obtain⟨q,rfl⟩:=toL hu
   obtain⟨s',hs'⟩:=toL ((Fs.cst (1/k)).mul f1)
   obtain⟨t',ht'⟩:=toL ((Fs.cst (1/k)).mul f2)
   refine⟨⟨q,λx=>zats h1 x⟩,⟨s',t',λx=>zasz ?_ x⟩,StP.toE hk hr (by
    have el:(b :: c :: r).getLast (by simp)=(c :: r).getLast (by simp):=List.getLast_cons (by simp)
    rw[<-el];exact hl)⟩
   rw[hs',ht']
   have e5:cst (1/k)*cst k=cst 1:=by rw[zafm,Rat.div_mul_cancel hk]
   have e6:cst (1/k)*s*ps a+cst (1/k)*t*ps b=cst (1/k)*cst k:=by rw[e1];exact psL.lin ([cst (1/k),s,ps a,t,ps b]:List PS) (.a (.m (.m (.v 0) (.v 1)) (.v 2)) (.m (.m (.v 0) (.v 3)) (.v 4))) (.m (.v 0) (.a (.m (.v 1) (.v 2)) (.m (.v 3) (.v 4)))) [] (by decide +kernel) trivial
   rw[e6,e5]
theorem zalb{p:List Rat}(h0:trim p≠[]):∃g A B s t:PS,Fs g/\Fs A/\Fs B/\Fs s/\Fs t/\g≠0/\A≠0/\ps (monQ p)=g*A/\d (g*A)=g*B/\s*A+t*B=1/\∃k:Rat,k≠0/\ps (sqfL p)=cst k*A:=by
 obtain⟨M,hM⟩:∃M,M=monQ p:=⟨_,rfl⟩
 have nM:nf M:=by rw[hM];exact zf4
 have hM0:M≠[]:=λhh=>h0 (List.eq_nil_of_length_eq_zero (by rw[<-zb7,<-hM,hh];rfl))
 have tM:trim M≠[]:=by rw[trim_nf nM];exact hM0
 have pM:ps M≠0:=λhh=>tM (ps_eq_nil hh)
 obtain⟨D,hD⟩:∃D,D=trim (derL M):=⟨_,rfl⟩
 have dD:ps D=d (ps M):=by rw[hD];exact ps_der M
 obtain⟨a,b,x',y',fa,fb,fx,fy,e1,e2,e3⟩:=gcd_comb (n:=(monQ D).length+1) (x:=monQ M) (y:=monQ D) zf4 (Nat.lt_succ_self _)
 obtain⟨G,hG⟩:∃G,G=gcdQ M D:=⟨_,rfl⟩
 have eG:gcdS ((monQ D).length+1) (monQ M) (monQ D)=G:=by rw[hG];rfl
 rw[eG]at e1 e2 e3
 obtain⟨k1,hk1,m1,m2⟩:=ps_mon tM
 have hB:∃b1 B:PS,Fs b1/\Fs B/\ps G=a*cst k1*ps M+b1*d (ps M)/\d (ps M)=ps G*B:=by
  by_cases hz:trim D=[]
  . have z1:ps D=0:=by rw[<-ps_trim,hz,ps_nil]
    rw[ps_mon_nil hz,ps_nil]at e1
    rw[z1]at dD
    exact⟨0,0,Fs.cst 0,Fs.cst 0,by rw[e1,m1];exact psL.lin ([a,cst k1,ps M,b,(ps M).d]:List PS) (.a (.m (.v 0) (.m (.v 1) (.v 2))) (.m (.v 3) .o)) (.a (.m (.m (.v 0) (.v 1)) (.v 2)) (.m .o (.v 4))) [] (by decide +kernel) trivial,by rw[<-dD];exact psL.lin ([ps G]:List PS) .o (.m (.v 0) .o) [] (by decide +kernel) trivial⟩
  . obtain⟨k2,hk2,n1,n2⟩:=ps_mon hz
    rw[n1]at e1
    exact⟨b*cst k2,cst (1/k2)*y',fb.mul (Fs.cst _),(Fs.cst _).mul fy,by rw[<-dD,e1,m1];exact psL.lin ([a,cst k1,ps M,b,cst k2,ps D]:List PS) (.a (.m (.v 0) (.m (.v 1) (.v 2))) (.m (.v 3) (.m (.v 4) (.v 5)))) (.a (.m (.m (.v 0) (.v 1)) (.v 2)) (.m (.m (.v 3) (.v 4)) (.v 5))) [] (by decide +kernel) trivial,by rw[<-dD,n2,e3];exact psL.lin ([cst (1/k2),ps G,y']:List PS) (.m (.v 0) (.m (.v 1) (.v 2))) (.m (.v 1) (.m (.v 0) (.v 2))) [] (by decide +kernel) trivial⟩
 obtain⟨b1,B,fb1,fB,g1,g2⟩:=hB
 have hA:ps M=ps G*(cst (1/k1)*x'):=by rw[m2,e2];exact psL.lin ([cst (1/k1),ps G,x']:List PS) (.m (.v 0) (.m (.v 1) (.v 2))) (.m (.v 1) (.m (.v 0) (.v 2))) [] (by decide +kernel) trivial
 obtain⟨A,eA⟩:∃A,A=cst (1/k1)*x':=⟨_,rfl⟩
 have fA:Fs A:=by rw[eA];exact(Fs.cst _).mul fx
 rw[<-eA]at hA
 have hG0:ps G≠0:=λhh=>pM (by rw[hA,hh];exact psL.lin ([A]:List PS) (.m .o (.v 0)) .o [] (by decide +kernel) trivial)
 have hA0:A≠0:=λhh=>pM (by rw[hA,hh];exact psL.lin ([ps G]:List PS) (.m (.v 0) .o) .o [] (by decide +kernel) trivial)
 have one:a*cst k1*A+b1*B=1:=by
  refine cancel hG0 ?_
  have:ps G=a*cst k1*(ps G*A)+b1*(ps G*B):=by rw[<-hA,<-g2];exact g1
  exact psL.lin ([ps G,a,cst k1,A,b1,B]:List PS) (.m (.v 0) (.a (.m (.m (.v 1) (.v 2)) (.v 3)) (.m (.v 4) (.v 5)))) (.m (.v 0) .i) [((.n .i),(.v 0),(.a (.m (.m (.v 1) (.v 2)) (.m (.v 0) (.v 3))) (.m (.v 4) (.m (.v 0) (.v 5)))))] (by decide +kernel) ⟨this,trivial⟩
 have tG:trim G≠[]:=λhh=>hG0 (by rw[<-ps_trim,hh,ps_nil])
 obtain⟨lA,hlA⟩:=toL fA
 have hq:trim lA=quoL M G:=zwv (rs:=[]) tG ⟨λj=>by
  have:=congrArg (λs:PS=>s.c j) hA
  simp only[c_mul,ps_c]at this
  rw[co_nil,Rat.add_zero,this,<-hlA]
  exact conv_comm,λj _=>co_nil⟩
 have es:sqfL p=monQ (quoL M G):=by unfold sqfL;rw[if_neg h0,<-hM,<-hD,<-hG]
 have tq:trim (quoL M G)≠[]:=λhh=>hA0 (by rw[<-hlA,<-ps_trim,hq,<-ps_trim,hh,ps_nil])
 obtain⟨k,hk,w1,w2⟩:=ps_mon tq
 refine⟨ps G,A,B,a*cst k1,b1,ps_fs G,fA,fB,fa.mul (Fs.cst _),fb1,hG0,hA0,by rw[<-hM];exact hA,by rw[<-hA];exact g2,one,k,hk,?_⟩
 rw[es,w1,<-hq,ps_trim,hlA]
theorem zaqk{n:Nat}{p q:List Rat}(hq:nf q)(h0:q≠[])(hl:q.length<=n):∃r,chn n p q=q :: r:=by
 obtain⟨m,rfl⟩:∃m,n=m+1:=⟨n-1,by have:=List.length_pos_iff.2 h0;omega⟩
 exact⟨_,by show(if q=[]then []else _)=_;rw[if_neg h0]⟩
theorem zann{p:List Rat}(h2:2<=(trim p).length)(hl:(sqfL p).length<=9)(R:Rat):∃δ:Rat,0<δ/\∀x y,Bd R x->Bd R y->x<y->y-x<=δ ->
 chN (chainL p) x=chN (chainL p) y+(if ev (sqfL p) x≠0/\ev (sqfL p) x*ev (sqfL p) y<=0 then 1 else 0):=by
 have h0:trim p≠[]:=λhh=>by rw[hh]at h2;simp at h2
 obtain⟨g,A,B,s,t,fg,fA,fB,fs,ft,hg0,hA0,eM,eD,one,k,hk,eW⟩:=zalb h0
 obtain⟨W,hW⟩:∃W,W=sqfL p:=⟨_,rfl⟩
 have ec:chainL p=W :: chn 9 W (trim (derL W)):=by unfold chainL;rw[if_neg (by omega),<-hW]
 rw[ec,<-hW]
 rw[<-hW]at eW hl
 have hW0:ps W≠0:=λhh=>by
  rw[hh]at eW
  rcases PS.mul_eq_zero eW.symm with h3 | h3
  . have:=congrArg (λs:PS=>s.c 0) h3
    simp only[c_cst,c_zero,if_true]at this
    exact hk this
  . exact hA0 h3
 by_cases hD:trim (derL W)=[]
 . 
  rw[hD,zwa]
  have z:d (ps W)=0:=by rw[<-ps_der,hD,ps_nil]
  have hc:ps W=cst (co W 0):=PS.ext λi=>by
   rw[c_cst]
   cases i with
   | zero=>rfl
   | succ i=>
     rw[if_neg (by omega)]
     have:=congrArg (λs:PS=>s.c i) z
     simp only[c_zero]at this
     have h3:((i+1:Nat):Rat)*co W (i+1)=0:=this
     rcases Rat.mul_eq_zero.1 h3 with h4 | h4
     . exact absurd h4 (by
        intro h5
        have:=Rat.natCast_inj.1 (show((i+1:Nat):Rat)=((0:Nat):Rat) from h5)
        omega)
     . exact h4
  refine⟨1,by decide,λx y _ _ _ _=>?_⟩
  have hv:=zar0 hc
  have hne:co W 0≠0:=λhh=>hW0 (by rw[hc,hh];rfl)
  rw[hv x,hv y,if_neg]
  . rw[zaff,zaff]
    simp only[List.map_cons,List.map_nil]
    rw[hv x,hv y]
    rfl
  . rintro⟨_,hh⟩
    rcases tri (co W 0) 0 with h1 | h1 | h1
    . have:=Rat.mul_pos (a:=-(co W 0)) (b:=-(co W 0)) (by grind) (by grind);grind
    . exact hne h1
    . have:=Rat.mul_pos h1 h1;grind
 . have ldW:(derL W).length=W.length-1:=by unfold derL derP;simp
   have lD:(trim (derL W)).length<=W.length-1:=by rw[<-ldW];exact trim_len
   have hst:=zao1 (n:=9) (p:=W) (q:=trim (derL W)) nf_trim hD (by omega)
   obtain⟨r,hr⟩:=zaqk (n:=9) (p:=W) (q:=trim (derL W)) nf_trim hD (by omega)
   rw[hr]at hst |-
   obtain⟨s1,t1,A1,B1,f1,f2,f3,f4,e1,e2,e3⟩:=StP.last hst
   obtain⟨e,he⟩:∃e,e=ps ((trim (derL W) :: r).getLast (by simp)):=⟨_,rfl⟩
   rw[<-he]at e1 e2 e3
   have fe:Fs e:=by rw[he];exact ps_fs _
   rw[ps_der]at e3
   have kk:cst (1/k)*cst k=1:=by rw[zafm,Rat.div_mul_cancel hk];rfl
   have hA2:A=e*(cst (1/k)*A1):=by
    have:A=cst (1/k)*ps W:=by rw[eW];exact psL.lin ([A,cst (1/k),cst k]:List PS) (.v 0) (.m (.v 1) (.m (.v 2) (.v 0))) [((.n (.v 0)),(.m (.v 1) (.v 2)),.i)] (by decide +kernel) ⟨kk,trivial⟩
    rw[this,e2];exact psL.lin ([cst (1/k),e,A1]:List PS) (.m (.v 0) (.m (.v 1) (.v 2))) (.m (.v 1) (.m (.v 0) (.v 2))) [] (by decide +kernel) trivial
   have dk:d (cst k*A)=cst k*d A:=by
    rw[d_mul]
    have:d (cst k)=0:=PS.ext λi=>by
     show der (cst k).c i=_
     unfold der
     rw[c_cst,if_neg (by omega),Rat.mul_zero,c_zero]
    rw[this];exact psL.lin ([A,cst k,A.d]:List PS) (.a (.m .o (.v 0)) (.m (.v 1) (.v 2))) (.m (.v 1) (.v 2)) [] (by decide +kernel) trivial
   have hdA:d A=e*(cst (1/k)*B1):=by
    have:d A=cst (1/k)*d (ps W):=by rw[eW,dk];exact psL.lin ([A.d,cst (1/k),cst k]:List PS) (.v 0) (.m (.v 1) (.m (.v 2) (.v 0))) [((.n (.v 0)),(.m (.v 1) (.v 2)),.i)] (by decide +kernel) ⟨kk,trivial⟩
    rw[this,e3];exact psL.lin ([cst (1/k),e,B1]:List PS) (.m (.v 0) (.m (.v 1) (.v 2))) (.m (.v 1) (.m (.v 0) (.v 2))) [] (by decide +kernel) trivial
   have hcst:=coprime hg0 fs ft fA fB fg fe ((Fs.cst (1/k)).mul f3) ((Fs.cst (1/k)).mul f4) eD one hA2 hdA hA0
   have ece:e=cst (e.c 0):=PS.ext λi=>by
    rw[c_cst]
    split
    . rename_i hi;rw[hi]
    . exact hcst i (by omega)
   have hne:e.c 0≠0:=λhh=>by
    rw[hh]at ece
    exact hW0 (by
                  rw[e2,ece];have:cst 0=(0:PS):=rfl
                  rw[this];exact psL.lin ([A1]:List PS) (.m .o (.v 0)) .o [] (by decide +kernel) trivial)
   have hE:=StP.toE hne hst (by rw[<-he];exact ece)
   exact StE.first R hE λx=>zasy W x
end Den
end

section
namespace Den
open Go Iv Pq
section
variable {h : Hp} {A B C c : Nat} {l m : Sl} {p q : List Rat} {K : Sl → Hp → Prop}
theorem zaqw{c k:Nat}(hc:1<=c):1<=cz c k:=by have:=zle (c:=c) (Nat.zero_le k);rw[za36]at this;omega
theorem zapl(hp:PL h A l p)(hq:PL h B m q)(h1:CD c (co p))(h2:CD c (co q))(hlt:(trim q).length<(trim p).length)(h8:(trim p).length<=8)(hlen:p.length<=800)(hlen2:q.length<=800)(hA:A<=100000000000)(hB:B<=100000000000)(hc:cz c 7<=20000000000)
 (H:∀y h',h.le h'->PL h' (cz c 7) y (gcdQ p q)->K y h'):callP (F.zdq l m) K h:=by
 refine za1 (λy h'=>PL h' (cz c 7) y (gcdQ p q)) (λK' hk=>?_) λy h' hl hy=>H y h' hl hy
 unfold F.zdq
 have hs0:=SzI.start h1 h2 hlt h8
 have c1:1<=cz c 7:=zaqw h1.pos
 refine zbv hp (by omega) hA λa h3 hl3 ha=>?_
 refine zbv (hq.le hl3) (by omega) hB λb h4 hl4 hb=>?_
 refine za9 (λst h'=>h.le h'/\∃x y n,PL h' (cz c 7) st.1 x/\PL h' (cz c 7) st.2.1 y/\SzI c x y/\y.length<n/\gcdS n x y=gcdQ p q) (λst=>st.2.1.len)
  ⟨Hp.le_trans hl3 hl4,_,_,_,(ha.le hl4).cd hs0.bx,hb.cd hs0.by',hs0,Nat.lt_succ_self _,rfl⟩ ?_
 rintro⟨s,t,_⟩ h5 ⟨hl5,x,y,n,hx,hy,hs,hn,he⟩
 simp only at hx hy
 have ly:=hy.len
 have hlt5:=hs.lt
 have hle5:=hs.le
 refine za3 (λh6=>?_) (λh6=>?_)
 . have h0:y≠[]:=λhh=>by rw[hh]at ly;simp only[ly]at h6;exact absurd h6 (by decide)
   have h0':trim y≠[]:=by rw[hs.ty];exact h0
   obtain⟨n,rfl⟩:∃n',n=n'+1:=⟨n-1,by omega⟩
   unfold gcdS at he
   rw[if_neg h0]at he
   have hs2:=hs.mon h0
   have hlt2:=hs2.lt
   refine zij hx hy (by omega) (by omega) ⟨c1,by omega⟩ h0' (C:=cz c 7) (λk j hk=>hs.rest h0 hk) ⟨Nat.le_refl _,by omega⟩ λu v h7 qs rs hl7 hu hv a1 a2 a3 a4 a5=>?_
   have hz:PL h7 (cz c 7) v (remL x y):=by rw[<-za3e a4 a5];exact hv
   refine zbv hz (by have:=zlz hs;omega) (by omega) λw h8 hl8 hw=>?_
   refine⟨⟨Hp.le_trans hl5 (Hp.le_trans hl7 hl8),y,_,n,(hy.le hl7).le hl8,hw.cd hs2.by',hs2,by omega,he⟩,?_⟩
   have lw:=hw.len
   rw[zb7,trim_nf zjs]at lw
   have:=zlz hs
   have:=List.length_pos_iff.2 h0
   simp only
   omega
 . have h0:y=[]:=List.eq_nil_of_length_eq_zero (by simp only at h6;omega)
   subst h0
   rw[zak4]at he
   rw[<-he]at hk
   exact hk _ _ hl5 hx
theorem zapt(hp:PL h A l p)(hq:PL h B m q)(h1:CD c (co p))(h2:CD c (co q))(hlt:(trim q).length<(trim p).length)(h8:(trim p).length<=8)(hlen:p.length<=800)(hlen2:q.length<=800)(hA:A<=100000000000)(hB:B<=100000000000)(hc:cz c 7<=20000000000)
 (H:∀y h',h.le h'->PL h' (cz c 7) y (gcdQ p q)->K y h'):callP (F.zrb l m) K h:=by
 refine za1 (λy h'=>PL h' (cz c 7) y (gcdQ p q)) (λK' hk=>?_) λy h' hl hy=>H y h' hl hy
 unfold F.zrb
 have hs0:=SzI.start h1 h2 hlt h8
 have c1:1<=cz c 7:=zaqw h1.pos
 refine ziz hp (by omega) hA λa h3 hl3 ha=>?_
 refine ziz (hq.le hl3) (by omega) hB λb h4 hl4 hb=>?_
 refine za9 (λst h'=>h.le h'/\∃x y n,PL h' (cz c 7) st.1 x/\PL h' (cz c 7) st.2.1 y/\SzI c x y/\y.length<n/\gcdS n x y=gcdQ p q) (λst=>st.2.1.len)
  ⟨Hp.le_trans hl3 hl4,_,_,_,(ha.le hl4).cd hs0.bx,hb.cd hs0.by',hs0,Nat.lt_succ_self _,rfl⟩ ?_
 rintro⟨s,t,_⟩ h5 ⟨hl5,x,y,n,hx,hy,hs,hn,he⟩
 simp only at hx hy
 have ly:=hy.len
 have hlt5:=hs.lt
 have hle5:=hs.le
 refine za3 (λh6=>?_) (λh6=>?_)
 . have h0:y≠[]:=λhh=>by rw[hh]at ly;simp only[ly]at h6;exact absurd h6 (by decide)
   have h0':trim y≠[]:=by rw[hs.ty];exact h0
   obtain⟨n,rfl⟩:∃n',n=n'+1:=⟨n-1,by omega⟩
   unfold gcdS at he
   rw[if_neg h0]at he
   have hs2:=hs.mon h0
   have hlt2:=hs2.lt
   refine zl1 hx hy (by omega) (by omega) ⟨c1,by omega⟩ h0' (C:=cz c 7) (λk j hk=>hs.rest h0 hk) ⟨Nat.le_refl _,c1,by omega⟩ λu v h7 qs rs hl7 hu hu2 hv hv2 a1 a2 a3 a4 a5=>?_
   have hz:PL h7 (cz c 7) v (remL x y):=by rw[<-za3e a4 a5,trim_nf hv2];exact hv
   refine ziz hz (by have:=zlz hs;omega) (by omega) λw h8 hl8 hw=>?_
   refine⟨⟨Hp.le_trans hl5 (Hp.le_trans hl7 hl8),y,_,n,(hy.le hl7).le hl8,hw.cd hs2.by',hs2,by omega,he⟩,?_⟩
   have lw:=hw.len
   rw[zb7,trim_nf zjs]at lw
   have:=zlz hs
   have:=List.length_pos_iff.2 h0
   simp only
   omega
 . have h0:y=[]:=List.eq_nil_of_length_eq_zero (by simp only at h6;omega)
   subst h0
   rw[zak4]at he
   rw[<-he]at hk
   exact hk _ _ hl5 hx
theorem zapk(hp:PL h A l p)(h8:p.length<=8)(h1:CD 28 (co p))(hA:A<=100000000000)
 (H:∀y h',h.le h'->PL h' 5400000 y (sqfL p)->(sqfL p).length<=8->nf (sqfL p)->CD 5400000 (co (sqfL p))->K y h'):callP (F.zbb l) K h:=by
 refine za1 (λy h'=>PL h' 5400000 y (sqfL p)/\(sqfL p).length<=8/\nf (sqfL p)/\CD 5400000 (co (sqfL p))) (λK' hk=>?_) λy h' hl ⟨a,b,c,d⟩=>H y h' hl a b c d
 unfold F.zbb
 have tl:(trim p).length<=8:=Nat.le_trans trim_len h8
 have lM:(monQ p).length<=8:=by rw[zb7];exact tl
 refine zbv hp (by omega) hA λr1 h3 hl3 hr1=>?_
 have cM:=zns h1
 have hr1:=hr1.cd cM
 have e1:=hr1.len
 refine zbi (λh4=>?_) (λh4=>?_)
 . have h0:trim p=[]:=List.eq_nil_of_length_eq_zero (by rw[<-zb7];omega)
   have es:sqfL p=[]:=by unfold sqfL;rw[if_pos h0]
   rw[es]at hk
   refine hk _ _ hl3 ⟨PL.nil,Nat.zero_le _,nf_nil,zalu (by decide)⟩
 . have h0:trim p≠[]:=λhh=>by
    have:(monQ p).length=0:=by rw[zb7,hh];rfl
    omega
   have es:sqfL p=monQ (quoL (monQ p) (gcdQ (monQ p) (trim (derL (monQ p))))):=by unfold sqfL;rw[if_neg h0]
   obtain⟨M,hM⟩:∃M,M=monQ p:=⟨_,rfl⟩
   have nM:nf M:=by rw[hM];exact zf4
   rw[<-hM]at es hr1 cM lM e1
   have l0:0<M.length:=by omega
   have cD:=za48 cM lM
   have ldM:(derL M).length=M.length-1:=by unfold derL derP;simp
   have lD:(trim (derL M)).length<=M.length-1:=by rw[<-ldM];exact trim_len
   obtain⟨Dd,hD⟩:∃D,D=trim (derL M):=⟨_,rfl⟩
   have nD:nf Dd:=by rw[hD];exact nf_trim
   refine zf5 hr1 (by omega) (by decide) λr2 h5 hr2=>?_
   have hl5:=hr2.hle
   have hr2:=hr2.pl.cd cD
   rw[<-hD]at es hr2 cD lD
   have hlt:(trim Dd).length<(trim M).length:=by rw[trim_nf nM,trim_nf nD];omega
   have tM:(trim M).length<=8:=by rw[trim_nf nM];exact lM
   have z7:cz 29 7=65609:=by decide
   refine zapl (c:=29) (hr1.le hl5) hr2 (cM.mono (by decide)) cD hlt tM (by omega) (by omega) (by decide) (by decide) (by decide) λr3 h6 hl6 hr3=>?_
   obtain⟨g1,g2,g3,g4⟩:=za7i (c:=29) (cM.mono (by decide)) cD hlt tM
   obtain⟨G,hG⟩:∃G,G=gcdQ M Dd:=⟨_,rfl⟩
   rw[<-hG]at es hr3 g1 g2 g3 g4
   have tG:=trim_nf g1
   have hG0:trim G≠[]:=by rw[tG];exact g2
   have htop:co G ((trim G).length-1)≠0:=by rw[tG];exact nf_top g1 g2
   have lG:=List.length_pos_iff.2 g2
   rw[z7]at hr3 g4
   have crest:∀k j,k<=(trim M).length+1-(trim G).length->BR 524908 (restK (co G) ((trim G).length-1) ((trim M).length+1-(trim G).length) (co M) k j):=λk j hk=>by
    have h9:k<=8:=by rw[tG]at hk;omega
    have:=Nat.mul_le_mul_right (65609+1) h9
    exact((cM.restK g4 htop).br j).mono (by omega)
   refine zij ((hr1.le hl5).le hl6) hr3 (by omega) (by omega) (by decide) hG0 (C:=524908) crest (by decide) λu v h7 qs rs hl7 hu hv a1 a2 a3 a4 a5=>?_
   have hu2:PL h7 590517 u (quoL M G):=by rw[<-zwv hG0 ⟨a3,a4⟩];exact hu
   have lq:(quoL M G).length<=8:=by rw[<-zwv hG0 ⟨a3,a4⟩];exact Nat.le_trans (zaoe hG0 ⟨a3,a4⟩) lM
   have cq:CD 5400000 (co (quoL M G)):=(zadz hu2.bound (by decide) lq).mono (by decide)
   refine zbv hu2 (by omega) (by decide) λw h8 hl8 hw=>?_
   have cw:=zns cq
   have hw:=hw.cd cw
   rw[<-es]at hw cw
   refine hk _ _ (Hp.le_trans hl3 (Hp.le_trans hl5 (Hp.le_trans hl6 (Hp.le_trans hl7 hl8)))) ⟨hw,?_,?_,cw⟩
   . rw[es,zb7];exact Nat.le_trans trim_len lq
   . rw[es];exact zf4
theorem zapp(hp:PL h A l p)(h8:p.length<=8)(h1:CD 28 (co p))(hA:A<=100000000000)
 (H:∀y h',h.le h'->PL h' 5400000 y (sqfL p)->(sqfL p).length<=8->nf (sqfL p)->CD 5400000 (co (sqfL p))->K y h'):callP (F.zfe l) K h:=by
 refine za1 (λy h'=>PL h' 5400000 y (sqfL p)/\(sqfL p).length<=8/\nf (sqfL p)/\CD 5400000 (co (sqfL p))) (λK' hk=>?_) λy h' hl ⟨a,b,c,d⟩=>H y h' hl a b c d
 unfold F.zfe
 have tl:(trim p).length<=8:=Nat.le_trans trim_len h8
 have lM:(monQ p).length<=8:=by rw[zb7];exact tl
 refine ziz hp (by omega) hA λr1 h3 hl3 hr1=>?_
 have cM:=zns h1
 have hr1:=hr1.cd cM
 have e1:=hr1.len
 refine zbi (λh4=>?_) (λh4=>?_)
 . have h0:trim p=[]:=List.eq_nil_of_length_eq_zero (by rw[<-zb7];omega)
   have es:sqfL p=[]:=by unfold sqfL;rw[if_pos h0]
   rw[es]at hk
   refine hk _ _ hl3 ⟨(by rw[List.eq_nil_of_length_eq_zero (show(monQ p).length=0 by omega)]at hr1;exact hr1.mono (by decide)),Nat.zero_le _,nf_nil,zalu (by decide)⟩
 . have h0:trim p≠[]:=λhh=>by
    have:(monQ p).length=0:=by rw[zb7,hh];rfl
    omega
   have es:sqfL p=monQ (quoL (monQ p) (gcdQ (monQ p) (trim (derL (monQ p))))):=by unfold sqfL;rw[if_neg h0]
   obtain⟨M,hM⟩:∃M,M=monQ p:=⟨_,rfl⟩
   have nM:nf M:=by rw[hM];exact zf4
   rw[<-hM]at es hr1 cM lM e1
   have l0:0<M.length:=by omega
   have cD:=za48 cM lM
   have ldM:(derL M).length=M.length-1:=by unfold derL derP;simp
   have lD:(trim (derL M)).length<=M.length-1:=by rw[<-ldM];exact trim_len
   obtain⟨Dd,hD⟩:∃D,D=trim (derL M):=⟨_,rfl⟩
   have nD:nf Dd:=by rw[hD];exact nf_trim
   refine zne hr1 (by omega) (by decide) λr2 h5 hr2=>?_
   have hl5:=hr2.hle
   have hr2:=hr2.pl.cd cD
   rw[<-hD]at es hr2 cD lD
   have hlt:(trim Dd).length<(trim M).length:=by rw[trim_nf nM,trim_nf nD];omega
   have tM:(trim M).length<=8:=by rw[trim_nf nM];exact lM
   have z7:cz 29 7=65609:=by decide
   refine zapt (c:=29) (hr1.le hl5) hr2 (cM.mono (by decide)) cD hlt tM (by omega) (by omega) (by decide) (by decide) (by decide) λr3 h6 hl6 hr3=>?_
   obtain⟨g1,g2,g3,g4⟩:=za7i (c:=29) (cM.mono (by decide)) cD hlt tM
   obtain⟨G,hG⟩:∃G,G=gcdQ M Dd:=⟨_,rfl⟩
   rw[<-hG]at es hr3 g1 g2 g3 g4
   have tG:=trim_nf g1
   have hG0:trim G≠[]:=by rw[tG];exact g2
   have htop:co G ((trim G).length-1)≠0:=by rw[tG];exact nf_top g1 g2
   have lG:=List.length_pos_iff.2 g2
   rw[z7]at hr3 g4
   have crest:∀k j,k<=(trim M).length+1-(trim G).length->BR 524908 (restK (co G) ((trim G).length-1) ((trim M).length+1-(trim G).length) (co M) k j):=λk j hk=>by
    have h9:k<=8:=by rw[tG]at hk;omega
    have:=Nat.mul_le_mul_right (65609+1) h9
    exact((cM.restK g4 htop).br j).mono (by omega)
   refine zl1 ((hr1.le hl5).le hl6) hr3 (by omega) (by omega) (by decide) hG0 (C:=524908) crest (by decide) λu v h7 qs rs hl7 hu hu2 hv hv2 a1 a2 a3 a4 a5=>?_
   have hu2:PL h7 590517 u (quoL M G):=by rw[<-zwv hG0 ⟨a3,a4⟩,trim_nf hu2];exact hu
   have lq:(quoL M G).length<=8:=by rw[<-zwv hG0 ⟨a3,a4⟩];exact Nat.le_trans (zaoe hG0 ⟨a3,a4⟩) lM
   have cq:CD 5400000 (co (quoL M G)):=(zadz hu2.bound (by decide) lq).mono (by decide)
   refine ziz hu2 (by omega) (by decide) λw h8 hl8 hw=>?_
   have cw:=zns cq
   have hw:=hw.cd cw
   rw[<-es]at hw cw
   refine hk _ _ (Hp.le_trans hl3 (Hp.le_trans hl5 (Hp.le_trans hl6 (Hp.le_trans hl7 hl8)))) ⟨hw,?_,?_,cw⟩
   . rw[es,zb7];exact Nat.le_trans trim_len lq
   . rw[es];exact zf4
end
end Den
end

section
namespace Den
open Go Iv Pq
def QD(D h:Hp)(B:Nat)(l:Sl)(ps:List (List Rat)):Prop:=∃ss:List Sl,Own D h 1 l (ss.map slc)/\ss.length=ps.length/\∀k (h1:k<ss.length) (h2:k<ps.length),PL D B ss[k] ps[k]
section
variable {D h : Hp} {A B C c : Nat} {l m : Sl} {p q : List Rat} {ps : List (List Rat)} {K : Sl → Hp → Prop}
theorem QD.qql(hq:QD D h B l ps):QQL h B l ps:=by
 obtain⟨ss,h1,h2,h3⟩:=hq
 exact⟨ss,h1.rd,h2,λk g1 g2=>(h3 k g1 g2).le h1.1⟩
theorem QD.dle(hq:QD D h B l ps):D.le h:=by
 obtain⟨ss,h1,h2,h3⟩:=hq
 exact h1.1
theorem QD.call{α:Type}{G:(α->Hp->Prop)->Hp->Prop}{K1 K:α->Hp->Prop}(hq:QD D h B l ps)(H:callP G K1 D)
 (k:∀v D' h',D.le D'->QD D' h' B l ps->K1 v D'->K v h'):callP G K h:=by
 obtain⟨ss,h1,h2,h3⟩:=hq
 exact h1.call H λv D' h' g1 g2 g3=>k v D' h' g1 ⟨ss,g2,h2,λj j1 j2=>(h3 j j1 j2).le g1⟩ g3
theorem QD.app{s:Sl}(hq:QD D h B l ps)(hx:PL D B s p)(hlen:ps.length<=1000)(H:∀y h',QD D h' B y (ps++[p])->K y h'):appP 1 24 [.slice nilS.a nilS.len nilS.cap] l 1 [.slice s.a s.len s.cap] K h:=by
 obtain⟨ss,h1,h2,h3⟩:=hq
 have hl:=h1.2.1
 simp at hl
 refine znt h1 (n:=1) (new:=[slc s]) rfl rfl rfl (by omega) (by omega) λy h' hy _=>H y h' ⟨ss++[s],?_,by simp[h2],λk g1 g2=>?_⟩
 . rw[List.map_append];exact hy
 . rcases Nat.lt_or_ge k ss.length with g | g
   . rw[List.getElem_append_left g,List.getElem_append_left (by omega)];exact h3 k g (by omega)
   . have e1:k=ss.length:=by simp at g1;omega
     subst e1
     have a1:(ss++[s])[ss.length]'g1=s:=by simp
     have a2:(ps++[p])[ss.length]'g2=p:=by simp[h2]
     rw[a1,a2];exact hx
theorem z57:cz 5400001 7=11809804373:=by decide
theorem SzI.sqf{W:List Rat}(lW:W.length<=8)(nW:nf W)(cW:CD 5400000 (co W))(h0:trim (derL W)≠[]):SzI 5400001 W (trim (derL W)):=by
 have ldW:(derL W).length=W.length-1:=by unfold derL derP;simp
 have lD:(trim (derL W)).length<=W.length-1:=by rw[<-ldW];exact trim_len
 have:=List.length_pos_iff.2 h0
 have hz:5400001<=cz 5400001 (8-W.length):=by have:=zle (c:=5400001) (Nat.zero_le (8-W.length));rwa [za36]at this
 exact⟨by omega,lW,nW,nf_trim,cW.mono (by omega),(za48 cW lW).mono hz⟩
theorem zakl(hp:PL h A l p)(h8:p.length<=8)(h1:CD 28 (co p))(hA:A<=100000000000)
 (H:∀y h' ps,h.le h'->QQL h' 11809804373 y ps->ps.length<=10->(∀p∈ps,p.length<=8/\CD 11809804373 (co p))->(∀u,chN ps u=chN (chainL p) u)->K y h'):callP (F.zdz l) K h:=by
 refine za1 (λy h'=>∃ps,QQL h' 11809804373 y ps/\ps.length<=10/\(∀p∈ps,p.length<=8/\CD 11809804373 (co p))/\(∀u,chN ps u=chN (chainL p) u)) (λK' hk=>?_) λy h' hl ⟨ps,a,b,c,d⟩=>H y h' ps hl a b c d
 unfold F.zdz
 refine zo1 hp (by omega) (by omega) λh2 hl2=>?_
 refine za3 (λh3=>?_) (λh3=>?_)
 . have e:chainL p=[]:=by unfold chainL;rw[if_pos (by omega)]
   rw[e]at hk
   exact hk _ _ hl2 ⟨[],⟨[],Rd.nil,rfl,λk g1=>by simp at g1⟩,by decide,λp hp=>by simp at hp,λu=>rfl⟩
 . have e:chainL p=sqfL p :: chn 9 (sqfL p) (trim (derL (sqfL p))):=by unfold chainL;rw[if_neg (by omega)]
   refine zapk (hp.le hl2) h8 h1 hA λr2 h4 hl4 hr2 lW nW cW=>?_
   obtain⟨W,hW⟩:∃W,W=sqfL p:=⟨_,rfl⟩
   rw[<-hW]at e hr2 lW nW cW
   have ldW:(derL W).length=W.length-1:=by unfold derL derP;simp
   have lD:(trim (derL W)).length<=W.length-1:=by rw[<-ldW];exact trim_len
   have cD:=za48 cW lW
   have hs0:=SzI.sqf lW nW cW
   refine zf5 hr2 (by omega) (by decide) λr3 h5 hr3=>?_
   have hl5:=hr3.hle
   have hr3:=hr3.pl.cd cD
   obtain⟨E,hE⟩:∃E,E=trim (derL W):=⟨_,rfl⟩
   rw[<-hE]at e hr3 cD lD hs0
   have hr2:=(hr2.le hl5).mono (show 5400000<=11809804373 by decide)
   have hr3:=hr3.mono (show 5400000+1<=11809804373 by decide)
   refine zf3 (n:=2) (size:=1) rfl λb4 h6 hb4 ho=>?_
   have hq0:QD h5 h6 11809804373 ⟨some ⟨b4,0,none⟩,2,2⟩ [W,E]:=⟨[r2,r3],ho,rfl,λk g1 g2=>by
    match k,g1 with
    | 0,_=>exact hr2
    | 1,_=>exact hr3⟩
   have facts0:∀p∈[W,E],p.length<=8/\CD 11809804373 (co p):=λp hp=>by
    rcases List.mem_cons.1 hp with rfl | hp
    . exact⟨lW,cW.mono (by decide)⟩
    . rw[List.mem_singleton.1 hp];exact⟨by omega,cD.mono (by decide)⟩
   refine za9 (λst h'=>∃Dh,h5.le Dh/\∃x y ps,PL Dh 11809804373 st.1 x/\PL Dh 11809804373 st.2.1 y/\QD Dh h' 11809804373 st.2.2.1 ps/\(∀p∈ps,p.length<=8/\CD 11809804373 (co p))/\ps.length+y.length<=10/\x.length<=8/\y.length<=8
    /\ ((y=[]/\∀u,chN ps u=chN (chainL p) u)\/(y≠[]/\SzI 5400001 x y/\∃n,y.length<=n/\ps++chn n y (negT (remL x y))=chainL p))) (λst=>st.2.1.len)
    ⟨h5,Hp.le_refl _,W,E,[W,E],hr2,hr3,hq0,facts0,by simp;omega,lW,by omega,?_⟩ ?_
   . by_cases h0:E=[]
     . refine .inl ⟨h0,λu=>?_⟩
       rw[e,h0,zwa]
       exact zasv (ps:=[W])
     . refine .inr ⟨h0,hs0 h0,8,by omega,?_⟩
       rw[e]
       show _=W :: (if E=[]then []else E :: chn 8 E (negT (remL W E)))
       rw[if_neg h0];rfl
   . rintro⟨s,t,out,_⟩ h7 ⟨Dh,hD,x,y,ps,hx,hy,hq,facts,hlen,l8x,l8,hcase⟩
     simp only at hx hy hq
     have lp:ps.length<=10:=by omega
     have hhh:h.le h7:=Hp.le_trans hl2 (Hp.le_trans hl4 (Hp.le_trans hl5 (Hp.le_trans hD hq.dle)))
     refine hq.call (K1:=λr D'=>(y=[]/\r.2.2≠0)\/(y≠[]/\r.2.2=0/\PL D' 11809804373 r.2.1 (remL x y))) (zq5 hx hy (by omega) (by omega) (by decide) (C:=11809804373) (λk j hq0 hk=>?_) (by decide) (λhh D' _=>?_) (λhq0 u v D' qs rs hl7 hu hv a1 a2 a3 a4 a5=>?_)) λr D1 h8 hl8 hq8 hr=>?_
     . rcases hcase with ⟨g0,_⟩ | ⟨g0,g1,_⟩
       . exact absurd (by rw[g0];rfl) hq0
       . have:=g1.rest g0 (j:=j) hk;rwa [z57]at this
     . rcases hcase with ⟨g0,_⟩ | ⟨g0,g1,_⟩
       . exact .inl ⟨g0,by simp⟩
       . exact absurd (by rw[<-g1.ty];exact hh) g0
     . rcases hcase with ⟨g0,_⟩ | ⟨g0,g1,_⟩
       . exact absurd (by rw[g0];rfl) hq0
       . refine .inr ⟨g0,rfl,?_⟩
         rw[<-za3e a4 a5];exact hv
     . have hhh8:h.le h8:=Hp.le_trans hl2 (Hp.le_trans hl4 (Hp.le_trans hl5 (Hp.le_trans hD (Hp.le_trans hl8 hq8.dle))))
       refine za8 (λ_ h'=>h'=h8/\y≠[]/\remL x y≠[]/\PL D1 11809804373 r.2.1 (remL x y)) ?_ ?_
       . rintro _ h9 ⟨rfl,g0,gr,hz⟩
         rcases hcase with ⟨g0',_⟩ | ⟨_,g1,n,hn,he⟩
         . exact absurd g0' g0
         . have hs2:=g1.neg g0
           have hlt2:=hs2.lt
           obtain⟨n,rfl⟩:∃n',n=n'+1:=⟨n-1,by have:=List.length_pos_iff.2 g0;omega⟩
           refine hq8.call (K1:=λv D'=>NR D' v (((-1:Int):Rat))) (zbd (by decide) (by decide) λv D' _ hv=>hv) λv D2 h10 hl10 hq10 hv=>?_
           refine hq10.call (K1:=λu D'=>PL D' 11809804373 u (negT (remL x y))) (zq4 (hz.le hl10) hv BR_m1 (by have:=zlz g1;omega) (by decide) (by decide) λu D' hu=>(hu.pl:PL D' _ u (negT (remL x y))).cd (by have:=hs2.by';rwa [z57]at this)) λu D3 h11 hl11 hq11 hu=>?_
           refine hq11.app hu (by omega) λw h12 hq12=>⟨⟨D3,Hp.le_trans hD (Hp.le_trans hl8 (Hp.le_trans hl10 hl11)),y,negT (remL x y),ps++[negT (remL x y)],((hy.le hl8).le hl10).le hl11,hu,hq12,?_,?_,l8,by omega,.inr ⟨zafv zjs gr,hs2,n,by omega,?_⟩⟩,?_⟩
           . intro p hp
             rcases List.mem_append.1 hp with hp | hp
             . exact facts p hp
             . rw[List.mem_singleton.1 hp];exact⟨by omega,by have:=hs2.by';rwa [z57]at this⟩
           . rw[List.length_append,List.length_singleton];omega
           . rw[<-he]
             show _=ps++(if negT (remL x y)=[]then []else negT (remL x y) :: chn n (negT (remL x y)) (negT (remL y (negT (remL x y)))))
             rw[if_neg (zafv zjs gr),List.append_assoc];rfl
           . simp only
             rw[hu.len,hy.len];omega
       . rcases hr with ⟨g0,gr⟩ | ⟨g0,gr,hz⟩
         . rcases hcase with ⟨_,g1⟩ | ⟨g1,_⟩
           . exact zac (by simpa using gr) (hk _ _ hhh8 ⟨ps,hq8.qql,lp,facts,g1⟩)
           . exact absurd g0 g1
         . rw[gr]
           refine zab rfl (zbi (λh9=>?_) (λh9=>⟨rfl,g0,?_,hz⟩))
           . have lz:=hz.len
             have e0:remL x y=[]:=List.eq_nil_of_length_eq_zero (by omega)
             rcases hcase with ⟨g0',_⟩ | ⟨_,g1,n,hn,he⟩
             . exact absurd g0' g0
             . rw[e0,zakh,zwa,List.append_nil]at he
               rw[<-he]at hk
               exact hk _ _ hhh8 ⟨ps,hq8.qql,lp,facts,λu=>rfl⟩
           . intro e0
             have lz:=hz.len
             rw[e0]at lz
             exact h9 (by rw[lz];rfl)
theorem zaks(hp:PL h A l p)(h8:p.length<=8)(h1:CD 28 (co p))(hA:A<=100000000000)
 (H:∀y h' ps,h.le h'->QQL h' 11809804373 y ps->ps.length<=10->(∀p∈ps,p.length<=8/\CD 11809804373 (co p))->(∀u,chN ps u=chN (chainL p) u)->K y h'):callP (F.zlw l) K h:=by
 refine za1 (λy h'=>∃ps,QQL h' 11809804373 y ps/\ps.length<=10/\(∀p∈ps,p.length<=8/\CD 11809804373 (co p))/\(∀u,chN ps u=chN (chainL p) u)) (λK' hk=>?_) λy h' hl ⟨ps,a,b,c,d⟩=>H y h' ps hl a b c d
 unfold F.zlw
 refine zag1 hp (by omega) (by omega) λh2 hl2=>?_
 refine za3 (λh3=>?_) (λh3=>?_)
 . have e:chainL p=[]:=by unfold chainL;rw[if_pos (by omega)]
   rw[e]at hk
   exact hk _ _ hl2 ⟨[],⟨[],Rd.nil,rfl,λk g1=>by simp at g1⟩,by decide,λp hp=>by simp at hp,λu=>rfl⟩
 . have e:chainL p=sqfL p :: chn 9 (sqfL p) (trim (derL (sqfL p))):=by unfold chainL;rw[if_neg (by omega)]
   refine zapp (hp.le hl2) h8 h1 hA λr2 h4 hl4 hr2 lW nW cW=>?_
   obtain⟨W,hW⟩:∃W,W=sqfL p:=⟨_,rfl⟩
   rw[<-hW]at e hr2 lW nW cW
   have ldW:(derL W).length=W.length-1:=by unfold derL derP;simp
   have lD:(trim (derL W)).length<=W.length-1:=by rw[<-ldW];exact trim_len
   have cD:=za48 cW lW
   have hs0:=SzI.sqf lW nW cW
   have hr2:=hr2.mono (show 5400000<=11809804373 by decide)
   refine zf3 (n:=1) (size:=1) rfl λb4 h5 hb4 ho=>?_
   have hq0:QD h4 h5 11809804373 ⟨some ⟨b4,0,none⟩,1,1⟩ [W]:=⟨[r2],ho,rfl,λk g1 g2=>by
    match k,g1 with
    | 0,_=>exact hr2⟩
   have facts0:∀p∈[W],p.length<=8/\CD 11809804373 (co p):=λp hp=>by
    rw[List.mem_singleton.1 hp]
    exact⟨lW,cW.mono (by decide)⟩
   refine hq0.call (K1:=λr D'=>PL D' 11809804373 r (trim (derL W))) (zne hr2 (by omega) (by decide) λr D' hr=>(hr.pl.cd cD).mono (by decide)) λr3 D1 h6 hl6 hq6 hr3=>?_
   obtain⟨E,hE⟩:∃E,E=trim (derL W):=⟨_,rfl⟩
   rw[<-hE]at e hr3 cD lD hs0
   refine za9 (λst h'=>∃Dh,h4.le Dh/\∃x y ps n,PL Dh 11809804373 st.1 x/\PL Dh 11809804373 st.2.2.1 y/\QD Dh h' 11809804373 st.2.1 ps/\(∀p∈ps,p.length<=8/\CD 11809804373 (co p))/\ps.length+y.length<=10/\x.length<=8/\y.length<=8
    /\ (y≠[]->SzI 5400001 x y)/\y.length<n/\ps++chn n x y=chainL p) (λst=>st.2.2.1.len)
    ⟨D1,hl6,W,E,[W],9,hr2.le hl6,hr3,hq6,facts0,by simp;omega,lW,by omega,hs0,by omega,by rw[e];rfl⟩ ?_
   rintro⟨s,out,t,_⟩ h7 ⟨Dh,hD,x,y,ps,n,hx,hy,hq,facts,hlen,l8x,l8,hs,hn,he⟩
   simp only at hx hy hq
   have ly:=hy.len
   have hhh:h.le h7:=Hp.le_trans hl2 (Hp.le_trans hl4 (Hp.le_trans hD hq.dle))
   refine za3 (λh9=>?_) (λh9=>?_)
   . have h0:y≠[]:=λhh=>by rw[hh]at ly;simp only[ly]at h9;exact absurd h9 (by decide)
     have hs:=hs h0
     have h0':trim y≠[]:=by rw[hs.ty];exact h0
     have hs2:=hs.neg h0
     have hlt2:=hs2.lt
     obtain⟨n,rfl⟩:∃n',n=n'+1:=⟨n-1,by omega⟩
     have cy:=hs.by'
     have c2:=hs2.by'
     rw[z57]at cy c2
     refine hq.app hy (by omega) λw h10 hq10=>?_
     refine hq10.call (K1:=λr D'=>PL D' 11809804373 r.2 (remL x y)) (zl1 hx hy (by omega) (by omega) (by decide) h0' (C:=11809804373) (λk j hk=>by have:=hs.rest h0 (j:=j) hk;rwa [z57]at this) (by decide) λu v D' qs rs hl7 hu hu2 hv hv2 a1 a2 a3 a4 a5=>by rw[<-za3e a4 a5,trim_nf hv2];exact hv) λr D2 h11 hl11 hq11 hz=>?_
     refine hq11.call (K1:=λv D'=>NR D' v (((-1:Int):Rat))) (zbs (by decide) (by decide) λv D' _ hv=>hv) λv D3 h12 hl12 hq12 hv=>?_
     refine hq12.call (K1:=λu D'=>PL D' 11809804373 u (negT (remL x y))) (zlu (hz.le hl12) hv BR_m1 (by have:=zlz hs;omega) (by decide) (by decide) λu D' hu=>(hu.pl:PL D' _ u (negT (remL x y))).cd c2) λu D4 h13 hl13 hq13 hu=>?_
     refine⟨⟨D4,Hp.le_trans hD (Hp.le_trans hl11 (Hp.le_trans hl12 hl13)),y,negT (remL x y),ps++[y],n,((hy.le hl11).le hl12).le hl13,hu,hq13,?_,?_,l8,by omega,λ_=>hs2,by omega,?_⟩,?_⟩
     . intro p hp
       rcases List.mem_append.1 hp with hp | hp
       . exact facts p hp
       . rw[List.mem_singleton.1 hp];exact⟨l8,cy⟩
     . rw[List.length_append,List.length_singleton];omega
     . rw[<-he]
       show _=ps++(if y=[]then []else y :: chn n y (negT (remL x y)))
       rw[if_neg h0,List.append_assoc];rfl
     . simp only
       rw[hu.len,hy.len];omega
   . have h0:y=[]:=List.eq_nil_of_length_eq_zero (by simp only at h9;omega)
     rw[h0,zwa,List.append_nil]at he
     rw[<-he]at hk
     exact hk _ _ hhh ⟨ps,hq.qql,by omega,facts,λu=>rfl⟩
end
end Den
end

section
namespace Den
open Go Iv Pq
noncomputable def cntQ(p:List Rat)(u v:Rat):Int:=if cmpQ u v>=0 then 0 else (chN (chainL p) u:Int)-(chN (chainL p) v:Int)
theorem zao2{a b:Rat}:cmpQ a b>=0↔¬a<b:=by rw[<-zwc];omega
theorem zaqm{p:List Rat}{u:Rat}:cntQ p u u=0:=by
 unfold cntQ;rw[if_pos (zao2.2 Rat.lt_irrefl)]
theorem zaql{p:List Rat}{u v:Rat}(h:u<=v):cntQ p u v=(chN (chainL p) u:Int)-(chN (chainL p) v:Int):=by
 unfold cntQ
 split
 . rename_i h1
   have:u=v:=Rat.le_antisymm h (Rat.not_lt.1 (zao2.1 h1))
   rw[this];omega
 . rfl
theorem znx{B i:Nat}{p:List Rat}{u:Rat}(bu:BR B u)(hp:p.length<=8/\CD 11809804373 (co p))(hB:B<=1000):BR 11809820000 (ev (p.drop i) u):=by
 have hc:CD 11809804373 (co (p.drop i)):=hp.2.shift.congr λj=>by
  show co (p.drop i) j=co p (i+j)
  unfold co
  rw[List.getD_eq_getElem?_getD,List.getElem?_drop,<-List.getD_eq_getElem?_getD]
 have hl:(p.drop i).length<=8:=by rw[List.length_drop];omega
 refine(hc.evb bu).mono ?_
 have:=Nat.mul_le_mul (show(p.drop i).length+1<=9 by omega) (show B+1<=1001 by omega)
 omega
section
variable {h : Hp} {A B C : Nat} {l m : Sl} {p q : List Rat} {K : Sl → Hp → Prop} {Ki : Int → Hp → Prop} {Kb : Bool → Hp → Prop} {x y : TRat} {u v : Rat}
theorem zakt(hp:PL h A l p)(h8:p.length<=8)(h1:CD 28 (co p))(hA:A<=100000000000)(hx:NR h x u)(hy:NR h y v)(bu:BR B u)(bv:BR B v)(hB:B<=1000)(H:∀h',h.le h'->Ki (cntQ p u v) h'):callP (F.zlx l x y) Ki h:=by
 refine za1 (λr h'=>r=cntQ p u v) (λK' hk=>?_) λr h' hl hr=>by subst hr;exact H h' hl
 unfold F.zlx
 refine zl2 hx hy bu bv (by omega) (by omega) λh2 hl2=>?_
 refine za3 (λh3=>hk _ _ hl2 (by unfold cntQ;rw[if_pos h3])) (λh3=>?_)
 refine zaks (hp.le hl2) h8 h1 hA λc h4 ps hl4 hc hn hf he=>?_
 have hl24:=Hp.le_trans hl2 hl4
 have e1:=zk0 (ps:=ps) (c:=u)
 have e2:=zk0 (ps:=ps) (c:=v)
 refine zso hc (hx.le hl24) bu (by omega) (by decide) (by omega) (λp hp=>by have:=(hf p hp).1;omega) (λp hp i=>znx bu (hf p hp) hB) (by decide) λh5 hl5=>?_
 refine zso (hc.le hl5) ((hy.le hl24).le hl5) bv (by omega) (by decide) (by omega) (λp hp=>by have:=(hf p hp).1;omega) (λp hp i=>znx bv (hf p hp) hB) (by decide) λh6 hl6=>hk _ _ (Hp.le_trans hl24 (Hp.le_trans hl5 hl6)) ?_
 unfold cntQ
 rw[if_neg h3,<-he,<-he]
 unfold chN
 exact w64 (by omega)
theorem zaqu(hp:PL h B l p)(hlen:p.length<=1000000000000)(H:∀y h',h.le h'->PL h' B y p->K y h'):callP (F.zwm l) K h:=by
 refine za1 (λy h'=>PL h' B y p) (λK' hk=>?_) λy h' hl hy=>H y h' hl hy
 unfold F.zwm
 intro b el hb
 obtain⟨xs,g1,g2,g3⟩:=hp
 refine⟨xs.flatMap qc,zg7 (Hp.le_ins hb) (by rw[g1.1];exact g1.2),?_⟩
 refine za5m hb (by rw[RdQ.len g1]) (by rw[g2.1];exact hlen) λy h' hy=>?_
 exact hk _ _ hy.1 ⟨xs,hy.rd,g2.le hy.1,hy.2.2.1⟩
end
end Den
end

section
namespace Den
open Go Iv Pq
theorem NI.back{h h':Hp}{a:TInt}{n:Int}(ha:AI h a)(hl:h.le h')(hn:NI h' a n):NI h a n:=by
 obtain⟨l,h1,_⟩:=ha
 refine⟨?_,hn.2⟩
 rw[<-RdW.uniq (h1.le hl) hn.1]
 exact h1
theorem NR.back{h h':Hp}{x:TRat}{q:Rat}(ha:AR h x)(hl:h.le h')(hn:NR h' x q):NR h x q:=⟨hn.1.back ha.1 hl,hn.2.back ha.2 hl⟩
theorem NR.inj{h:Hp}{x:TRat}{p q:Rat}(h1:NR h x p)(h2:NR h x q):p=q:=by
 have e1:=NI.inj h1.1 h2.1
 have e2:=NI.inj h1.2 h2.2
 exact Rat.ext e1 (by exact_mod_cast e2)
def oneQ(p:List Rat)(u v:Rat):Prop:=u<v/\(chN (chainL p) u:Int)-(chN (chainL p) v:Int)=1
theorem zarj{p:List Rat}{u v:Rat}:oneQ p u v↔u<=v/\cntQ p u v=1:=by
 unfold oneQ
 constructor
 . rintro⟨h1,h2⟩
   exact⟨Rat.le_of_lt h1,by rw[zaql (Rat.le_of_lt h1)];exact h2⟩
 . rintro⟨h1,h2⟩
   rcases rle h1 with h3 | h3
   . exact⟨h3,by rw[<-zaql h1];exact h2⟩
   . rw[h3,zaqm]at h2;exact absurd h2 (by decide)
section
variable {h : Hp} {A B : Nat} {l : Sl} {p : List Rat} {ps : List (List Rat)} {Kb : Bool → Hp → Prop} {Ki : Int → Hp → Prop} {i : TInterval} {x y : TRat} {u v : Rat}
theorem zsl(hc:QQL h 11809804373 l ps)(hn:ps.length<=10)(hf:∀p∈ps,p.length<=8/\CD 11809804373 (co p))(hx:NR h x u)(hy:NR h y v)(bu:BR B u)(bv:BR B v)(hB:B<=1000)(H:∀h',h.le h'->Ki ((chN ps u:Int)-(chN ps v:Int)) h'):callP (F.zdf l x y) Ki h:=by
 refine za1 (λr h'=>r=(chN ps u:Int)-(chN ps v:Int)) (λK' hk=>?_) λr h' hl hr=>by subst hr;exact H h' hl
 unfold F.zdf
 have e1:=zk0 (ps:=ps) (c:=u)
 have e2:=zk0 (ps:=ps) (c:=v)
 refine zmk hc hx bu (by omega) (by decide) (by omega) (λp hp=>by have:=(hf p hp).1;omega) (λp hp i=>znx bu (hf p hp) hB) (by decide) λh5 hl5=>?_
 refine zmk (hc.le hl5) (hy.le hl5) bv (by omega) (by decide) (by omega) (λp hp=>by have:=(hf p hp).1;omega) (λp hp i=>znx bv (hf p hp) hB) (by decide) λh6 hl6=>hk _ _ (Hp.le_trans hl5 hl6) ?_
 unfold chN
 exact w64 (by omega)
theorem zafy(hc:QQL h 11809804373 l ps)(hn:ps.length<=10)(hf:∀p∈ps,p.length<=8/\CD 11809804373 (co p))(hi:AV h i)(hl:i.low.num.mag.len<=4/\i.low.den.mag.len<=4/\i.high.num.mag.len<=4/\i.high.den.mag.len<=4)
 (H1:∀u v b h',NR h i.low u->NR h i.high v->BR 4 u->BR 4 v->h.le h'->(b=true↔(u<v/\(chN ps u:Int)-(chN ps v:Int)=1))->Kb b h') (H0:(¬∃u v,NR h i.low u/\NR h i.high v)->∀h',h.le h'->Kb false h'):callP (F.zhd l i) Kb h:=by
 obtain⟨l1,l2,l3,l4⟩:=hl
 by_cases hx:∃u v,NR h i.low u/\NR h i.high v
 . obtain⟨u,v,hu,hv⟩:=hx
   have bu:BR 4 u:=NR_BR hu (by omega) (by omega)
   have bv:BR 4 v:=NR_BR hv (by omega) (by omega)
   refine za1 (λb h'=>b=true↔(u<v/\(chN ps u:Int)-(chN ps v:Int)=1)) (λK' hk=>?_) λb h' hl hb=>H1 u v b h' hu hv bu bv hl hb
   unfold F.zhd
   refine zgb hi.1 (by omega) (by omega) (λ_ h1 hl1 _=>zac rfl ?_) (λ_ _ hno=>absurd ⟨_,hu⟩ hno)
   refine zgb (hi.2.le hl1) (by omega) (by omega) (λ_ h2 hl2 _=>zac rfl ?_) (λ_ _ hno=>absurd ⟨_,hv.le hl1⟩ hno)
   have k2:=Hp.le_trans hl1 hl2
   refine za1 (λb h'=>b=decide (u<=v)) (λK2 hk2=>?_) λb h3 hl3 hb=>?_
   . unfold F.zku
     refine zgb (hi.1.le k2) (by omega) (by omega) (λ_ h3 hl3 _=>zac rfl ?_) (λ_ _ hno=>absurd ⟨_,hu.le k2⟩ hno)
     have k3:=Hp.le_trans k2 hl3
     refine zgb (hi.2.le k3) (by omega) (by omega) (λ_ h4 hl4 _=>zac rfl ?_) (λ_ _ hno=>absurd ⟨_,hv.le k3⟩ hno)
     have k4:=Hp.le_trans k3 hl4
     refine zi4 (hu.le k4) (hv.le k4) bu bv (by decide) (by decide) λh5 hl5=>hk2 _ _ (Hp.le_trans hl3 (Hp.le_trans hl4 hl5)) ?_
     rw[decide_eq_decide];exact zwb
   . subst hb
     have k3:=Hp.le_trans k2 hl3
     refine za3 (λhle=>?_) (λhle=>hk _ _ k3 ⟨λhh=>(by cases hh),λhh=>absurd (Rat.le_of_lt hh.1) hle⟩)
     refine zi4 (hu.le k3) (hv.le k3) bu bv (by decide) (by decide) λh4 hl4=>?_
     have k4:=Hp.le_trans k3 hl4
     refine za3 (λhlt=>?_) (λhlt=>hk _ _ k4 ⟨λhh=>(by cases hh),λhh=>absurd (zwc.2 hh.1) hlt⟩)
     refine zsl (hc.le k4) hn hf (hu.le k4) (hv.le k4) bu bv (by decide) λh5 hl5=>hk _ _ (Hp.le_trans k4 hl5) ?_
     rw[beq_iff_eq]
     exact⟨λhh=>⟨zwc.1 hlt,hh⟩,λhh=>hh.2⟩
 . refine za1 (λb h'=>b=false) (λK' hk=>?_) λb h' hl hb=>by subst hb;exact H0 hx h' hl
   unfold F.zhd
   refine zgb hi.1 (by omega) (by omega) (λu h1 hl1 hu=>zac rfl ?_) (λh1 hl1 _=>zab rfl (hk _ _ hl1 rfl))
   refine zgb (hi.2.le hl1) (by omega) (by omega) (λv h2 hl2 hv=>absurd ⟨u,v,hu,hv.back hi.2 hl1⟩ hx) (λh2 hl2 _=>zab rfl (hk _ _ (Hp.le_trans hl1 hl2) rfl))
theorem zz6(hp:PL h A l p)(h8:p.length<=8)(h1:CD 28 (co p))(hA:A<=100000000000)(hi:AV h i)(hl:i.low.num.mag.len<=1000/\i.low.den.mag.len<=1000/\i.high.num.mag.len<=1000/\i.high.den.mag.len<=1000)
 (H1:∀u v b h',NR h i.low u->NR h i.high v->BR 1000 u->BR 1000 v->h.le h'->(b=true↔oneQ p u v)->Kb b h') (H0:(¬∃u v,NR h i.low u/\NR h i.high v)->∀h',h.le h'->Kb false h'):callP (F.zk9 l i) Kb h:=by
 obtain⟨l1,l2,l3,l4⟩:=hl
 by_cases hx:∃u v,NR h i.low u/\NR h i.high v
 . obtain⟨u,v,hu,hv⟩:=hx
   have bu:BR 1000 u:=NR_BR hu (by omega) (by omega)
   have bv:BR 1000 v:=NR_BR hv (by omega) (by omega)
   refine za1 (λb h'=>b=true↔oneQ p u v) (λK' hk=>?_) λb h' hl hb=>H1 u v b h' hu hv bu bv hl hb
   unfold F.zk9
   refine za1 (λb h'=>b=decide (u<=v)) (λK2 hk2=>?_) λb h3 hl3 hb=>?_
   . unfold F.zh9
     refine zha hi.1 (by omega) (by omega) (λ_ h3 hl3 _=>zac rfl ?_) (λ_ _ hno=>absurd ⟨_,hu⟩ hno)
     refine zha (hi.2.le hl3) (by omega) (by omega) (λ_ h4 hl4 _=>zac rfl ?_) (λ_ _ hno=>absurd ⟨_,hv.le hl3⟩ hno)
     have k4:=Hp.le_trans hl3 hl4
     refine zl2 (hu.le k4) (hv.le k4) bu bv (by decide) (by decide) λh5 hl5=>hk2 _ _ (Hp.le_trans k4 hl5) ?_
     rw[decide_eq_decide];exact zwb
   . subst hb
     refine za3 (λhle=>?_) (λhle=>hk _ _ hl3 ⟨λhh=>(by cases hh),λhh=>absurd (Rat.le_of_lt hh.1) hle⟩)
     refine zakt (hp.le hl3) h8 h1 hA (hu.le hl3) (hv.le hl3) bu bv (by decide) λh5 hl5=>hk _ _ (Hp.le_trans hl3 hl5) ?_
     rw[beq_iff_eq,zarj]
     exact⟨λhh=>⟨hle,hh⟩,λhh=>hh.2⟩
 . refine za1 (λb h'=>b=false) (λK' hk=>?_) λb h' hl hb=>by subst hb;exact H0 hx h' hl
   unfold F.zk9
   refine za1 (λb h'=>b=false) (λK2 hk2=>?_) λb h3 hl3 hb=>by subst hb;exact zab rfl (hk _ _ hl3 rfl)
   unfold F.zh9
   refine zha hi.1 (by omega) (by omega) (λu h1 hl1 hu=>zac rfl ?_) (λh1 hl1 _=>zab rfl (hk2 _ _ hl1 rfl))
   refine zha (hi.2.le hl1) (by omega) (by omega) (λv h2 hl2 hv=>absurd ⟨u,v,hu,hv.back hi.2 hl1⟩ hx) (λh2 hl2 _=>zab rfl (hk2 _ _ (Hp.le_trans hl1 hl2) rfl))
end
end Den
end

section
namespace Den
open Go Iv Pq PS
theorem zam9{x y:Rat}:∃R,∀z,x<=z->z<=y->Bd R z:=by
 obtain⟨A,hA,a⟩:=Bd.self x
 obtain⟨B,hB,b⟩:=Bd.self y
 obtain⟨a1,a2⟩:=a
 obtain⟨b1,b2⟩:=b
 exact⟨A+B,λz h1 h2=>by constructor<;>grind⟩
theorem zank{p:List Rat}(h0:trim p≠[]):∃G:List Rat,ps (monQ p)=ps G*ps (sqfL p):=by
 obtain⟨g,A,B,s,t,fg,fA,fB,fs,ft,hg0,hA0,eM,eD,one,k,hk,eW⟩:=zalb h0
 obtain⟨G,hG⟩:=toL ((Fs.cst (1/k)).mul fg)
 refine⟨G,?_⟩
 have kk:cst (1/k)*cst k=1:=by rw[zafm,Rat.div_mul_cancel hk];rfl
 rw[hG,eW,eM]
 exact PS.psL.lin ([g,A,cst (1/k),cst k]:List PS) (.m (.v 0) (.v 1)) (.m (.m (.v 2) (.v 0)) (.m (.v 3) (.v 1))) [((.n (.m (.v 0) (.v 1))),(.m (.v 2) (.v 3)),.i)] (by decide +kernel) ⟨kk,trivial⟩
end Den
end

section
namespace Den
open Go Iv Pq
section
variable {h : Hp} {A B : Nat} {l : Sl} {p : List Rat} {Kb : Bool → Hp → Prop} {i : TInterval}
theorem zas3{h:Hp}{A:Nat}{l:Sl}{p:List Rat}(hp:PL h A l p)(h8:p.length<=8)(h1:CD 28 (co p)):(sqfL p).length<=9:=by
 by_cases h0:trim p=[]
 . have:sqfL p=[]:=by unfold sqfL;rw[if_pos h0]
   rw[this];exact Nat.zero_le _
 . obtain⟨G,hG⟩:=zank h0
   obtain⟨W,hW⟩:∃W,W=sqfL p:=⟨_,rfl⟩
   have nW:nf W:=by rw[hW];unfold sqfL;rw[if_neg h0];exact zf4
   rw[<-hW]at hG |-
   have nM:nf (monQ p):=zf4
   have lM:(monQ p).length<=8:=by rw[zb7];exact Nat.le_trans trim_len h8
   have hM0:monQ p≠[]:=λhh=>h0 (List.eq_nil_of_length_eq_zero (by rw[<-zb7,hh];rfl))
   have pM:PS.ps (monQ p)≠0:=λhh=>hM0 (by have:=PS.ps_eq_nil hh;rwa [trim_nf nM]at this)
   have hW0:W≠[]:=λhh=>pM (by rw[hG,hh,PS.ps_nil];exact PS.psL.lin ([PS.ps G]:List PS) (.m (.v 0) .o) .o [] (by decide +kernel) trivial)
   have tG:trim G≠[]:=λhh=>pM (by rw[hG,<-PS.ps_trim G,hh,PS.ps_nil];exact PS.psL.lin ([PS.ps W]:List PS) (.m .o (.v 0)) .o [] (by decide +kernel) trivial)
   have t1:=nf_top nf_trim tG
   have t2:=nf_top nW hW0
   rw[co_trim]at t1
   have k:=(PS.top_mul (a:=PS.ps G) (b:=PS.ps W) (k:=(trim G).length-1) (j:=W.length-1) t1 (λi hi=>by rw[PS.ps_c,<-co_trim,co_ge (by omega)]) t2 (λi hi=>by rw[PS.ps_c,co_ge (by omega)])).1
   rw[<-hG,PS.ps_c]at k
   have:(trim G).length-1+(W.length-1)<(monQ p).length:=Classical.byContradiction λhh=>k (co_ge (by omega))
   omega
end
end Den
end

section
namespace Den
open Go Iv Pq PS
theorem zat1{S:Type}{body:S->(S->Hp->Prop)->Hp->Prop}{s0:S}{h0:Hp}(J:Nat->S->Hp->Prop){n0:Nat}(h1:J n0 s0 h0)
 (h2:∀n s h,J n s h->∀K:S->Hp->Prop,(∀n' s' h',n'<n->J n' s' h'->K s' h')->body s K h):loopP body s0 h0:=by
 have least:∀s h,(∃n,J n s h)->∃n,J n s h/\∀m,J m s h->n<=m:=by
  rintro s h ⟨n,hn⟩
  induction n using Nat.strongRecOn with
  | _ n ih=>
    by_cases hh:∃m,m<n/\J m s h
    . obtain⟨m,g1,g2⟩:=hh;exact ih m g1 g2
    . exact⟨n,hn,λm hm=>Nat.not_lt.1 λhlt=>hh ⟨m,hlt,hm⟩⟩
 classical
 obtain⟨μ,hμ⟩:∃μ:S->Hp->Nat,∀s h,(∃n,J n s h)->J (μ s h) s h/\∀m,J m s h->μ s h<=m:=
  ⟨λs h=>if hh:∃n,J n s h then (least s h hh).choose else 0,λs h hh=>by
   simp only[dif_pos hh]
   exact(least s h hh).choose_spec⟩
 refine⟨λs h=>∃n,J n s h,μ,⟨n0,h1⟩,λs h hI=>?_⟩
 obtain⟨g1,g2⟩:=hμ s h hI
 exact h2 _ s h g1 _ λn' s' h' hlt hJ=>⟨⟨n',hJ⟩,Nat.lt_of_le_of_lt ((hμ s' h' ⟨n',hJ⟩).2 n' hJ) hlt⟩
theorem zaju{p:List Rat}(hl:(sqfL p).length<=9){x y:Rat}(hxy:x<=y):chN (chainL p) y<=chN (chainL p) x:=by
 rcases rle hxy with hlt | he
 . by_cases h2:2<=(trim p).length
   . obtain⟨R,hR⟩:=zam9 (x:=x) (y:=y)
     obtain⟨δ,d,s⟩:=zann h2 hl R
     refine mesh (P:=λx y=>chN (chainL p) y<=chN (chainL p) x) d (λa b ha hab hb hs=>?_) (λa b c _ _ _ _ h3 h4=>Nat.le_trans h4 h3) hlt
     have h5:=s a b (hR a ha (by grind)) (hR b (by grind) hb) hab hs
     omega
   . have:chainL p=[]:=by unfold chainL;rw[if_pos (by omega)]
     rw[this];exact Nat.le_refl _
 . rw[he];exact Nat.le_refl _
def Dy(D:Int)(k:Nat)(x:Rat):Prop:=∃n:Int,x*((D:Rat)*((2:Rat) ^ k))=(n:Rat)
theorem Dy.up{D:Int}{k:Nat}{x:Rat}(h:Dy D k x):Dy D (k+1) x:=by
 obtain⟨n,hn⟩:=h
 refine⟨n*2,?_⟩
 rw[Rat.pow_succ,Rat.intCast_mul,<-hn]
 have:((2:Int):Rat)=2:=rfl
 rw[this];grind
theorem Dy.mid{D:Int}{k:Nat}{x y:Rat}(h1:Dy D k x)(h2:Dy D k y):Dy D (k+1) ((x+y)*Rat.divInt 1 2):=by
 obtain⟨n,hn⟩:=h1
 obtain⟨m,hm⟩:=h2
 refine⟨n+m,?_⟩
 have e:Rat.divInt 1 2*2=1:=by decide +kernel
 rw[Rat.pow_succ,Rat.intCast_add,<-hn,<-hm]
 generalize Rat.divInt 1 2=z at *
 grind
theorem za3h(k:Nat):((2:Rat) ^ k)=(((2 ^ k:Nat):Int):Rat):=by
 induction k with
 | zero=>rfl
 | succ k ih=>
   rw[Rat.pow_succ,ih,Nat.pow_succ]
   have:(((2 ^ k*2:Nat):Int):Rat)=(((2 ^ k:Nat):Int):Rat)*(((2:Nat):Int):Rat):=by
    rw[<-Rat.intCast_mul]
    congr 1
   rw[this];rfl
theorem zata{k:Nat}(hk:k<=250):2 ^ k<W ^ 8:=by
 have h1:2 ^ k<=2 ^ 250:=Nat.pow_le_pow_right (by decide) hk
 have h2:W ^ 8=2 ^ 256:=by rw[W_eq]
 rw[h2]
 exact Nat.lt_of_le_of_lt h1 (Nat.pow_lt_pow_right (by decide) (by decide))
theorem Dy.br{D:Int}{k:Nat}{x:Rat}(h:Dy D k x)(hD0:0<D)(hD:Lt 8 D)(hk:k<=250)(hx:Bd (((W ^ 4:Nat):Int):Rat) x):BR 21 x:=by
 obtain⟨n,hn⟩:=h
 obtain⟨M,hM⟩:∃M:Int,M=D*((2 ^ k:Nat):Int):=⟨_,rfl⟩
 have hM2:(M:Rat)=(D:Rat)*((2:Rat) ^ k):=by rw[za3h,hM,Rat.intCast_mul]
 have p2:0<((2 ^ k:Nat):Int):=by have:=Nat.pow_pos (n:=k) (show 0<2 by decide);omega
 have M0:0<M:=by rw[hM];exact Int.mul_pos hD0 p2
 have l2:Lt 8 ((2 ^ k:Nat):Int):=by unfold Lt;rw[Int.natAbs_natCast];exact zata hk
 have lM:Lt 16 M:=by rw[hM];exact(hD.mul l2).mono (by omega)
 rw[<-hM2]at hn
 refine BR_of (Int.ne_of_gt M0) (lM.mono (by omega)) ?_ hn
 obtain⟨x1,x2⟩:=hx
 have M0':(0:Rat)<=(M:Rat):=Rat.intCast_nonneg.2 (Int.le_of_lt M0)
 have a1:=Rat.mul_nonneg (a:=(((W ^ 4:Nat):Int):Rat)-x) (b:=(M:Rat)) (by grind) M0'
 have a2:=Rat.mul_nonneg (a:=(((W ^ 4:Nat):Int):Rat)+x) (b:=(M:Rat)) (by grind) M0'
 have b1:(n:Rat)<=((((W ^ 4:Nat):Int)*M:Int):Rat):=by rw[Rat.intCast_mul];grind
 have b2:((-(((W ^ 4:Nat):Int)*M):Int):Rat)<=(n:Rat):=by rw[Rat.intCast_neg,Rat.intCast_mul];grind
 have c1:=Rat.intCast_le_intCast.1 b1
 have c2:=Rat.intCast_le_intCast.1 b2
 have l4:Lt 5 ((W ^ 4:Nat):Int):=by unfold Lt;rw[Int.natAbs_natCast];exact Nat.pow_lt_pow_right (by rw[W_eq];decide) (by decide)
 exact(l4.mul lM).le (by omega)
theorem br_bd{x:Rat}(h:BR 4 x):Bd (((W ^ 4:Nat):Int):Rat) x:=by
 have h1:=h.1
 unfold Lt at h1
 have e:=zdx x
 have d1:(1:Rat)<=(((x.den):Nat):Rat):=by
  have:=x.den_pos
  have h4:((1:Nat):Rat)<=(((x.den):Nat):Rat):=Rat.natCast_le_natCast.2 (by omega)
  exact h4
 have n1:(x.num:Rat)<=(((W ^ 4:Nat):Int):Rat):=Rat.intCast_le_intCast.2 (by omega)
 have n2:(-((((W ^ 4:Nat):Int)):Rat))<=(x.num:Rat):=by
  rw[<-Rat.intCast_neg]
  exact Rat.intCast_le_intCast.2 (by omega)
 have w0:(0:Rat)<=(((W ^ 4:Nat):Int):Rat):=Rat.intCast_nonneg.2 (by omega)
 generalize (((W ^ 4:Nat):Int):Rat)=V at *
 generalize (x.num:Rat)=m at *
 generalize (((x.den):Nat):Rat)=D at *
 constructor
 . refine Rat.not_lt.1 λhh=>?_
   have:=Rat.mul_nonneg (a:=-V-x) (b:=D-1) (by grind) (by grind)
   have:=Rat.mul_nonneg (a:=V) (b:=D-1) w0 (by grind)
   grind
 . refine Rat.not_lt.1 λhh=>?_
   have:=Rat.mul_nonneg (a:=x-V) (b:=D-1) (by grind) (by grind)
   have:=Rat.mul_nonneg (a:=V) (b:=D-1) w0 (by grind)
   grind
theorem halving{u v w:Rat}{k:Nat}(bu:BR 4 u)(bv:BR 4 v)(bw:BR 3 w)(hw:0<w)(h:w*(2:Rat) ^ k<v-u):k<240:=by
 obtain⟨u1,u2⟩:=br_bd bu
 obtain⟨v1,v2⟩:=br_bd bv
 have e:=zdx w
 have hn:0<w.num:=(by have:=zqc.2 hw;exact Int.sign_eq_one_iff_pos.1 this)
 have n1:(1:Rat)<=(w.num:Rat):=by
  have:((1:Int):Rat)<=(w.num:Rat):=Rat.intCast_le_intCast.2 (by omega)
  exact this
 have hd:w.den<W ^ 3:=by have:=bw.2;unfold Lt at this;rw[Int.natAbs_natCast]at this;exact this
 have d1:(((w.den):Nat):Rat)<=(((W ^ 3:Nat):Int):Rat):=by
  rw[Rat.intCast_natCast]
  exact Rat.natCast_le_natCast.2 (by omega)
 have d0:(0:Rat)<=(((w.den):Nat):Rat):=by
  have:((0:Nat):Rat)<=(((w.den):Nat):Rat):=Rat.natCast_le_natCast.2 (by omega)
  exact this
 have p0:(0:Rat)<=(2:Rat) ^ k:=by rw[za3h];exact Rat.intCast_nonneg.2 (Int.natCast_nonneg _)
 have V0:(0:Rat)<=(((W ^ 4:Nat):Int):Rat):=Rat.intCast_nonneg.2 (by omega)
 have key:(2:Rat) ^ k<=2*(((W ^ 4:Nat):Int):Rat)*(((W ^ 3:Nat):Int):Rat):=by
  generalize (2:Rat) ^ k=P at *
  generalize (((W ^ 4:Nat):Int):Rat)=V at *
  generalize (((W ^ 3:Nat):Int):Rat)=T at *
  generalize (((w.den):Nat):Rat)=D at *
  generalize (w.num:Rat)=m at *
  have a1:=Rat.mul_nonneg (a:=m-1) (b:=P) (by grind) p0
  rw[<-e]at a1
  have a2:=Rat.mul_nonneg (a:=v-u-w*P) (b:=D) (by grind) d0
  have a3:=Rat.mul_nonneg (a:=2*V-(v-u)) (b:=D) (by grind) d0
  have a4:=Rat.mul_nonneg (a:=2*V) (b:=T-D) (by grind) (by grind)
  grind
 rw[za3h]at key
 have e2:2*(((W ^ 4:Nat):Int):Rat)*(((W ^ 3:Nat):Int):Rat)=(((2*W ^ 4*W ^ 3:Nat):Int):Rat):=by
  have:(((2*W ^ 4*W ^ 3:Nat):Int))=(2:Int)*((W ^ 4:Nat):Int)*((W ^ 3:Nat):Int):=by simp
  rw[this,Rat.intCast_mul,Rat.intCast_mul]
  rfl
 rw[e2]at key
 have k2:=Rat.intCast_le_intCast.1 key
 have k3:2 ^ k<=2*W ^ 4*W ^ 3:=by omega
 have k4:2*W ^ 4*W ^ 3=2 ^ 225:=by rw[W_eq]
 rw[k4]at k3
 refine Nat.not_le.1 λhh=>?_
 have k5:2 ^ 240<=2 ^ k:=Nat.pow_le_pow_right (by decide) hh
 have k6:2 ^ 225<2 ^ 240:=Nat.pow_lt_pow_right (by decide) (by decide)
 omega
end Den
end

section
namespace Den
open Go Iv Pq PS
abbrev i8(s:Bool×Sl×Bool×Sl×Bool×Sl×Bool×Sl×Unit):TInterval:=⟨⟨⟨s.1,s.2.1⟩,⟨s.2.2.1,s.2.2.2.1⟩⟩,⟨⟨s.2.2.2.2.1,s.2.2.2.2.2.1⟩,⟨s.2.2.2.2.2.2.1,s.2.2.2.2.2.2.2.1⟩⟩⟩
def noV:TInterval:=⟨⟨⟨false,nilS⟩,⟨false,nilS⟩⟩,⟨⟨false,nilS⟩,⟨false,nilS⟩⟩⟩
theorem half2:Rat.divInt 1 2*2=1:=by decide +kernel
theorem zasi:BR 1 (Rat.divInt 1 2):=by
 refine BR.divInt (k:=1) ?_ ?_ (by decide)<;>(unfold Lt;rw[Nat.pow_one,W_eq];decide)
section
variable {h : Hp} {A B j : Nat} {l : Sl} {p : List Rat} {Kb : Bool → Hp → Prop} {KR : TRat → Hp → Prop} {i : TInterval} {u v w : Rat} {x : TRat}
theorem zan0{m n:Int}(h1:-9223372036854775808<=m)(h2:m<=9223372036854775807)(h3:-9223372036854775808<=n)(h4:n<=9223372036854775807)(h0:n≠0)(H:∀z h',h.le h'->NR h' z (Rat.divInt m n)->KR z h'):callP (F.zik m n) KR h:=by
 refine za1 _ (λK' hk=>?_) H
 unfold F.zik
 refine zjn h1 h2 λa g1 l1 ha=>zjn h3 h4 λb g2 l2 hb=>?_
 refine zan1 (k:=2) (ha.le l2) hb (Lt.of64 (by omega) (by omega)) (Lt.of64 (by omega) (by omega)) (by decide) h0 λz g3 l3 hz=>?_
 exact znz (λhh=>absurd rfl hh) (λ_=>hk _ _ (Hp.le_trans l1 (Hp.le_trans l2 l3)) hz)
theorem zafw(ha:NV h i u v)(b1:BR j u)(b2:BR j v)(hj:j<=10000000000)(H:∀z h',h.le h'->NR h' z ((u+v)*Rat.divInt 1 2)->KR z h'):callP (F.zjw i) KR h:=by
 refine za1 _ (λK' hk=>?_) H
 unfold F.zjw
 refine zga ha.1 ha.2 b1 b2 (by omega) (by omega) λa g1 l1 h1=>?_
 refine zan0 (by decide) (by decide) (by decide) (by decide) (by decide) λb g2 l2 h2=>?_
 exact znc (h1.le l2) h2 (b1.add b2) zasi (by omega) (by decide) λc g3 l3 h3=>hk _ _ (Hp.le_trans l1 (Hp.le_trans l2 l3)) h3
theorem zafx{Kp:(TInterval×Int)->Hp->Prop}(hp:PL h A l p)(h8:p.length<=8)(h1:CD 28 (co p))(hA:A<=50000000000)(hi:AV h i)(hl:i.low.num.mag.len<=4/\i.low.den.mag.len<=4/\i.high.num.mag.len<=4/\i.high.den.mag.len<=4)(hw:NR h x w)(bw:BR 3 w)
 (H1:∀u v z u' v' h',NR h i.low u->NR h i.high v->BR 4 u->BR 4 v->oneQ p u v->0<w->h.le h'->NV h' z u' v'->oneQ p u' v'->u<=u'->v'<=v->v'-u'<=w->BR 21 u'->BR 21 v'->Kp (z,0) h')
 (H0:(¬(∃u v,NR h i.low u/\NR h i.high v/\oneQ p u v)\/w<=0)->∀h',h.le h'->Kp (noV,1) h'):callP (F.zjv l i x) Kp h:=by
 refine za1 (λr h'=>(∃u v u' v',NR h i.low u/\NR h i.high v/\BR 4 u/\BR 4 v/\oneQ p u v/\0<w/\NV h' r.1 u' v'/\oneQ p u' v'/\u<=u'/\v'<=v/\v'-u'<=w/\BR 21 u'/\BR 21 v'/\r.2=0)\/((¬(∃u v,NR h i.low u/\NR h i.high v/\oneQ p u v)\/w<=0)/\r=(noV,1))) (λK' hk=>?_) λr h' hl hr=>by
  rcases hr with ⟨u,v,u',v',a1,a2,a3,a4,a5,a6,a7,a8,a9,a10,a11,a12,a13,a14⟩ | ⟨a,rfl⟩
  . obtain⟨z,e⟩:=r
    simp only at a14
    subst a14
    exact H1 u v z u' v' h' a1 a2 a3 a4 a5 a6 hl a7 a8 a9 a10 a11 a12 a13
  . exact H0 a h' hl
 have hl9:=zas3 hp h8 h1
 unfold F.zjv
 refine zakl hp h8 h1 (by omega) λc h2 ps hl2 hc hn hf he=>?_
 refine za8 (λ_ h'=>h2.le h'/\0<w/\∃u v,NR h i.low u/\NR h i.high v/\BR 4 u/\BR 4 v/\oneQ p u v) ?_ ?_
 . rintro _ h3 ⟨hl3,w0,u0,v0,hu0,hv0,bu0,bv0,hone⟩
   have k3:=Hp.le_trans hl2 hl3
   obtain⟨D,hD⟩:∃D:Int,D=((u0.den:Nat):Int)*((v0.den:Nat):Int):=⟨_,rfl⟩
   have D0:0<D:=by rw[hD];exact Int.mul_pos (by have:=u0.den_pos;omega) (by have:=v0.den_pos;omega)
   have lD:Lt 8 D:=by rw[hD];exact(bu0.2.mul bv0.2).mono (by omega)
   have du:Dy D 0 u0:=by
    refine⟨u0.num*((v0.den:Nat):Int),?_⟩
    have:=zdx u0
    rw[hD,Rat.intCast_mul,Rat.intCast_mul,<-this,Rat.intCast_natCast,Rat.intCast_natCast]
    have e:(2:Rat) ^ 0=1:=rfl
    rw[e];grind
   have dv:Dy D 0 v0:=by
    refine⟨v0.num*((u0.den:Nat):Int),?_⟩
    have:=zdx v0
    rw[hD,Rat.intCast_mul,Rat.intCast_mul,<-this,Rat.intCast_natCast,Rat.intCast_natCast]
    have e:(2:Rat) ^ 0=1:=rfl
    rw[e];grind
   obtain⟨U1,U2⟩:=br_bd bu0
   obtain⟨V1,V2⟩:=br_bd bv0
   refine zat1 (λn (st:(Bool×Sl×Bool×Sl×Bool×Sl×Bool×Sl×Unit)×Unit) h'=>∃u v k,n+k=241/\h3.le h'/\NV h' (i8 st.1) u v/\u0<=u/\v<=v0/\u<v/\(v-u)*(2:Rat) ^ k=v0-u0/\Dy D k u/\Dy D k v/\(chN ps u:Int)-chN ps v=1) (n0:=241) ?_ ?_
   . have e0:(2:Rat) ^ 0=1:=rfl
     exact⟨u0,v0,0,rfl,Hp.le_refl _,⟨hu0.le k3,hv0.le k3⟩,Rat.le_refl,Rat.le_refl,hone.1,by rw[e0];grind,du,dv,by rw[he,he];exact hone.2⟩
   rintro n ⟨s,_⟩ h4 ⟨u,v,k,hnk,hl4,hv4,g1,g2,g3,g4,g5,g6,g7⟩ K hK
   simp only at hv4
   have k4:=Hp.le_trans k3 hl4
   have bu:BR 21 u:=g5.br D0 lD (by omega) ⟨by grind,by grind⟩
   have bv:BR 21 v:=g6.br D0 lD (by omega) ⟨by grind,by grind⟩
   refine zak6 (a:=i8 s) hv4 bu bv (by decide) λr h5 hl5 hr=>?_
   refine zi4 hr ((hw.le k4).le hl5) (bv.sub bu) bw (by decide) (by decide) λh6 hl6=>?_
   have l46:=Hp.le_trans hl5 hl6
   refine za3 (λhgt=>?_) (λhgt=>?_)
   . have hgt':w<v-u:=zqz.1 hgt
     have hk240:k<240:=by
      refine halving bu0 bv0 bw w0 ?_
      have p0:(0:Rat)<(2:Rat) ^ k:=by
       rw[za3h]
       have:(0:Int)<((2 ^ k:Nat):Int):=by have:=Nat.pow_pos (n:=k) (show 0<2 by decide);omega
       have h9:((0:Int):Rat)<(((2 ^ k:Nat):Int):Rat):=Rat.intCast_lt_intCast.2 this
       exact h9
      have:=Rat.mul_pos (a:=v-u-w) (b:=(2:Rat) ^ k) (by grind) p0
      grind
     obtain⟨n,rfl⟩:∃n',n=n'+1:=⟨n-1,by omega⟩
     refine zafw (i:=i8 s) (hv4.le l46) bu bv (by decide) λm h7 hl7 hm=>?_
     have l47:=Hp.le_trans l46 hl7
     have dm:=g5.mid g6
     obtain⟨z,hz⟩:∃z,z=(u+v)*Rat.divInt 1 2:=⟨_,rfl⟩
     rw[<-hz]at dm hm
     have ez:z*2=u+v:=by
      have:=half2
      rw[hz]
      generalize Rat.divInt 1 2=y at *
      grind
     have z1:u<z:=by grind
     have z2:z<v:=by grind
     have bz:BR 21 z:=dm.br D0 lD (by omega) ⟨by grind,by grind⟩
     refine zsl (x:=(i8 s).low) (hc.le (Hp.le_trans hl3 (Hp.le_trans hl4 l47))) hn hf (hv4.1.le l47) hm bu bz (by decide) λh8 hl8=>?_
     have l48:=Hp.le_trans l47 hl8
     have hl48:=Hp.le_trans hl4 l48
     refine zbi (λhq=>?_) (λhq=>?_)
     . refine hK n _ _ (Nat.lt_succ_self n) ⟨u,z,k+1,by omega,hl48,⟨hv4.1.le l48,hm.le hl8⟩,g1,by grind,z1,?_,g5.up,dm,hq⟩
       rw[Rat.pow_succ];grind
     . refine hK n _ _ (Nat.lt_succ_self n) ⟨z,v,k+1,by omega,hl48,⟨hm.le hl8,hv4.2.le l48⟩,by grind,g2,z2,?_,dm,g6.up,?_⟩
       . rw[Rat.pow_succ];grind
       . have m1:=zaju hl9 (Rat.le_of_lt z1)
         have m2:=zaju hl9 (Rat.le_of_lt z2)
         rw[<-he,<-he]at m1 m2
         omega
   . have hle:v-u<=w:=Rat.not_lt.1 λhh=>hgt (zqz.2 hh)
     refine zbd (by decide) (by decide) λr1 h7 hl7 hr1=>?_
     have hr1':NR h7 r1 0:=hr1
     refine zak5 hr1' zgo (by decide) λr2 h8' hl8 hr2=>?_
     have l48:=Hp.le_trans l46 (Hp.le_trans hl7 hl8)
     refine zap6 (a:=i8 s) (hv4.le l48) hr2 bu bv zgo zgo (by decide) (by decide) λr3 h9 hl9' hr3=>?_
     rw[Rat.add_zero,Rat.add_zero]at hr3
     refine hk _ _ (Hp.le_trans k4 (Hp.le_trans l48 hl9')) (.inl ⟨u0,v0,u,v,hu0,hv0,bu0,bv0,hone,w0,hr3,⟨g3,by rw[<-he,<-he];exact g7⟩,g1,g2,hle,bu,bv,rfl⟩)
 . refine zafy hc hn hf ⟨hi.1.le hl2,hi.2.le hl2⟩ hl (λu v b h3 hu hv bu bv hl3 hb=>?_) (λhno h3 hl3=>zac rfl (hk _ _ (Hp.le_trans hl2 hl3) (.inr ⟨.inl λ⟨u,v,a,b,_⟩=>hno ⟨u,v,a.le hl2,b.le hl2⟩,rfl⟩)))
   have k3:=Hp.le_trans hl2 hl3
   have hu0:=hu.back hi.1 hl2
   have hv0:=hv.back hi.2 hl2
   have hb2:b=true↔oneQ p u v:=by rw[hb];unfold oneQ;rw[he,he]
   cases b with
   | false=>
     refine zac rfl (hk _ _ k3 (.inr ⟨.inl λ⟨u',v',a,b',c'⟩=>?_,rfl⟩))
     have e1:u'=u:=NR.inj a hu0
     have e2:v'=v:=NR.inj b' hv0
     subst e1 e2
     exact absurd (hb2.2 c') (by decide)
   | true=>
     refine zab rfl ?_
     refine zi5 (hw.le k3) bw (by decide) ?_
     refine za3 (λhs=>hk _ _ k3 (.inr ⟨.inr ?_,rfl⟩)) (λhs=>⟨hl3,?_,u,v,hu0,hv0,bu,bv,hb2.1 rfl⟩)
     . rcases zhb w with ⟨a,b⟩ | ⟨a,b⟩ | ⟨a,b⟩
       . rw[a]at hs;exact absurd hs (by decide)
       . rw[b];exact Rat.le_refl
       . exact Rat.le_of_lt b
     . rcases zhb w with ⟨a,b⟩ | ⟨a,b⟩ | ⟨a,b⟩
       . exact b
       . rw[a]at hs;exact absurd (by decide) hs
       . rw[a]at hs;exact absurd (by decide) hs
theorem zaq7(ha:AQX h l)(hi:AV h i)(hx:ARX h x)(H:∀h',h.le h'->Kb true h'):F.zh3 l i x Kb h:=by
 unfold F.zh3
 refine za8 (λ_ h'=>h.le h'/\∃p w,PL h' 3 l p/\p.length<=8/\NR h' x w/\BR 3 w/\i.low.num.mag.len<=4/\i.low.den.mag.len<=4/\i.high.num.mag.len<=4/\i.high.den.mag.len<=4) ?_ ?_
 . rintro _ h1 ⟨hl1,p,w,hp,h8,hw,bw,l1,l2,l3,l4⟩
   have cp:CD 28 (co p):=(zadz (k:=8) hp.bound (by decide) h8).mono (by decide)
   have hi1:AV h1 i:=hi.le hl1
   refine zaqu hp (by omega) λy1 h2 hl2 hy1=>?_
   have hi2:=hi1.le hl2
   refine zafx hy1 h8 cp (by decide) hi2 ⟨l1,l2,l3,l4⟩ (hw.le hl2) bw (λu v z u' v' h3 hu hv bu bv hone w0 hl3 hz hone' q1 q2 q3 bu' bv'=>?_) (λhno h3 hl3=>?_)
   . have k3:=Hp.le_trans hl2 hl3
     have hi3:=hi2.le hl3
     refine za8 (λ_ h'=>h3.le h') ?_ ?_
     . intro _ h4 hl4
       have k4:=Hp.le_trans k3 hl4
       refine zac rfl ?_
       have z1:=hz.1.lens bu'
       have z2:=hz.2.lens bv'
       refine zz6 (i:=z) (hp.le k4) h8 cp (by decide) (AV.le ⟨hz.1.ar,hz.2.ar⟩ hl4) ⟨by omega,by omega,by omega,by omega⟩ (λa b c h5 ha' hb' _ _ hl5 hc=>?_) (λhno h5 hl5=>absurd ⟨u',v',hz.1.le hl4,hz.2.le hl4⟩ hno)
       have e1:=NR.inj ha' (hz.1.le hl4)
       have e2:=NR.inj hb' (hz.2.le hl4)
       subst e1 e2
       have hct:c=true:=hc.2 hone'
       subst hct
       refine zac rfl ?_
       have l45:=Hp.le_trans hl4 hl5
       have l35:=Hp.le_trans hl3 l45
       refine zl2 (hu.le l35) (hz.1.le l45) bu bu' (by decide) (by decide) λh6 hl6=>?_
       refine za3 (λ_=>?_) (λhh=>absurd (zwb.2 q1) hh)
       refine zl2 (hz.2.le (Hp.le_trans l45 hl6)) ((hv.le l35).le hl6) bv' bv (by decide) (by decide) λh7 hl7=>?_
       refine za3 (λ_=>?_) (λhh=>absurd (zwb.2 q2) hh)
       have l47:=Hp.le_trans l45 (Hp.le_trans hl6 hl7)
       refine zanc (hz.2.le l47) (hz.1.le l47) bv' bu' (by decide) (by decide) λr h8' hl8 hr=>?_
       refine zl2 hr ((hw.le (Hp.le_trans k3 l47)).le hl8) (bv'.sub bu') bw (by decide) (by decide) λh9 hl9=>?_
       rw[decide_eq_true (zwb.2 q3)]
       exact H _ (Hp.le_trans hl1 (Hp.le_trans k3 (Hp.le_trans l47 (Hp.le_trans hl8 hl9))))
     . refine zm0 (hw.le k3) bw (by decide) ?_
       refine za3 (λhs=>?_) (λhs=>?_)
       . rw[zqc.2 w0]at hs;exact absurd hs (by decide)
       . refine zz6 (hp.le k3) h8 cp (by decide) hi3 ⟨by omega,by omega,by omega,by omega⟩ (λa b c h4 ha' hb' _ _ hl4 hc=>?_) (λhno h4 hl4=>absurd ⟨u,v,hu.le hl3,hv.le hl3⟩ hno)
         have e1:=NR.inj ha' (hu.le hl3)
         have e2:=NR.inj hb' (hv.le hl3)
         subst e1 e2
         have hct:c=true:=hc.2 hone
         subst hct
         exact zab rfl hl4
   . have k3:=Hp.le_trans hl2 hl3
     have hi3:=hi2.le hl3
     have fin:∀h4,h3.le h4->ifP ((noV,(1:Int)).2==1) (ifP (((noV,(1:Int)).1.low.den.mag.len:Int)==0) (Kb (((noV,(1:Int)).1.high.den.mag.len:Int)==0) h4) (Kb false h4)) (Kb false h4):=λh4 hl4=>by
      have:=H h4 (Hp.le_trans hl1 (Hp.le_trans k3 hl4))
      exact zac rfl (zac rfl this)
     refine za8 (λ_ _=>False) (λ_ _ hh=>hh.elim) ?_
     refine zm0 (hw.le k3) bw (by decide) ?_
     refine za3 (λhs=>fin _ (Hp.le_refl _)) (λhs=>?_)
     have w0:0<w:=by
      rcases zhb w with ⟨a,b⟩ | ⟨a,b⟩ | ⟨a,b⟩
      . exact b
      . rw[a]at hs;exact absurd (by decide) hs
      . rw[a]at hs;exact absurd (by decide) hs
     refine zz6 (hp.le k3) h8 cp (by decide) hi3 ⟨by omega,by omega,by omega,by omega⟩ (λu' v' b h4 hu' hv' _ _ hl4 hb=>?_) (λ_ h4 hl4=>zac rfl (fin h4 hl4))
     cases b with
     | true=>
       exfalso
       rcases hno with hno | hno
       . exact hno ⟨u',v',hu'.back hi2.1 hl3,hv'.back hi2.2 hl3,hb.1 rfl⟩
       . exact absurd w0 (Rat.not_lt.2 hno)
     | false=>exact zac rfl (fin h4 hl4)
 . refine zen λh1 hl1=>zab rfl ?_
   refine zf3 (n:=1) (size:=1) rfl λb h2 hb ho=>?_
   have l2:=Hp.le_trans hl1 ho.1
   refine zal9 (ss:=[l]) ho.rd (λs hs=>by rw[List.mem_singleton.1 hs];exact ha.le l2) (by simp) (λh3 hl3 hsm=>zab rfl ?_) (λh3 hl3=>zac rfl (zen λh4 hl4=>H _ (Hp.le_trans l2 (Hp.le_trans hl3 hl4))))
   obtain⟨p,hp,h8⟩:=hsm l (by simp)
   have l3:=Hp.le_trans l2 hl3
   refine zww (hx.le l3) (λw h4 hl4 hw bw=>zab rfl ?_) (λh4 hl4=>zac rfl (zen λh5 hl5=>H _ (Hp.le_trans l3 (Hp.le_trans hl4 hl5))))
   have l4:=Hp.le_trans l3 hl4
   refine za3 (λ_=>zen λh5 hl5=>H _ (Hp.le_trans l4 hl5)) (λg1=>?_)
   refine za3 (λ_=>zen λh5 hl5=>H _ (Hp.le_trans l4 hl5)) (λg2=>?_)
   refine za3 (λ_=>zen λh5 hl5=>H _ (Hp.le_trans l4 hl5)) (λg3=>?_)
   refine za3 (λ_=>zen λh5 hl5=>H _ (Hp.le_trans l4 hl5)) (λg4=>?_)
   exact⟨l4,p,w,hp.le (Hp.le_trans hl3 hl4),h8,hw.le hl4,bw,by omega,by omega,by omega,by omega⟩
end
end Den
end
