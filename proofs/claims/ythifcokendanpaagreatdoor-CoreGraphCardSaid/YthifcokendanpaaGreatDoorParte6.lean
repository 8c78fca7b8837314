/-
  Part 6 of the tools and contracts from which the statement is proved.
-/
import Derived.Test.YthifcokendanpaaGreatDoorParte5
import Derived.Test.YthifcokendanpaaGreatDoorProg
import Derived.Laws.Externs
set_option linter.all false
section
set_option maxRecDepth 100000
namespace Den
open Go Go.Proofs.Tryz
noncomputable section
noncomputable def zot:FSem:=mkE (ArgT.cons tyTSketch ArgT.nil) (Ty.leaf (.int .i64)) fun a=>F.ze7 a.1
theorem zsv:Entry prog 56 zot false:=eo { P:=prog,n:=49,tab:=[(113,e_x3),(114,e_x32),(117,e_x39),(121,e_x44),(123,e_x50),(126,e_x57),(129,zxl)],locL:=[3,4] } (.seq .leaf (.seq (.seq .leaf (.cond (.seq .leaf .leaf) .leaf)) (.seq (.drawP [0,1,2,3,4,5,6,7,8,9] [3,4]) (.join [(5,.leaf (.bool))] .leaf (.seq (.seq .leaf (.cond (.seq .leaf .leaf) .leaf)) (.seq .leaf .leaf)))))) func56 ⟨t_x3,t_x32,t_x39,t_x44,t_x50,t_x57,za66,trivial⟩
noncomputable def zxm:FSem:=mkE (ArgT.cons (Ty.leaf .sl) (ArgT.cons (Ty.leaf .sl) ArgT.nil)) (Ty.leaf .bool) fun a=>F.zd2 a.1 a.2.1
theorem za67:Entry prog 95 zxm false:=eo { P:=prog,n:=26,tab:=[] } (.seq .leaf (.seq (.seq .leaf (.cond (.seq .leaf .leaf) .leaf)) (.seq (.seq .leaf (.block (.loop [(13,.leaf (.int .i64))] (.seq .leaf (.seq (.cond .leaf .leaf) (.seq (.block (.seq .leaf (.seq (.draw [0,1,2,3,4,5,6,7,8]) (.cond (.seq .leaf .leaf) .leaf)))) .leaf)))))) (.seq .leaf .leaf)))) func95 trivial
noncomputable def zxn:FSem:=mkE (ArgT.cons (Ty.leaf .sl) (ArgT.cons (Ty.leaf .sl) ArgT.nil)) (Ty.leaf .bool) fun a=>F.zfl a.1 a.2.1
theorem za68:Entry prog 267 zxn false:=eo { P:=prog,n:=26,tab:=[] } (.seq .leaf (.seq (.seq .leaf (.cond (.seq .leaf .leaf) .leaf)) (.seq (.seq .leaf (.block (.loop [(13,.leaf (.int .i64))] (.seq .leaf (.seq (.cond .leaf .leaf) (.seq (.block (.seq .leaf (.seq (.draw [0,1,2,3,4,5,6,7,8]) (.cond (.seq .leaf .leaf) .leaf)))) .leaf)))))) (.seq .leaf .leaf)))) func267 trivial
noncomputable def zxo:FSem:=mkE (ArgT.cons tyTInt (ArgT.cons tyTInt ArgT.nil)) (Ty.leaf .bool) fun a=>F.zh4 a.1 a.2.1
theorem za69:Entry prog 251 zxo false:=eo { P:=prog,n:=17,tab:=[(267,zxn)],rtL:=[(5,2),(7,3),(11,2),(13,3)],locL:=[2,3] } (.seq .leaf (.seq .leaf .leaf)) func251 ⟨za68,trivial⟩
noncomputable def zoj:ArgT (Sl×Sl×Unit):=(ArgT.cons (Ty.leaf .sl) (ArgT.cons (Ty.leaf .sl) (ArgT.fn 227 ArgT.nil)))
noncomputable def zol:Ty Bool:=(Ty.leaf .bool)
noncomputable def za46:ArgT (TExpr×TExpr×Unit):=(ArgT.cons tyTExpr (ArgT.cons tyTExpr ArgT.nil))
noncomputable def za49:Ty Bool:=(Ty.leaf .bool)
noncomputable def zxp (Q_slices_EqualFunc_api_Expr_api_Expr_api_Expr_api_Expr_formula_Equal:Sl→Sl→(Bool→Hp→Prop)→Hp→Prop):FSem:=mkE za46 za49 fun a=>F.zm9 Q_slices_EqualFunc_api_Expr_api_Expr_api_Expr_api_Expr_formula_Equal a.1 a.2.1
theorem za6a (Q_slices_EqualFunc_api_Expr_api_Expr_api_Expr_api_Expr_formula_Equal:Sl→Sl→(Bool→Hp→Prop)→Hp→Prop) (h_slices_EqualFunc_api_Expr_api_Expr_api_Expr_api_Expr_formula_Equal:Entry prog 226 (mkE zoj zol (fun a=>Q_slices_EqualFunc_api_Expr_api_Expr_api_Expr_api_Expr_formula_Equal a.1 a.2.1)) false):Entry prog 227 (zxp Q_slices_EqualFunc_api_Expr_api_Expr_api_Expr_api_Expr_formula_Equal) false:=eo { P:=prog,n:=42,tab:=[(251,zxo),(226,mkE zoj zol (fun a=>Q_slices_EqualFunc_api_Expr_api_Expr_api_Expr_api_Expr_formula_Equal a.1 a.2.1))],rtL:=[(5,2),(7,3),(11,2),(13,3),(18,2),(19,2),(21,3),(22,3),(27,2),(28,2),(30,3),(31,3),(36,2),(38,3)],locL:=[2,3] } (.seq .leaf (.seq .leaf .leaf)) func227 ⟨za69,h_slices_EqualFunc_api_Expr_api_Expr_api_Expr_api_Expr_formula_Equal,trivial⟩
noncomputable def zxq:FSem:=mkE zoj zol fun a=>F.zaw a.1 a.2.1
noncomputable def za4b (n:Nat):Cfg:={ P:=prog,n:=32,tab:=[(227,(zxp (F.za8 n)))],locL:=[8,9] }
theorem za0s:∃fn,prog.funcs[226]?=some fn∧fn.body.isNone=false∧(fn.name == "runtime.NumGoroutine")=false:=⟨_,func226,rfl,by decide⟩
theorem za0v:∀n a K D w,Sub D w→F.za8 n a.1 a.2.1 K D→Calls prog 226 (zoj.up a).toArray w (Post (fun v h=>zol.dn v fun r=>K r h) D w)
 | 0,_,_,_,_,_,h=>h.elim
 | n+1,a,K,D,w,hs,h=>zl0 (C:=za4b n) (F:=fun a=>F.za8 (n+1) a.1 a.2.1) (fn:=f226) (c:=bd f226) (an:=(.seq .leaf (.seq (.seq .leaf (.cond (.seq .leaf .leaf) .leaf)) (.seq (.seq .leaf (.block (.loop [(17,.leaf (.int .i64))] (.seq .leaf (.seq (.cond .leaf .leaf) (.seq (.block (.seq .leaf (.seq .leaf (.seq .leaf (.cond (.seq .leaf .leaf) .leaf))))) .leaf)))))) (.seq .leaf .leaf))))) ⟨(za6a (F.za8 n) (zg9 za0s (za0v n))),trivial⟩ trivial func226 rfl rfl (fun _=>rfl) (by intro a K D; kernel_rfl) a K D w hs h
theorem za6b:Entry prog 226 zxq false:=zg9 za0s (fun a K D w hs h=>h.elim fun m h=>za0v m a K D w hs h)
noncomputable def zxr:FSem:=mkE (ArgT.cons tyTConstraint (ArgT.cons tyTConstraint ArgT.nil)) (Ty.leaf .bool) fun a=>F.zf0 a.1 a.2.1
theorem za6c:Entry prog 194 zxr false:=eo { P:=prog,n:=38,tab:=[(95,zxm),(226,zxq)],rtL:=[(5,2),(7,3),(11,2),(13,3),(18,2),(20,3),(25,2),(27,3),(32,2),(34,3)],locL:=[2,3] } (.seq .leaf (.seq .leaf .leaf)) func194 ⟨za67,za6b,trivial⟩
noncomputable def zxs:FSem:=mkE (ArgT.cons tyTConstraint (ArgT.cons (Ty.leaf .ptr) ArgT.nil)) (Ty.leaf .bool) fun a=>F.zf9 a.1 a.2.1
theorem za6d:Entry prog 193 zxs false:=eo { P:=prog,n:=7,tab:=[(194,zxr)],locL:=[2] } (.seq .leaf (.seq .leaf .leaf)) func193 ⟨za6c,trivial⟩
noncomputable def zxt:FSem:=mkE (ArgT.cons (Ty.leaf .sl) (ArgT.fnc 193 1 ArgT.nil)) (Ty.leaf (.int .i64)) fun a=>F.zb2 a.1 a.2.1
theorem za6e:Entry prog 221 zxt false:=eo { P:=prog,n:=19,tab:=[(193,zxs)] } (.seq .leaf (.seq (.seq .leaf (.block (.loop [(8,.leaf (.int .i64))] (.seq .leaf (.seq (.cond .leaf .leaf) (.seq (.block (.seq .leaf (.seq .leaf (.cond (.seq .leaf .leaf) .leaf)))) .leaf)))))) (.seq .leaf .leaf))) func221 ⟨za6d,trivial⟩
noncomputable def zxu:FSem:=mkE (ArgT.cons (Ty.leaf .sl) (ArgT.fnc 193 1 ArgT.nil)) (Ty.leaf .bool) fun a=>F.za9 a.1 a.2.1
theorem za6f:Entry prog 184 zxu false:=eo { P:=prog,n:=9,tab:=[(221,zxt)] } (.seq .leaf (.seq .leaf .leaf)) func184 ⟨za6e,trivial⟩
noncomputable def zrl:FSem:=mkE (ArgT.cons tyTSketch ArgT.nil) (Ty.leaf .sl) fun a=>F.zev a.1
theorem za0j:Entry prog 133 zrl false:=eo { P:=prog,n:=52,tab:=[(184,zxu)],rtL:=[(10,1),(17,5),(19,5),(29,5),(34,1)],locL:=[1,5,47] } (.seq .leaf (.seq .leaf (.seq (.seq .leaf (.block (.loop [(3,.leaf (.sl)),(13,.leaf (.int .i64))] (.seq .leaf (.seq (.cond .leaf .leaf) (.seq (.block (.seq .leaf (.seq .leaf (.block (.loop [(3,.leaf (.sl)),(23,.leaf (.int .i64))] (.seq .leaf (.seq (.cond .leaf .leaf) (.join [(3,.leaf (.sl))] (.block (.seq .leaf (.seq .leaf (.seq .leaf (.seq .leaf (.cond .leaf .leaf)))))) .leaf)))))))) .leaf)))))) (.seq .leaf .leaf)))) func133 ⟨za6f,trivial⟩
noncomputable def zxv:FSem:=mkE (ArgT.cons (Ty.leaf .sl) (ArgT.cons (Ty.leaf (.int .i64)) ArgT.nil)) (Ty.leaf .sl) fun a=>F.zbk a.1 a.2.1
theorem za6g:Entry prog 192 zxv false:=eo { P:=prog,n:=27,tab:=[] } (.seq .leaf (.join [] (.seq .leaf (.cond .leaf .leaf)) (.seq (.seq .leaf (.seq .leaf (.cond .leaf .leaf))) (.seq .leaf .leaf)))) func192 trivial
noncomputable def zxw:FSem:=mkE (ArgT.cons (Ty.leaf .sl) ArgT.nil) (Ty.leaf .sl) fun a=>F.zbf a.1
theorem za6h:Entry prog 132 zxw false:=eo { P:=prog,n:=36,tab:=[(192,zxv)] } (.seq .leaf (.seq .leaf (.seq (.seq .leaf (.block (.loop [(3,.leaf (.int .i64)),(11,.leaf (.int .i64))] (.seq .leaf (.seq (.cond .leaf .leaf) (.join [(3,.leaf (.int .i64))] (.block (.seq .leaf (.seq .leaf (.seq .leaf (.cond .leaf .leaf))))) .leaf)))))) (.seq .leaf (.seq (.seq .leaf (.block (.loop [(6,.leaf (.sl)),(27,.leaf (.int .i64))] (.seq .leaf (.seq (.cond .leaf .leaf) (.seq (.block (.seq .leaf .leaf)) .leaf)))))) (.seq .leaf .leaf)))))) func132 ⟨za6g,trivial⟩
noncomputable def zrm:FSem:=mkE (ArgT.cons (Ty.leaf .sl) ArgT.nil) (Ty.leaf .sl) fun a=>F.zd1 a.1
theorem za0k:Entry prog 134 zrm false:=eo { P:=prog,n:=8,tab:=[] } (.seq .leaf (.seq (.seq .leaf (.cond (.seq .leaf .leaf) .leaf)) (.seq .leaf .leaf))) func134 trivial
noncomputable def zxx:FSem:=mkE (ArgT.cons tyTSketch ArgT.nil) (Ty.leaf .ptr) fun a=>F.zel a.1
theorem za6i:Entry prog 57 zxx false:=eo { P:=prog,n:=99,tab:=[(133,zrl),(132,zxw),(134,zrm)],rtL:=[(12,1),(20,1),(32,5),(48,7),(51,7),(63,7),(67,7),(72,7)],locL:=[1,5,7,34,61,84,93] } (.seq .leaf (.seq (.draw [0,1,2,3,4,5,6,7,8,9]) (.seq (.seq .leaf (.block (.loop [(23,.leaf (.int .i64))] (.seq .leaf (.seq (.cond .leaf .leaf) (.seq (.block (.seq .leaf (.draw [0,1,2,3,4,5,6,7,8,9,10,11]))) .leaf)))))) (.seq (.seq .leaf (.block (.loop [(44,.leaf (.int .i64))] (.seq .leaf (.seq (.cond .leaf .leaf) (.seq (.block (.seq .leaf (.seq .leaf (.seq (.seq .leaf (.block (.loop [(8,.leaf (.sl)),(54,.leaf (.int .i64))] (.seq .leaf (.seq (.cond .leaf .leaf) (.join [(8,.leaf (.sl))] (.block (.seq .leaf (.seq .leaf (.seq .leaf (.cond .leaf .leaf))))) .leaf)))))) .leaf)))) .leaf)))))) (.seq .leaf .leaf))))) func57 ⟨za0j,za6h,za0k,trivial⟩
noncomputable def zxy:FSem:=mkE (ArgT.cons (Ty.leaf .ptr) ArgT.nil) (Ty.leaf .sl) fun a=>F.y_henneberg_peeler_all a.1
theorem za6j:Entry prog 136 zxy false:=eo { P:=prog,n:=36,tab:=[],locL:=[17,32] } (.seq .leaf (.seq .leaf (.seq (.seq .leaf (.block (.loop [(3,.leaf (.sl)),(12,.leaf (.int .i64))] (.seq .leaf (.seq (.cond .leaf .leaf) (.seq (.block (.seq .leaf .leaf)) .leaf)))))) (.seq (.seq .leaf (.block (.loop [(3,.leaf (.sl)),(26,.leaf (.int .i64))] (.seq .leaf (.seq (.cond .leaf .leaf) (.seq (.block (.seq .leaf .leaf)) .leaf)))))) (.seq .leaf .leaf))))) func136 trivial
noncomputable def zxz:FSem:=mkE (ArgT.cons (Ty.leaf (.int .i64)) (ArgT.cons (Ty.leaf .ptr) ArgT.nil)) (Ty.leaf .bool) fun a=>F.y_henneberg_peeler_remaining_1 a.1 a.2.1
theorem za6k:Entry prog 141 zxz false:=eo { P:=prog,n:=7,tab:=[(98,zj2)] } (.seq .leaf (.seq .leaf .leaf)) func141 ⟨zke,trivial⟩
noncomputable def zy0:FSem:=mkE (ArgT.cons (Ty.leaf .sl) (ArgT.fnc 141 1 ArgT.nil)) (Ty.leaf (.int .i64)) fun a=>F.zbd a.1 a.2.1
theorem za6l:Entry prog 135 zy0 false:=eo { P:=prog,n:=19,tab:=[(141,zxz)] } (.seq .leaf (.seq (.seq .leaf (.block (.loop [(8,.leaf (.int .i64))] (.seq .leaf (.seq (.cond .leaf .leaf) (.seq (.block (.seq .leaf (.seq .leaf (.cond (.seq .leaf .leaf) .leaf)))) .leaf)))))) (.seq .leaf .leaf))) func135 ⟨za6k,trivial⟩
noncomputable def zy1:FSem:=mkE (ArgT.cons (Ty.leaf .sl) (ArgT.fnc 141 1 ArgT.nil)) (Ty.leaf .bool) fun a=>F.zb6 a.1 a.2.1
theorem za6m:Entry prog 102 zy1 false:=eo { P:=prog,n:=9,tab:=[(135,zy0)] } (.seq .leaf (.seq .leaf .leaf)) func102 ⟨za6l,trivial⟩
noncomputable def zy2:FSem:=mkE (ArgT.cons (Ty.leaf .ptr) (ArgT.cons (Ty.leaf (.int .i64)) (ArgT.cons (Ty.leaf .sl) ArgT.nil))) (Ty.leaf .sl) fun a=>F.y_henneberg_peeler_remaining a.1 a.2.1 a.2.2.1
theorem za6n:Entry prog 60 zy2 false:=eo { P:=prog,n:=35,tab:=[(98,zj2),(102,zy1)],locL:=[31] } (.seq .leaf (.seq .leaf (.seq (.seq .leaf (.block (.loop [(7,.leaf (.sl)),(15,.leaf (.int .i64))] (.seq .leaf (.seq (.cond .leaf .leaf) (.join [(7,.leaf (.sl))] (.block (.seq .leaf (.seq .leaf (.cond .leaf .leaf)))) .leaf)))))) (.seq .leaf .leaf)))) func60 ⟨zke,za6m,trivial⟩
noncomputable def zrn:FSem:=mkE (ArgT.cons (Ty.leaf .ptr) (ArgT.cons (Ty.leaf (.int .i64)) ArgT.nil)) (Ty.leaf (.int .i64)) fun a=>F.y_henneberg_peeler_equations a.1 a.2.1
theorem za0l:Entry prog 140 zrn false:=eo { P:=prog,n:=21,tab:=[(109,e_x58)],rtL:=[(19,5)],locL:=[5] } (.seq .leaf (.seq .leaf (.seq .leaf .leaf))) func140 ⟨t_x58,trivial⟩
noncomputable def zy3:FSem:=mkE (ArgT.cons (Ty.leaf .ptr) (ArgT.cons (Ty.leaf .sl) ArgT.nil)) (Ty.leaf (.int .i64)) fun a=>F.y_henneberg_peeler_weight a.1 a.2.1
theorem za6o:Entry prog 76 zy3 false:=eo { P:=prog,n:=21,tab:=[(140,zrn)] } (.seq .leaf (.seq .leaf (.seq (.seq .leaf (.block (.loop [(5,.leaf (.int .i64)),(10,.leaf (.int .i64))] (.seq .leaf (.seq (.cond .leaf .leaf) (.seq (.block (.seq .leaf .leaf)) .leaf)))))) (.seq .leaf .leaf)))) func76 ⟨za0l,trivial⟩
noncomputable def zy4:FSem:=mkE (ArgT.cons tyTConstraint (ArgT.cons (Ty.leaf .sl) (ArgT.cons (Ty.leaf (.int .i64)) ArgT.nil))) (Ty.leaf .bool) fun a=>F.zis a.1 a.2.1 a.2.2.1
theorem za6p:Entry prog 154 zy4 false:=eo { P:=prog,n:=52,tab:=[(162,zrk),(98,zj2)],rtL:=[(8,3),(14,3),(22,3),(32,3),(37,3),(44,3)],locL:=[3] } (.seq .leaf (.seq .leaf (.seq (.seq .leaf (.cond (.seq .leaf .leaf) .leaf)) (.seq (.seq .leaf (.block (.join [(16,.leaf (.bool))] (.seq .leaf (.cond .leaf .leaf)) (.cond (.seq .leaf .leaf) (.join [(19,.leaf (.bool))] (.seq .leaf (.cond .leaf .leaf)) (.cond (.seq (.draw [0,1,2,3,4,5,6,7,8]) .leaf) (.seq .leaf (.cond (.seq (.draw [0,1,2,3,4,5,6,7,8,9,10,11,12,13,14,15,16,17,18,19,20]) .leaf) .leaf)))))))) (.seq .leaf .leaf))))) func154 ⟨za0i,zke,trivial⟩
noncomputable def zy5:FSem:=mkE (ArgT.cons (Ty.leaf (.int .i64)) (ArgT.cons (Ty.leaf .ptr) (ArgT.cons (Ty.leaf .ptr) ArgT.nil))) (Ty.leaf .bool) fun a=>F.y_henneberg_peeler_removable_1 a.1 a.2.1 a.2.2.1
theorem za6q:Entry prog 153 zy5 false:=eo { P:=prog,n:=20,tab:=[(154,zy4)] } (.seq .leaf (.seq (.draw [0,1,2,3,4,5,6,7,8,9,10,11,12,13,14,15]) .leaf)) func153 ⟨za6p,trivial⟩
noncomputable def zy6:FSem:=mkE (ArgT.cons (Ty.leaf .sl) (ArgT.fnc 153 2 ArgT.nil)) (Ty.leaf (.int .i64)) fun a=>F.zbe a.1 a.2.1
theorem za6r:Entry prog 135 zy6 false:=eo { P:=prog,n:=19,tab:=[(153,zy5)] } (.seq .leaf (.seq (.seq .leaf (.block (.loop [(8,.leaf (.int .i64))] (.seq .leaf (.seq (.cond .leaf .leaf) (.seq (.block (.seq .leaf (.seq .leaf (.cond (.seq .leaf .leaf) .leaf)))) .leaf)))))) (.seq .leaf .leaf))) func135 ⟨za6q,trivial⟩
noncomputable def zy7:FSem:=mkE (ArgT.cons (Ty.leaf .sl) (ArgT.fnc 153 2 ArgT.nil)) (Ty.leaf .bool) fun a=>F.zb7 a.1 a.2.1
theorem za6s:Entry prog 102 zy7 false:=eo { P:=prog,n:=9,tab:=[(135,zy6)] } (.seq .leaf (.seq .leaf .leaf)) func102 ⟨za6r,trivial⟩
noncomputable def zy8:FSem:=mkE (ArgT.cons tyTConstraint (ArgT.cons (Ty.leaf (.int .i64)) ArgT.nil)) (Ty.leaf .sl) fun a=>F.zhl a.1 a.2.1
theorem za6t:Entry prog 207 zy8 false:=eo { P:=prog,n:=25,tab:=[],rtL:=[(8,2)],locL:=[2,21] } (.seq .leaf (.seq .leaf (.seq (.seq .leaf (.block (.loop [(5,.leaf (.sl)),(11,.leaf (.int .i64))] (.seq .leaf (.seq (.cond .leaf .leaf) (.join [(5,.leaf (.sl))] (.block (.seq .leaf (.seq .leaf (.cond .leaf .leaf)))) .leaf)))))) (.seq .leaf .leaf)))) func207 trivial
noncomputable def zy9:FSem:=mkE (ArgT.cons (Ty.leaf (.int .i64)) (ArgT.cons (Ty.leaf .ptr) (ArgT.cons (Ty.leaf .ptr) (ArgT.cons (Ty.leaf .ptr) ArgT.nil)))) (Ty.leaf .bool) fun a=>F.ze4 a.1 a.2.1 a.2.2.1 a.2.2.2.1
theorem za6u:Entry prog 208 zy9 false:=eo { P:=prog,n:=16,tab:=[] } (.seq .leaf (.seq (.draw [0,1,2,3,4,5,6,7,8,9,10]) .leaf)) func208 trivial
noncomputable def zya:FSem:=mkE (ArgT.cons tyTConstraint (ArgT.cons (Ty.leaf .sl) (ArgT.cons (Ty.leaf (.int .i64)) ArgT.nil))) (Ty.leaf (.int .i64)) fun a=>F.zjk a.1 a.2.1 a.2.2.1
theorem za6v:Entry prog 161 zya false:=eo { P:=prog,n:=77,tab:=[(207,zy8),(208,zy9)] } (.seq .leaf (.seq .leaf (.seq .leaf (.seq (.seq .leaf (.block (.seq .leaf (.cond (.seq (.seq .leaf (.cond (.seq .leaf .leaf) .leaf)) (.seq .leaf .leaf)) (.seq .leaf (.cond (.seq (.seq .leaf (.cond (.seq .leaf .leaf) .leaf)) (.seq .leaf .leaf)) (.seq .leaf (.cond (.seq (.seq .leaf (.cond (.seq .leaf .leaf) .leaf)) (.seq .leaf .leaf)) .leaf)))))))) (.seq (.seq .leaf (.cond (.seq .leaf .leaf) .leaf)) (.seq (.seq .leaf (.block (.join [(44,.leaf (.bool))] (.seq .leaf (.cond .leaf .leaf)) (.cond (.seq .leaf .leaf) (.seq .leaf (.cond (.seq .leaf .leaf) (.join [(49,.leaf (.bool))] (.seq .leaf (.cond .leaf (.seq .leaf (.cond .leaf (.seq .leaf (.cond .leaf .leaf)))))) (.cond (.seq .leaf .leaf) (.seq .leaf (.cond (.seq .leaf (.cond (.seq .leaf .leaf) .leaf)) (.seq .leaf (.cond (.seq .leaf (.cond (.seq .leaf .leaf) .leaf)) (.join [(66,.leaf (.bool))] (.seq .leaf (.cond .leaf .leaf)) (.cond (.seq (.seq .leaf (.cond (.seq .leaf .leaf) .leaf)) (.seq .leaf .leaf)) (.seq .leaf (.cond (.seq (.seq .leaf (.cond (.seq .leaf .leaf) .leaf)) (.seq .leaf .leaf)) .leaf)))))))))))))))) (.seq .leaf .leaf))))))) func161 ⟨za6t,za6u,trivial⟩
noncomputable def zyb:FSem:=mkE (ArgT.cons (Ty.leaf .ptr) (ArgT.cons (Ty.leaf (.int .i64)) (ArgT.cons (Ty.leaf (.int .i64)) ArgT.nil))) (Ty.leaf (.int .i64)) fun a=>F.y_henneberg_peeler_kind a.1 a.2.1 a.2.2.1
theorem za6w:Entry prog 139 zyb false:=eo { P:=prog,n:=20,tab:=[(161,zya)] } (.seq .leaf (.seq (.draw [0,1,2,3,4,5,6,7,8,9,10,11,12,13]) .leaf)) func139 ⟨za6v,trivial⟩
noncomputable def zyc:FSem:=mkE (ArgT.cons (Ty.leaf .ptr) (ArgT.cons (Ty.leaf (.int .i64)) (ArgT.cons (Ty.leaf .sl) ArgT.nil))) (Ty.leaf .bool) fun a=>F.y_henneberg_peeler_removable a.1 a.2.1 a.2.2.1
theorem za6x:Entry prog 71 zyc false:=eo { P:=prog,n:=60,tab:=[(98,zj2),(60,zy2),(76,zy3),(102,zy7),(139,zyb),(140,zrn)] } (.seq .leaf (.seq (.seq .leaf (.cond (.seq .leaf .leaf) .leaf)) (.seq .leaf (.seq (.seq .leaf (.cond (.seq .leaf .leaf) .leaf)) (.seq (.seq .leaf (.cond (.seq .leaf .leaf) .leaf)) (.seq (.seq .leaf (.block (.loop [(37,.leaf (.int .i64))] (.seq .leaf (.seq (.cond .leaf .leaf) (.seq (.block (.seq .leaf (.seq .leaf (.join [(11,.leaf (.bool))] .leaf (.join [(11,.leaf (.bool))] (.seq .leaf (.cond .leaf .leaf)) (.seq .leaf (.cond (.seq .leaf .leaf) .leaf))))))) .leaf)))))) (.seq .leaf .leaf))))))) func71 ⟨zke,za6n,za6o,za6s,za6w,za0l,trivial⟩
noncomputable def zyd:FSem:=mkE (ArgT.cons (Ty.leaf (.int .i64)) (ArgT.cons (Ty.leaf .ptr) (ArgT.cons (Ty.leaf .ptr) ArgT.nil))) (Ty.leaf .bool) fun a=>F.y_henneberg_peeler_peel_1 a.1 a.2.1 a.2.2.1
theorem za6y:Entry prog 137 zyd false:=eo { P:=prog,n:=9,tab:=[(71,zyc)] } (.seq .leaf (.seq .leaf .leaf)) func137 ⟨za6x,trivial⟩
noncomputable def zye:FSem:=mkE (ArgT.cons (Ty.leaf .sl) (ArgT.fnc 137 2 ArgT.nil)) (Ty.leaf (.int .i64)) fun a=>F.zb4 a.1 a.2.1
theorem za6z:Entry prog 135 zye false:=eo { P:=prog,n:=19,tab:=[(137,zyd)] } (.seq .leaf (.seq (.seq .leaf (.block (.loop [(8,.leaf (.int .i64))] (.seq .leaf (.seq (.cond .leaf .leaf) (.seq (.block (.seq .leaf (.seq .leaf (.cond (.seq .leaf .leaf) .leaf)))) .leaf)))))) (.seq .leaf .leaf))) func135 ⟨za6y,trivial⟩
noncomputable def zro:FSem:=mkE (ArgT.cons (Ty.leaf (.int .i64)) (ArgT.cons (Ty.leaf .ptr) ArgT.nil)) (Ty.leaf .bool) fun a=>F.y_henneberg_peeler_peel_2 a.1 a.2.1
theorem za0m:Entry prog 138 zro false:=eo { P:=prog,n:=7,tab:=[(98,zj2)] } (.seq .leaf (.seq .leaf .leaf)) func138 ⟨zke,trivial⟩
noncomputable def zyf:FSem:=mkE (ArgT.cons (Ty.leaf .sl) (ArgT.fnc 138 1 ArgT.nil)) (Ty.leaf (.int .i64)) fun a=>F.zbp a.1 a.2.1
theorem za70:Entry prog 135 zyf false:=eo { P:=prog,n:=19,tab:=[(138,zro)] } (.seq .leaf (.seq (.seq .leaf (.block (.loop [(8,.leaf (.int .i64))] (.seq .leaf (.seq (.cond .leaf .leaf) (.seq (.block (.seq .leaf (.seq .leaf (.cond (.seq .leaf .leaf) .leaf)))) .leaf)))))) (.seq .leaf .leaf))) func135 ⟨za0m,trivial⟩
noncomputable def zyg:FSem:=mkM (ArgT.cons (Ty.leaf .sl) (ArgT.fnc 138 1 ArgT.nil)) (Ty.leaf .sl) fun a=>F.zb3 a.1 a.2.1
theorem za71:Entry prog 100 zyg true:=eoM { P:=prog,n:=42,tab:=[(135,zyf),(138,zro)] } (.seq .leaf (.seq .leaf (.seq (.seq .leaf (.cond (.seq .leaf .leaf) .leaf)) (.seq (.seq .leaf (.block (.loop [(5,.leaf (.int .i64)),(6,.leaf (.int .i64))] (.seq (.seq .leaf (.cond .leaf .leaf)) (.join [(5,.leaf (.int .i64))] (.block (.seq .leaf (.seq .leaf (.cond (.seq .leaf .leaf) .leaf)))) .leaf))))) (.seq .leaf (.seq .leaf .leaf)))))) func100 ⟨za70,za0m,trivial⟩
noncomputable def zyh:FSem:=mkE (ArgT.cons (Ty.leaf .ptr) ArgT.nil) (Ty.tup (.cons (Ty.leaf .sl) (.cons (Ty.leaf .sl) .nil)) (fun x=>(x.1,x.2,())) (fun y=>(y.1,y.2.1)) (fun _=>rfl) (fun _=>rfl)) fun a=>F.y_henneberg_peeler_peel a.1
theorem za72:Entry prog 58 zyh false:=eo { P:=prog,n:=27,tab:=[(136,zxy),(135,zye),(100,zyg)],mutL:=[100],locL:=[19] } (.seq .leaf (.seq .leaf (.seq (.block (.loop [(4,.leaf (.ptr))] (.block (.seq .leaf (.seq (.seq .leaf (.cond .leaf .leaf)) (.draw [0,1,3,2,4,5,6,7,8])))))) (.seq .leaf (.seq .leaf .leaf))))) func58 ⟨za6j,za6z,za71,trivial⟩
noncomputable def zrp:FSem:=mkE (ArgT.cons tyTSketch ArgT.nil) (Ty.tup (.cons (Ty.leaf .sl) (.cons (Ty.leaf .sl) .nil)) (fun x=>(x.1,x.2,())) (fun y=>(y.1,y.2.1)) (fun _=>rfl) (fun _=>rfl)) fun a=>F.zep a.1
theorem za0n:Entry prog 19 zrp false:=eo { P:=prog,n:=12,tab:=[(56,zot),(57,zxx),(58,zyh)],locL:=[1] } (.seq .leaf (.seq (.seq .leaf (.cond (.seq .leaf .leaf) .leaf)) (.seq .leaf .leaf))) func19 ⟨zsv,za6i,za72,trivial⟩
end
end Den
end

section
set_option maxRecDepth 100000
namespace Den
open Go Go.Proofs.Tryz
noncomputable section
noncomputable def zrq:FSem:=mkE (ArgT.cons (Ty.leaf .sl) ArgT.nil) (Ty.leaf .sl) fun a=>F.zhr a.1
theorem za0o:Entry prog 196 zrq false:=eo { P:=prog,n:=21,tab:=[] } (.seq .leaf (.seq (.block (.loop [(0,.leaf (.sl))] (.join [] (.seq .leaf (.cond .leaf .leaf)) (.block .leaf)))) (.seq .leaf .leaf))) func196 trivial
noncomputable def zyi:FSem:=mkE (ArgT.cons (Ty.leaf .bool) (ArgT.cons (Ty.leaf .sl) ArgT.nil)) tyTInt fun a=>F.ze6 a.1 a.2.1
theorem za73:Entry prog 199 zyi false:=eo { P:=prog,n:=15,tab:=[(196,zrq)],locL:=[4] } (.seq .leaf (.seq .leaf (.seq .leaf .leaf))) func199 ⟨za0o,trivial⟩
noncomputable def zyj:FSem:=mkE (ArgT.cons (Ty.leaf (.int .u64)) ArgT.nil) (Ty.leaf .sl) fun a=>F.zfr a.1
theorem za74:Entry prog 206 zyj false:=eo { P:=prog,n:=10,tab:=[(196,zrq)] } (.seq .leaf (.seq .leaf .leaf)) func206 ⟨za0o,trivial⟩
noncomputable def zyk:FSem:=mkE (ArgT.cons (Ty.leaf (.int .i64)) ArgT.nil) tyTInt fun a=>F.zfj a.1
theorem za75:Entry prog 160 zyk false:=eo { P:=prog,n:=14,tab:=[(206,zyj),(199,zyi)],locL:=[2] } (.seq .leaf (.seq (.seq .leaf (.cond (.seq .leaf .leaf) .leaf)) (.seq .leaf .leaf))) func160 ⟨za74,za73,trivial⟩
noncomputable def zyl:FSem:=mkE (ArgT.cons (Ty.leaf (.int .i64)) ArgT.nil) tyTRat fun a=>F.zh1 a.1
theorem za76:Entry prog 86 zyl false:=eo { P:=prog,n:=7,tab:=[(160,zyk)],locL:=[2] } (.seq .leaf (.seq .leaf .leaf)) func86 ⟨za75,trivial⟩
end
end Den
end

section
set_option maxRecDepth 100000
namespace Den
open Go Go.Proofs.Tryz
noncomputable section
end
end Den
end

section
set_option maxRecDepth 100000
namespace Den
open Go Go.Proofs.Tryz
noncomputable section
noncomputable def zym:FSem:=mkE (ArgT.cons tyTSketch ArgT.nil) (Ty.leaf .sl) fun a=>F.zhf a.1
theorem za77:Entry prog 107 zym false:=eo { P:=prog,n:=20,tab:=[],rtL:=[(6,1),(14,5)],locL:=[1,5,16] } (.seq .leaf (.seq .leaf (.seq (.seq .leaf (.block (.loop [(3,.leaf (.sl)),(9,.leaf (.int .i64))] (.seq .leaf (.seq (.cond .leaf .leaf) (.seq (.block (.seq .leaf .leaf)) .leaf)))))) (.seq .leaf .leaf)))) func107 trivial
noncomputable def zyn:FSem:=mkE (ArgT.cons (Ty.leaf .sl) ArgT.nil) (Ty.leaf .sl) fun a=>F.zbj a.1
theorem za78:Entry prog 167 zyn false:=eo { P:=prog,n:=8,tab:=[] } (.seq .leaf (.seq (.seq .leaf (.cond (.seq .leaf .leaf) .leaf)) (.seq .leaf .leaf))) func167 trivial
noncomputable def zyo:FSem:=mkE (ArgT.cons tyTSketch ArgT.nil) (Ty.leaf .sl) fun a=>F.zlp a.1
theorem za79:Entry prog 106 zyo false:=eo { P:=prog,n:=9,tab:=[(167,zyn),(133,zrl)],rtL:=[(3,1)],locL:=[1] } (.seq .leaf (.seq (.draw [0,1,3,2,4,5,6]) .leaf)) func106 ⟨za78,za0j,trivial⟩
noncomputable def zyp:FSem:=mkE (ArgT.cons tyTConstraint (ArgT.cons (Ty.leaf .sl) ArgT.nil)) (Ty.leaf .sl) fun a=>F.zji a.1 a.2.1
theorem za7a:Entry prog 108 zyp false:=eo { P:=prog,n:=38,tab:=[(134,zrm)],rtL:=[(8,2),(11,2),(23,2)],locL:=[2,21,34] } (.seq .leaf (.seq .leaf (.seq (.seq .leaf (.block (.loop [(5,.leaf (.sl)),(14,.leaf (.int .i64))] (.seq .leaf (.seq (.cond .leaf .leaf) (.join [(5,.leaf (.sl))] (.block (.seq .leaf (.seq .leaf (.seq .leaf (.block (.join [(25,.leaf (.bool))] (.seq .leaf (.cond .leaf (.seq .leaf (.cond .leaf .leaf)))) (.cond .leaf .leaf))))))) .leaf)))))) (.seq .leaf .leaf)))) func108 ⟨za0k,trivial⟩
noncomputable def zyq:FSem:=mkE (ArgT.cons (Ty.leaf (.int .i64)) (ArgT.cons (Ty.leaf .ptr) ArgT.nil)) (Ty.leaf .bool) fun a=>F.zjc a.1 a.2.1
theorem za7b:Entry prog 156 zyq false:=eo { P:=prog,n:=8,tab:=[(98,zj2)] } (.seq .leaf (.seq .leaf .leaf)) func156 ⟨zke,trivial⟩
noncomputable def zyr:FSem:=mkE (ArgT.cons (Ty.leaf .sl) (ArgT.fnc 156 1 ArgT.nil)) (Ty.leaf (.int .i64)) fun a=>F.zcd a.1 a.2.1
theorem za7c:Entry prog 135 zyr false:=eo { P:=prog,n:=19,tab:=[(156,zyq)] } (.seq .leaf (.seq (.seq .leaf (.block (.loop [(8,.leaf (.int .i64))] (.seq .leaf (.seq (.cond .leaf .leaf) (.seq (.block (.seq .leaf (.seq .leaf (.cond (.seq .leaf .leaf) .leaf)))) .leaf)))))) (.seq .leaf .leaf))) func135 ⟨za7b,trivial⟩
noncomputable def zys:FSem:=mkE (ArgT.cons (Ty.leaf .sl) (ArgT.fnc 156 1 ArgT.nil)) (Ty.leaf .bool) fun a=>F.zc6 a.1 a.2.1
theorem za7d:Entry prog 102 zys false:=eo { P:=prog,n:=9,tab:=[(135,zyr)] } (.seq .leaf (.seq .leaf .leaf)) func102 ⟨za7c,trivial⟩
noncomputable def zyt:FSem:=mkE (ArgT.cons tyTSketch (ArgT.cons (Ty.leaf .sl) ArgT.nil)) (Ty.leaf .sl) fun a=>F.zim a.1 a.2.1
theorem za7e:Entry prog 77 zyt false:=eo { P:=prog,n:=33,tab:=[(107,zym),(106,zyo),(108,zyp),(102,zys)],locL:=[2,8,29] } (.seq .leaf (.seq .leaf (.seq .leaf (.seq (.seq .leaf (.block (.loop [(5,.leaf (.sl)),(15,.leaf (.int .i64))] (.seq .leaf (.seq (.cond .leaf .leaf) (.join [(5,.leaf (.sl))] (.block (.seq .leaf (.seq .leaf (.seq .leaf (.cond .leaf .leaf))))) .leaf)))))) (.seq .leaf .leaf))))) func77 ⟨za77,za79,za7a,za7d,trivial⟩
noncomputable def zrr:FSem:=mkE (ArgT.cons tyTSketch ArgT.nil) (Ty.tup (.cons (Ty.leaf .sl) (.cons (Ty.leaf .sl) .nil)) (fun x=>(x.1,x.2,())) (fun y=>(y.1,y.2.1)) (fun _=>rfl) (fun _=>rfl)) fun a=>F.zj1 a.1
theorem za0p:Entry prog 34 zrr false:=eo { P:=prog,n:=21,tab:=[(56,zot),(19,zrp),(77,zyt)],locL:=[1] } (.seq .leaf (.seq (.seq .leaf (.cond (.seq .leaf .leaf) .leaf)) (.seq .leaf (.seq (.seq .leaf (.cond (.seq .leaf .leaf) .leaf)) (.seq .leaf .leaf))))) func34 ⟨zsv,za0n,za7e,trivial⟩
noncomputable def zyu:FSem:=mkE (ArgT.cons (Ty.leaf .sl) (ArgT.cons (Ty.leaf (.int .i64)) ArgT.nil)) (Ty.leaf .bool) fun a=>F.zm2 a.1 a.2.1
theorem za7f:Entry prog 83 zyu false:=eo { P:=prog,n:=18,tab:=[] } (.seq .leaf (.seq (.seq .leaf (.block (.loop [(5,.leaf (.int .i64))] (.seq (.seq .leaf (.cond .leaf .leaf)) (.seq (.block (.seq .leaf (.cond (.seq .leaf .leaf) .leaf))) .leaf))))) (.seq .leaf .leaf))) func83 trivial
noncomputable def zyv:FSem:=mkE (ArgT.cons (Ty.leaf .sl) (ArgT.cons (Ty.leaf (.int .i64)) ArgT.nil)) (Ty.leaf .sl) fun a=>F.zh3 a.1 a.2.1
theorem za7g:Entry prog 84 zyv false:=eo { P:=prog,n:=27,tab:=[],locL:=[24] } (.seq .leaf (.seq .leaf (.seq (.seq .leaf (.block (.loop [(5,.leaf (.sl)),(6,.leaf (.int .i64))] (.seq (.seq .leaf (.cond .leaf .leaf)) (.join [(5,.leaf (.sl))] (.block (.seq .leaf (.cond .leaf .leaf))) .leaf))))) (.seq .leaf .leaf)))) func84 trivial
noncomputable def zyw:FSem:=mkE (ArgT.cons (Ty.leaf .sl) (ArgT.cons (Ty.leaf .sl) ArgT.nil)) (Ty.leaf .bool) fun a=>F.zm1 a.1 a.2.1
theorem za7h:Entry prog 81 zyw false:=eo { P:=prog,n:=26,tab:=[] } (.seq .leaf (.seq (.seq .leaf (.cond (.seq .leaf .leaf) .leaf)) (.seq (.seq .leaf (.block (.loop [(5,.leaf (.int .i64))] (.seq (.seq .leaf (.cond .leaf .leaf)) (.seq (.block (.seq (.draw [0,1,2,3,4,5,6,7,8]) (.cond (.seq .leaf .leaf) .leaf))) .leaf))))) (.seq .leaf .leaf)))) func81 trivial
noncomputable def zhg:FSem:=mkE (ArgT.cons (Ty.leaf .sl) (ArgT.cons (Ty.leaf .sl) ArgT.nil)) (Ty.leaf .bool) fun a=>F.zee a.1 a.2.1
theorem zkc:Entry prog 36 zhg false:=eo { P:=prog,n:=8,tab:=[(81,zyw)] } (.seq .leaf (.seq .leaf .leaf)) func36 ⟨za7h,trivial⟩
noncomputable def zyx:FSem:=mkE (ArgT.cons tyTSketch ArgT.nil) (Ty.leaf .bool) fun a=>F.zeb a.1
theorem za7i:Entry prog 37 zyx false:=eo { P:=prog,n:=16,tab:=[(56,zot),(19,zrp)],locL:=[1] } (.seq .leaf (.seq (.seq .leaf (.cond (.seq .leaf .leaf) .leaf)) (.seq .leaf (.seq .leaf .leaf)))) func37 ⟨zsv,za0n,trivial⟩
noncomputable def zje:FSem:=mkE ArgT.nil tyTExpr fun a=>F.zfq
theorem zme:Entry prog 43 zje false:=eo { P:=prog,n:=3,tab:=[(86,zyl)],locL:=[0] } (.seq .leaf (.seq .leaf .leaf)) func43 ⟨za76,trivial⟩
noncomputable def zrs:FSem:=mkE (ArgT.cons tyTGraph (ArgT.cons tyTExpr ArgT.nil)) tyTSketch fun a=>F.zgm a.1 a.2.1
theorem za0q:Entry prog 42 zrs false:=eo { P:=prog,n:=53,tab:=[],rtL:=[(9,2),(14,5),(16,3),(18,3),(23,5),(25,2),(31,5),(33,2),(39,2),(51,5)],locL:=[2,3,4,5,21,49] } (.seq .leaf (.seq .leaf (.seq (.seq .leaf (.block (.loop [(5,.box [.sl,.sl,.sl,.sl,.sl,.sl]),(6,.leaf (.int .i64))] (.seq (.seq .leaf (.cond .leaf .leaf)) (.seq (.block .leaf) .leaf))))) (.seq (.seq .leaf (.block (.loop [(5,.box [.sl,.sl,.sl,.sl,.sl,.sl]),(7,.leaf (.int .i64))] (.seq (.seq .leaf (.cond .leaf .leaf)) (.seq (.block (.draw [0,1,2,3,4,5,6,7,8,9,10,11,12,13,15,14,16,17,18,19,20,21])) .leaf))))) (.seq .leaf .leaf))))) func42 trivial
noncomputable def zyy:FSem:=mkE (ArgT.cons (Ty.leaf (.int .i64)) (ArgT.cons (Ty.leaf (.int .i64)) ArgT.nil)) (Ty.leaf .bool) fun a=>F.zj5 a.1 a.2.1
theorem za7j:Entry prog 158 zyy false:=eo { P:=prog,n:=12,tab:=[] } (.seq .leaf (.seq .leaf .leaf)) func158 trivial
noncomputable def zyz:FSem:=mkE (ArgT.cons (Ty.leaf .sl) ArgT.nil) (Ty.leaf (.int .i64)) fun a=>F.zlo a.1
theorem za7k:Entry prog 205 zyz false:=eo { P:=prog,n:=18,tab:=[] } (.seq .leaf (.seq .leaf (.seq (.seq .leaf (.block (.loop [(8,.leaf (.int .i64))] (.seq .leaf (.seq (.cond .leaf .leaf) (.seq (.block (.seq .leaf (.seq .leaf (.cond (.seq .leaf .leaf) .leaf)))) .leaf)))))) (.seq .leaf .leaf)))) func205 trivial
noncomputable def zz0:FSem:=mkE (ArgT.cons zm5 (ArgT.cons zm5 ArgT.nil)) (Ty.leaf (.int .i64)) fun a=>F.zgy a.1 a.2.1
theorem za7l:Entry prog 159 zz0 false:=eo { P:=prog,n:=17,tab:=[(163,e_x13),(205,zyz)],rtL:=[(5,2),(7,3),(10,2),(12,3)],locL:=[2,3] } (.seq .leaf (.seq (.draw [0,1,2,3,5,6,7,8,4,9,10,11,12]) .leaf)) func159 ⟨t_x13,za7k,trivial⟩
end
end Den
end

section
set_option maxRecDepth 100000
namespace Den
open Go Go.Proofs.Tryz
noncomputable section
noncomputable def zz1:FSem:=mkE (ArgT.cons tyTGraph ArgT.nil) (Ty.leaf .bool) fun a=>F.zio a.1
theorem za7m:Entry prog 82 zz1 false:=eo { P:=prog,n:=58,tab:=[(158,zyy),(159,zz0)],rtL:=[(5,1),(9,1),(13,1),(21,1),(23,4),(28,1),(30,4),(36,4),(38,4),(46,1)],locL:=[1,4] } (.seq .leaf (.join [] (.seq .leaf (.cond (.seq .leaf .leaf) .leaf)) (.seq (.seq .leaf (.block (.loop [(16,.leaf (.int .i64))] (.seq .leaf (.seq (.cond .leaf .leaf) (.join [] (.block (.seq .leaf (.seq (.draw [0,1,2,3,4,5,6,7,8,9,10,11,12,13,14,15,16,17,18,19,20,21,22,23,24,25,26,27,28,29,30,31,32,33,34,35]) (.cond (.seq .leaf .leaf) .leaf)))) .leaf)))))) (.seq .leaf .leaf)))) func82 ⟨za7j,za7l,trivial⟩
noncomputable def zou:FSem:=mkE (ArgT.cons tyTGraph ArgT.nil) (Ty.leaf .sl) fun a=>F.zf3 a.1
theorem zsw:Entry prog 39 zou false:=eo { P:=prog,n:=94,tab:=[(82,zz1)],rtL:=[(14,1),(18,1),(21,1),(29,7),(36,7),(43,7),(50,7)],locL:=[1,7,90] } (.seq .leaf (.seq (.seq .leaf (.cond (.seq .leaf .leaf) .leaf)) (.seq .leaf (.seq (.seq .leaf (.block (.loop [(4,.leaf (.bool))] (.seq (.seq .leaf (.cond .leaf .leaf)) (.block (.seq .leaf (.seq .leaf (.seq (.seq .leaf (.block (.loop [(24,.leaf (.int .i64))] (.seq .leaf (.seq (.cond .leaf .leaf) (.join [] (.block (.seq .leaf (.seq .leaf (.cond (.seq .leaf .leaf) .leaf)))) .leaf)))))) (.seq .leaf (.block (.loop [(4,.leaf (.bool)),(59,.leaf (.int .i64))] (.seq .leaf (.seq (.cond .leaf .leaf) (.join [(4,.leaf (.bool))] (.block (.seq .leaf (.seq .leaf (.cond .leaf .leaf)))) .leaf)))))))))))))) (.seq .leaf (.seq (.seq .leaf (.block (.loop [(9,.leaf (.sl)),(80,.leaf (.int .i64))] (.seq .leaf (.seq (.cond .leaf .leaf) (.join [(9,.leaf (.sl))] (.block (.seq .leaf (.seq .leaf (.cond .leaf .leaf)))) .leaf)))))) (.seq .leaf .leaf))))))) func39 ⟨za7m,trivial⟩
noncomputable def zjd:FSem:=mkE ArgT.nil (Ty.leaf .bool) fun a=>F.zcl
theorem zmd:Entry prog 32 zjd false:=eo { P:=prog,n:=51,tab:=[(43,zje),(42,zrs),(34,zrr),(36,zhg),(37,zyx),(39,zou)],locL:=[1,2] } (.seq .leaf (.seq .leaf (.seq .leaf (.seq (.draw [0,1,2,3,4,5,6,7,8]) (.seq (.draw [0,1,2,3,4,5,6,7,8,9,10,11,12,13,14,15,16,17,18,19,20,21,22,23,24,25,26]) .leaf))))) func32 ⟨zme,za0q,za0p,zkc,za7i,zsw,trivial⟩
noncomputable def zz2:FSem:=mkE (ArgT.cons zm5 (ArgT.cons zm5 ArgT.nil)) (Ty.leaf .bool) fun a=>F.zhs a.1 a.2.1
theorem za7n:Entry prog 85 zz2 false:=eo { P:=prog,n:=24,tab:=[],rtL:=[(5,2),(7,3),(11,2),(13,3),(17,2),(19,3)],locL:=[2,3] } (.seq .leaf (.seq .leaf .leaf)) func85 trivial
noncomputable def zov:FSem:=mkE (ArgT.cons tyTGraph ArgT.nil) (Ty.leaf .bool) fun a=>F.zfs a.1
theorem zsx:Entry prog 41 zov false:=eo { P:=prog,n:=57,tab:=[(85,zz2)],rtL:=[(5,1),(9,1),(14,1),(20,1),(25,4),(29,4),(31,4),(36,4),(38,1),(46,1)],locL:=[1,4] } (.seq .leaf (.join [] (.seq .leaf (.cond (.seq .leaf .leaf) .leaf)) (.seq (.seq .leaf (.block (.loop [(3,.leaf (.int .i64))] (.seq (.seq .leaf (.cond .leaf .leaf)) (.join [] (.block (.seq .leaf (.seq (.draw [0,1,2,3,4,5,6,7,8,9,10,11,12,13,14,15,16,17,18,19,20,21,22,23,24,25,26,27,28,29,30,31]) (.cond (.seq .leaf .leaf) .leaf)))) .leaf))))) (.seq .leaf .leaf)))) func41 ⟨za7n,trivial⟩
noncomputable def zz3:FSem:=mkE (ArgT.cons tyTGraph ArgT.nil) (Ty.leaf .sl) fun a=>F.zit a.1
theorem za7o:Entry prog 40 zz3 false:=eo { P:=prog,n:=82,tab:=[(41,zov),(83,zyu),(84,zyv)],rtL:=[(13,1),(30,1),(36,1),(42,8),(47,8),(52,8),(60,8)],locL:=[1,8,20] } (.seq .leaf (.seq (.seq .leaf (.cond (.seq .leaf .leaf) .leaf)) (.seq .leaf (.seq (.seq .leaf (.block (.loop [(3,.leaf (.sl)),(4,.leaf (.int .i64))] (.seq (.seq .leaf (.cond .leaf .leaf)) (.seq (.block .leaf) .leaf))))) (.seq (.seq .leaf (.block (.loop [(3,.leaf (.sl)),(5,.leaf (.int .i64))] (.seq (.seq .leaf (.cond .leaf .leaf)) (.join [(3,.leaf (.sl)),(5,.leaf (.int .i64))] (.block (.seq .leaf (.seq (.seq .leaf (.block (.loop [(6,.leaf (.int .i64)),(7,.leaf (.int .i64))] (.seq (.seq .leaf (.cond .leaf .leaf)) (.join [(6,.leaf (.int .i64))] (.block (.seq .leaf (.seq (.draw [0,1,2,3,4,5,6,7,8,9,10,11,12,13,14,15,16,17,18,19,20,21,22,23,24,25,26,27]) (.cond .leaf .leaf)))) .leaf))))) (.seq .leaf (.cond (.seq .leaf .leaf) .leaf))))) .leaf))))) (.seq .leaf .leaf)))))) func40 ⟨zsx,za7f,za7g,trivial⟩
noncomputable def zz4:FSem:=mkE (ArgT.cons tyTGraph ArgT.nil) (Ty.leaf .bool) fun a=>F.zkt a.1
theorem za7p:Entry prog 38 zz4 false:=eo { P:=prog,n:=7,tab:=[],rtL:=[(3,1)],locL:=[1] } (.seq .leaf (.seq .leaf .leaf)) func38 trivial
noncomputable def znf:FSem:=mkE (ArgT.cons tyTGraph ArgT.nil) (Ty.leaf .bool) fun a=>F.zhj a.1
theorem za13:Entry prog 11 znf false:=eo { P:=prog,n:=16,tab:=[(39,zou),(40,zz3),(36,zhg),(32,zjd),(38,zz4)],locL:=[1] } (.seq .leaf (.join [] (.seq .leaf (.cond (.seq .leaf .leaf) .leaf)) (.seq (.draw [0,2,1,3,4,5]) .leaf))) func11 ⟨zsw,za7o,zkc,zmd,za7p,trivial⟩
noncomputable def zz5:FSem:=mkE (ArgT.cons (Ty.leaf .sl) (ArgT.cons (Ty.leaf (.int .i64)) ArgT.nil)) (Ty.leaf .bool) fun a=>F.zod a.1 a.2.1
theorem za7q:Entry prog 87 zz5 false:=eo { P:=prog,n:=18,tab:=[] } (.seq .leaf (.seq (.seq .leaf (.block (.loop [(5,.leaf (.int .i64))] (.seq (.seq .leaf (.cond .leaf .leaf)) (.seq (.block (.seq .leaf (.cond (.seq .leaf .leaf) .leaf))) .leaf))))) (.seq .leaf .leaf))) func87 trivial
noncomputable def zz6:FSem:=mkE (ArgT.cons tyTGraph (ArgT.cons (Ty.leaf .sl) ArgT.nil)) (Ty.leaf .sl) fun a=>F.zh2 a.1 a.2.1
theorem za7r:Entry prog 44 zz6 false:=eo { P:=prog,n:=45,tab:=[(41,zov),(87,zz5)],rtL:=[(8,2),(18,2),(28,2),(37,2)],locL:=[2,42] } (.seq .leaf (.seq .leaf (.seq (.seq .leaf (.block (.loop [(5,.leaf (.sl)),(6,.leaf (.int .i64))] (.seq (.seq .leaf (.cond .leaf .leaf)) (.join [(5,.leaf (.sl))] (.block (.seq .leaf (.cond .leaf .leaf))) .leaf))))) (.seq .leaf .leaf)))) func44 ⟨zsx,za7q,trivial⟩
noncomputable def zo5:FSem:=mkE (ArgT.cons tyTGraph ArgT.nil) (Ty.leaf .bool) fun a=>F.zi1 a.1
theorem za2n:Entry prog 12 zo5 false:=eo { P:=prog,n:=46,tab:=[(43,zje),(42,zrs),(34,zrr),(44,zz6),(39,zou),(36,zhg),(32,zjd),(41,zov)],rtL:=[(14,1),(19,1)],locL:=[1] } (.seq .leaf (.join [] (.seq .leaf (.cond (.seq .leaf .leaf) .leaf)) (.seq (.draw [0,1,2,3,4,5,6,7,8]) (.seq .leaf (.seq .leaf .leaf))))) func12 ⟨zme,za0q,za0p,za7r,zsw,zkc,zmd,zsx,trivial⟩
end
end Den
end

section
set_option maxRecDepth 100000
namespace Den
open Go Go.Proofs.Tryz
noncomputable section
end
end Den
end

section
namespace Den
open Go Iv Lx
def bc (b:Bool):Value:=.bool b
theorem zlv {α:Type} {f:α→Value}:∀ys:List α,ys.map f=ys.flatMap fun z=>[f z]
 | []=>rfl
 | a :: r=>by rw [List.map_cons,List.flatMap_cons,zlv r]; rfl
def gl (gn:List Bool):List Int:=((List.range gn.length).filter fun i=>!(gn.getD i true)).map fun i:Nat=>(i:Int)
theorem zl9 {gn:List Bool} {x:Int}:x∈gl gn↔∃i:Nat,x=i∧∃h:i<gn.length,gn[i]=false:=by
 unfold gl
 rw [List.mem_map]
 constructor
 · rintro ⟨i,hi,rfl⟩
   rw [List.mem_filter,List.mem_range] at hi
   refine ⟨i,rfl,hi.1,?_⟩
   have:=hi.2
   rw [zbm hi.1] at this
   simpa using this
 · rintro ⟨i,rfl,hi,hg⟩
   refine ⟨i,List.mem_filter.2 ⟨List.mem_range.2 hi,?_⟩,rfl⟩
   rw [zbm hi,hg]; rfl
theorem zef {gn:List Bool} {i:Nat} (hi:i<gn.length):(i:Int)∈gl gn↔gn[i]=false:=by
 rw [zl9]
 constructor
 · rintro ⟨j,hj,h1,h2⟩
   have:j=i:=by omega
   subst this; exact h2
 · intro h; exact ⟨i,rfl,hi,h⟩
theorem za55 {gn:List Bool} {N:Nat} (hN:gn.length=N):gl gn=(rngI N).filter fun x=>decide (x∈gl gn):=by
 conv=>lhs; unfold gl
 unfold rngI
 rw [List.filter_map,hN]
 congr 1
 refine List.filter_congr fun i hi=>?_
 have hi':i<gn.length:=by rw [hN]; exact List.mem_range.1 hi
 rw [Bool.eq_iff_iff,Function.comp_apply,decide_eq_true_iff,zef hi',zbm hi']
 simp
def cntF (gn:List Bool):Nat:=gn.countP fun b=>!b
theorem za1d {gn:List Bool}:∀{i:Nat} (hi:i<gn.length),gn[i]=false→cntF (gn.set i true)+1=cntF gn:=by
 induction gn with
 | nil=>intro i hi; simp at hi
 | cons a r ih=>
   intro i hi hg
   cases i with
   | zero=>
     simp only [List.getElem_cons_zero] at hg
     subst hg
     simp [cntF]
   | succ i=>
     have:=ih (i:=i) (by simpa using hi) (by simpa using hg)
     unfold cntF at this ⊢
     simp only [List.set_cons_succ,List.countP_cons]
     omega
section
variable {h D : Hp} {g : TGraph} {es : List (Int × Int)} {l m : Sl} {gn : List Bool} {ds : List Int} {Kb : Bool → Hp → Prop} {Ki : Int → Hp → Prop} {Ks : Sl → Hp → Prop}
def OB (D h:Hp) (l:Sl) (gn:List Bool):Prop:=Own D h 1 l (gn.map bc)
theorem OB.len (ho:OB D h l gn):l.len=gn.length:=by have:=ho.2.1; simp at this; omega
theorem OB.get {i:Int} {K:Bool→Prop} (ho:OB D h l gn) (k:Nat) (hi:i=k) (hk:k<gn.length) (H:K gn[k]):idxP l i 1 fun a=>ldL .bool a K h:=by
 have hr:Rd h 1 l (gn.flatMap fun z=>[bc z]):=by rw [←zlv]; exact ho.rd
 refine rd_el (c:=fun z:Bool=>[bc z]) (n:=1) (fun _=>rfl) (by decide) hr k hi hk fun a ha=>?_
 have:=ha 0 _ (by decide) rfl
 rw [zbq] at this
 exact ⟨_,this,H⟩
theorem OB.set {i:Int} {v:Bool} {K:Hp→Prop} (k:Nat) (ho:OB D h l gn) (hi:i=k) (hk:k<gn.length) (H:∀h',OB D h' l (gn.set k v)→(∀j,(∀a,l.a=some a→j≠a.block)→h' j=h j)→K h'):idxP l i 1 fun a=>stP a [.bool v] K h:=by
 unfold OB at ho
 rw [zlv] at ho
 refine zv1 (c:=fun z:Bool=>[bc z]) (n:=1) (fun _=>rfl) (by decide) k ho hi hk rfl fun h' h1 h2=>H h' ?_ h2
 unfold OB
 rw [zlv]; exact h1
theorem zog {α:Type} {f:α→Value} {x:α}:∀n,repl n [f x]=(List.replicate n x).map f
 | 0=>rfl
 | n+1=>by
   have:=zog (f:=f) (x:=x) n
   unfold repl at this ⊢
   rw [List.replicate_succ,List.flatten_cons,this,List.replicate_succ,List.map_cons]
   rfl
theorem za3n {h':Hp} {n1 n2:Nat} {cs1 cs2:List Value} (h1:Own D h n1 l cs1) (h2:Own h h' n2 m cs2):Apt l m:=fun a b ha hb hh=>by
 have h3:=za23 h2 hb
 obtain ⟨_,_,_,g4⟩:=h1
 rw [ha] at g4
 obtain ⟨_,_,_,x,g5,_⟩:=g4
 rw [←hh,g5] at h3; cases h3
def degs (es:List (Int×Int)) (T:List Int) (N:Nat):List Int:=(List.range N).map fun i:Nat=>((degL es T (i:Int):Nat):Int)
theorem zlq {es:List (Int×Int)} {T:List Int} {N i:Nat} (hi:i<N):(degs es T N)[i]?=some ((degL es T (i:Int):Nat):Int):=by
 unfold degs
 rw [List.getElem?_map,List.getElem?_range hi]
 rfl
theorem zd9 {es:List (Int×Int)} {T:List Int} {N:Nat}:(degs es T N).length=N:=by simp [degs]
theorem za1k {es:List (Int×Int)} {T:List Int} {N:Nat} {e:Int×Int} (hn:¬(e.1∈T∧e.2∈T)):degs (es++[e]) T N=degs es T N:=by
 unfold degs
 refine List.map_congr_left fun i _=>?_
 rw [zkj,if_neg (fun hh=>hn ⟨hh.1,hh.2.1⟩)]
 rfl
theorem za38 {es:List (Int×Int)} {T:List Int} {N a b:Nat} (ha:a<N) (hb:b<N) (hab:a≠b) (hT:(a:Int)∈T∧(b:Int)∈T) :
 ((degs es T N).set a (((degL es T (a:Int):Nat):Int)+1)).set b (((degL es T (b:Int):Nat):Int)+1)=degs (es++[((a:Int),(b:Int))]) T N:=by
 refine List.ext_getElem? fun i=>?_
 rcases Nat.lt_or_ge i N with h1 | h1
 · rw [zlq h1,zkj]
   simp only [hT.1,hT.2,true_and]
   rw [List.getElem?_set]
   by_cases hib:b=i
   · subst hib
     rw [if_pos rfl,if_pos (by simp [zd9]; exact h1),if_pos (.inr rfl)]
     rfl
   · rw [if_neg hib,List.getElem?_set]
     by_cases hia:a=i
     · subst hia
       rw [if_pos rfl,if_pos (by simp [zd9]; exact h1),if_pos (.inl rfl)]
       rfl
     · rw [if_neg hia,zlq h1,if_neg (by omega)]
       rfl
 · rw [List.getElem?_eq_none (by simp [zd9]; exact h1),List.getElem?_eq_none (by rw [zd9]; exact h1)]
theorem zjh (hg:LR a2c 2 A2P h g.edges es) (hlen:es.length≤1000000) (H0:∀h',h.le h'→¬GV g.n es→Ks nilS h') (H:∀y T h',h.le h'→GV g.n es→IL h' y T→IsCore g.n.toNat es T→Ks y h'):callP (F.zf3 g) Ks h:=by
 refine za0 (fun y h'=>(¬GV g.n es∧y=nilS)∨(GV g.n es∧∃T,IL h' y T∧IsCore g.n.toNat es T)) (fun K' hk=>?_) fun y h' hl hb=>by
  rcases hb with ⟨h1,rfl⟩ | ⟨h1,T,h2,h3⟩
  · exact H0 h' hl h1
  · exact H y T h' hl h1 h2 h3
 unfold F.zf3
 refine ztv hg (by omega) fun b h1 hl1 hb=>?_
 refine za7 (fun h2=>hk _ _ hl1 (.inl ⟨fun hv=>(by rw [hb.2 hv] at h2; cases h2),rfl⟩)) (fun h2=>?_)
 have hv:=hb.1 (by simpa using h2)
 obtain ⟨N,hN⟩:∃N:Nat,g.n=N:=⟨g.n.toNat,by have:=hv.1.1; omega⟩
 have hN60:N≤60:=by have:=hv.1.2; omega
 rw [hN,show ((N:Nat):Int).toNat=N from rfl] at hk
 rw [hN] at hv
 rw [hN]
 have hgl:=hg.len zaz
 have hes:=hv.2.1
 refine zs7 (size:=1) N N rfl rfl (Nat.le_refl _) (by omega) (by omega) rfl fun m2 h3 hm2 _ ho3=>?_
 have ho3:OB h1 h3 m2 (List.replicate N false):=by unfold OB; rw [←zog]; exact ho3
 refine zn7 (fun f st h'=>∃gn:List Bool,OB h1 h' m2 gn∧gn.length=N∧(∀C:List Int,(∀x∈C,0≤x∧x<N)→(∀x∈C,3≤degL es C x)→∀x∈C,x∈gl gn) ∧
  (st.1=false→∀x∈gl gn,3≤degL es (gl gn) x)∧cntF gn*2+(if st.1=true then 1 else 0)≤f) (n0:=cntF (List.replicate N false)*2+1)
  ⟨_,ho3,by simp,fun C hC _ x hx=>?_,fun hh=>(by cases hh),by simp⟩ ?_
 · obtain ⟨c1,c2⟩:=hC x hx
   obtain ⟨i,rfl⟩:∃i:Nat,x=i:=⟨x.toNat,by omega⟩
   rw [zef (by simp; omega)]
   simp
 rintro f ⟨ch,_⟩ h4 ⟨gn,ho,hgn,hgr,hst,hf⟩ K2 hK2
 simp only at hst hf
 have hle4:=Hp.le_trans hl1 ho.1
 have hml:=ho.len
 refine za7 (fun h5=>?_) (fun h5=>?_)
 ·
  simp only at h5
  rw [if_pos h5] at hf
  refine zs7 (size:=1) N N rfl rfl (Nat.le_refl _) (by omega) (by omega) rfl fun m5 h6 hm5 _ ho6=>?_
  have ho6:OI h4 h6 m5 (degs [] (gl gn) N):=by
   have e:degs [] (gl gn) N=List.replicate N 0:=by
    unfold degs
    refine List.ext_getElem (by simp) fun i h1 h2=>?_
    simp [degL]
   unfold OI
   rw [e,←zog]; exact ho6
  refine zdy (n:=es.length) (by omega) (fun i h'=>OI h4 h' m5 (degs (es.take i) (gl gn) N)) (by simpa using ho6) ?_
  intro q h7 hq ho7 k hk2
  have hle7:=Hp.le_trans hle4 ho7.dle
  have hob7:OB h1 h7 m2 gn:=Own.le ho ho7.dle
  refine za1 (fun h8=>?_) (fun h8=>?_)
  · have hq':q<es.length:=by simp only at h8; omega
    have heq:=hes _ (List.getElem_mem hq')
    obtain ⟨a,ha⟩:∃a:Nat,es[q].1=a:=⟨es[q].1.toNat,by omega⟩
    obtain ⟨b,hb'⟩:∃b:Nat,es[q].2=b:=⟨es[q].2.toNat,by omega⟩
    have haN:a<N:=by omega
    have hbN:b<N:=by omega
    have hst:es.take (q+1)=es.take q++[es[q]]:=(List.take_append_getElem hq').symm
    refine za5 (fun _ h'=>OI h4 h' m5 (degs (es.take (q+1)) (gl gn) N)) (fun _ h' hh=>hk2 _ hq' hh) ?_
    refine (hg.le zaz hle7).get zaz q rfl hq' fun a10 x hxx hcx=>⟨_,hcx 0 _ rfl,_,hcx 1 _ rfl,?_⟩
    obtain ⟨x1,x2⟩:=hxx
    rw [x1,x2,ha,hb']
    have same:¬(es[q].1∈gl gn∧es[q].2∈gl gn)→OI h4 h7 m5 (degs (es.take (q+1)) (gl gn) N):=fun hn=>by rw [hst,za1k hn]; exact ho7
    refine hob7.get a rfl (by omega) ?_
    refine za7 (fun h9=>?_) (fun h9=>same fun hh=>?_)
    · refine hob7.get b rfl (by omega) ?_
      refine za7 (fun h10=>?_) (fun h10=>same fun hh=>?_)
      · have hT:(a:Int)∈gl gn∧(b:Int)∈gl gn:=⟨(zef (by omega)).2 (by simpa using h9),(zef (by omega)).2 (by simpa using h10)⟩
        have hdl:∀i,degL (es.take q) (gl gn) i≤es.length:=fun i=>Nat.le_trans zui (by rw [List.length_take]; omega)
        have hga:∀{i:Nat} (hi:i<N) (hh:i<(degs (es.take q) (gl gn) N).length),(degs (es.take q) (gl gn) N)[i]=((degL (es.take q) (gl gn) (i:Int):Nat):Int):=fun hi hh=>by
         have:=zlq (es:=es.take q) (T:=gl gn) hi
         rw [List.getElem?_eq_getElem hh] at this
         exact Option.some.inj this
        refine ho7.il.get a rfl (by rw [zd9]; exact haN) ?_
        rw [hga haN (by rw [zd9]; exact haN)]
        have d1:=hdl (a:Int)
        have d2:=hdl (b:Int)
        rw [w64 (by omega)]
        refine ho7.set a rfl (by rw [zd9]; exact haN) fun h11 ho11=>?_
        refine ho11.il.get b rfl (by rw [List.length_set,zd9]; exact hbN) ?_
        have hab:a≠b:=by omega
        rw [List.getElem_set_ne hab,hga hbN (by rw [zd9]; exact hbN),w64 (by omega)]
        refine ho11.set b rfl (by rw [List.length_set,zd9]; exact hbN) fun h12 ho12=>?_
        show OI _ _ _ _
        rw [hst]
        have he2:es[q]=((a:Int),(b:Int)):=Prod.ext ha hb'
        rw [he2,←za38 haN hbN hab hT]
        exact ho12
      · rw [hb',zef (by omega)] at hh
        rw [hh.2] at h10; cases h10
    · rw [ha,zef (by omega)] at hh
      rw [hh.1] at h9; cases h9
  · have:q=es.length:=by simp only at h8; omega
    subst this
    rw [List.take_length] at ho7
    have hap:Apt m2 m5:=za3n ho ho7
    have hod:OI h1 h7 m5 (degs es (gl gn) N):=OI.base ho7 ho.1
    have hml7:=hob7.len
    refine zbb (fun st h'=>∃(i:Nat) (gn':List Bool),st.2.1=(i:Int)∧i≤N∧OB h1 h' m2 gn'∧OI h1 h' m5 (degs es (gl gn) N)∧gn'.length=N ∧
     (∀j (hj:j<N),i≤j→gn'.getD j true=gn.getD j true)∧(∀j (hj:j<N),gn'.getD j true=true→gn.getD j true=true∨degL es (gl gn) (j:Int)≤2)∧(∀j (hj:j<N),gn.getD j true=true→gn'.getD j true=true) ∧
     (∀j (hj:j<N),j<i→gn'.getD j true=false→3≤degL es (gl gn) (j:Int))∧(st.1=false→gn'=gn)∧(st.1=true→cntF gn'<cntF gn)∧cntF gn'≤cntF gn) (fun st=>(N-st.2.1).toNat)
     ⟨0,gn,rfl,by omega,hob7,hod,hgn,fun j hj _=>rfl,fun j hj hh=>.inl hh,fun j hj hh=>hh,fun j hj hji=>by omega,fun _=>rfl,fun hh=>(by cases hh),Nat.le_refl _⟩ ?_
    clear hob7 hod ho7 hk2
    rintro ⟨c9,i9,_⟩ h9 ⟨i,gn',hi9,hi,hob,hod,hgn',r1,r2,r3,r4,r5,r6,r7⟩
    simp only at hi9
    subst hi9
    have hobl:=hob.len
    refine za1 (fun h10=>?_) (fun h10=>?_)
    · have hi':i<N:=by simp only at h10; omega
      have hcur:=r1 i hi' (Nat.le_refl _)
      rw [zbm (by omega)] at hcur
      refine za5 (fun s h'=>∃gn'':List Bool,OB h1 h' m2 gn''∧OI h1 h' m5 (degs es (gl gn) N)∧gn''.length=N ∧
       (∀j (hj:j<N),i+1≤j→gn''.getD j true=gn.getD j true)∧(∀j (hj:j<N),gn''.getD j true=true→gn.getD j true=true∨degL es (gl gn) (j:Int)≤2)∧(∀j (hj:j<N),gn.getD j true=true→gn''.getD j true=true) ∧
       (∀j (hj:j<N),j<i+1→gn''.getD j true=false→3≤degL es (gl gn) (j:Int))∧(s.1=false→gn''=gn)∧(s.1=true→cntF gn''<cntF gn)∧cntF gn''≤cntF gn) ?_ ?_
      · rintro ⟨c,_⟩ h11 ⟨gn'',q1,q2,q3,q4,q5,q6,q7,q8,q9,q10⟩
        exact ⟨⟨i+1,gn'',by (try simp only); rw [w64 (by omega)]; rfl,by omega,q1,q2,q3,q4,q5,q6,q7,q8,q9,q10⟩,by (try simp only); rw [w64 (by omega)]; omega⟩
      · refine hob.get i rfl (by omega) ?_
        have hd3:∀j (hj:j<N),j<i+1→gn'.getD j true=false→(j=i→3≤degL es (gl gn) (i:Int))→3≤degL es (gl gn) (j:Int):=fun j hj hji hh hc=>by
         rcases Nat.lt_or_ge j i with h1 | h1
         · exact r4 j hj h1 hh
         · have:j=i:=by omega
           subst this; exact hc rfl
        refine za7 (fun h11=>?_) (fun h11=>⟨gn',hob,hod,hgn',fun j hj hij=>r1 j hj (by omega),r2,r3,fun j hj hji hh=>hd3 j hj hji hh fun e=>?_,r5,r6,r7⟩)
        · refine hod.il.get i rfl (by rw [zd9]; exact hi') ?_
          have hgi:(degs es (gl gn) N)[i]'(by rw [zd9]; exact hi')=((degL es (gl gn) (i:Int):Nat):Int):=by
           have:=zlq (es:=es) (T:=gl gn) hi'
           rw [List.getElem?_eq_getElem (by rw [zd9]; exact hi')] at this
           exact Option.some.inj this
          rw [hgi]
          have hfal:gn'[i]'(by omega)=false:=by simpa using h11
          refine za1 (fun h12=>?_) (fun h12=>⟨gn',hob,hod,hgn',fun j hj hij=>r1 j hj (by omega),r2,r3,fun j hj hji hh=>hd3 j hj hji hh fun e=>by have h12:¬((degL es (gl gn) (i:Int):Nat):Int)≤2:=h12; omega,r5,r6,r7⟩)
          have h12:((degL es (gl gn) (i:Int):Nat):Int)≤2:=h12
          refine hob.set i rfl (by omega) fun h13 hob13 hs13=>?_
          have hod13:OI h1 h13 m5 (degs es (gl gn) N):=za24 hod hap hob13.1 hs13
          have hcs:=za1d (gn:=gn') (i:=i) (by omega) hfal
          have gd:∀j,(gn'.set i true).getD j true=if j=i then true else gn'.getD j true:=fun j=>by
           rw [List.getD_eq_getElem?_getD,List.getElem?_set]
           by_cases hji:i=j
           · subst hji
             rw [if_pos rfl,if_pos (by omega),if_pos rfl]
             rfl
           · rw [if_neg hji,if_neg (fun h=>hji h.symm),List.getD_eq_getElem?_getD]
          refine ⟨gn'.set i true,hob13,hod13,by simpa using hgn',fun j hj hij=>?_,fun j hj hh=>?_,fun j hj hh=>?_,fun j hj hji hh=>?_,fun hh=>(by cases hh),fun _=>by omega,by omega⟩
          · rw [gd,if_neg (by omega)]; exact r1 j hj (by omega)
          · rw [gd] at hh
            split at hh
            · rename_i e; subst e; exact .inr (by omega)
            · exact r2 j hj hh
          · rw [gd]
            split
            · rfl
            · exact r3 j hj hh
          · rw [gd] at hh
            split at hh
            · cases hh
            · exact hd3 j hj hji hh fun e=>by rename_i e2; exact absurd e e2
        · subst e
          have hh2:gn'[j]'(by omega)=false:=by rw [zbm (by omega)] at hh; exact hh
          rw [hh2] at h11; cases h11
    · have hiN:i=N:=by simp only at h10; omega
      subst hiN
      have sub:∀x,x∈gl gn'→x∈gl gn:=fun x hx=>by
       obtain ⟨j,rfl,hj,hg2⟩:=zl9.1 hx
       rw [zef (by omega)]
       cases hgj:gn[j]'(by omega) with
       | false=>rfl
       | true=>
         have:=r3 j (by omega) (by rw [zbm (by omega)]; exact hgj)
         rw [zbm (by omega),hg2] at this; cases this
      have hgr':∀C:List Int,(∀x∈C,0≤x∧x<i)→(∀x∈C,3≤degL es C x)→∀x∈C,x∈gl gn':=fun C hC hC3 x hx=>by
       have hx2:=hgr C hC hC3 x hx
       obtain ⟨j,rfl,hj,hg2⟩:=zl9.1 hx2
       rw [zef (by omega)]
       cases hgj:gn'[j]'(by omega) with
       | false=>rfl
       | true=>
         rcases r2 j (by omega) (by rw [zbm (by omega)]; exact hgj) with h1 | h1
         · rw [zbm (by omega),hg2] at h1; cases h1
         · exact absurd hx (zms hC3 (hgr C hC hC3) h1)
      cases hc:c9 with
      | false=>
        have e:=r5 hc
        subst e
        refine hK2 (cntF gn'*2) _ _ (by omega) ⟨gn',hob,hgn,hgr',fun _ x hx=>?_,by simp⟩
        obtain ⟨j,rfl,hj,hg2⟩:=zl9.1 hx
        exact r4 j (by omega) (by omega) (by rw [zbm (by omega)]; exact hg2)
      | true=>
        have e:=r6 hc
        exact hK2 (cntF gn'*2+1) _ _ (by omega) ⟨gn',hob,hgn',hgr',fun hh=>(by cases hh),by simp⟩
 · simp only at h5
   have hdeg:=hst h5
   refine zci (n:=N) (by omega) (fun i y h'=>OI h4 h' y ((gl gn).filter fun x=>decide (x<i))) (by
    have e:(gl gn).filter (fun x=>decide (x<((0:Nat):Int)))=[]:=by
     rw [List.filter_eq_nil_iff]
     intro x hx
     obtain ⟨j,rfl,_⟩:=zl9.1 hx
     simp
    rw [e]; exact OI.nil) ?_
   intro i y h6 hi ho6 k hk2
   have hob6:OB h1 h6 m2 gn:=Own.le ho ho6.dle
   have hob6l:=hob6.len
   refine za1 (fun h7=>?_) (fun h7=>?_)
   · have hi':i<N:=by simp only at h7; omega
     have hstep:(gl gn).filter (fun x=>decide (x<((i+1:Nat):Int)))=(gl gn).filter (fun x=>decide (x<(i:Int)))++(if gn[i]'(by omega)=false then [(i:Int)] else []):=by
      have key:∀n:Nat,(gl gn).filter (fun x=>decide (x<(n:Int)))=((List.range gn.length).filter fun j=>!(gn.getD j true)&&decide (j<n)).map fun j:Nat=>(j:Int):=fun n=>by
       unfold gl
       rw [List.filter_map,List.filter_filter]
       congr 1
       refine List.filter_congr fun j _=>?_
       simp only [Function.comp_apply]
       rw [Bool.and_comm]
       congr 1
       simp
      have key2:∀n:Nat,n≤gn.length→(List.range gn.length).filter (fun j=>!(gn.getD j true)&&decide (j<n))=(List.range n).filter fun j=>!(gn.getD j true):=fun n hn=>by
       have e1:(List.range gn.length).filter (fun j=>!(gn.getD j true)&&decide (j<n))=((List.range gn.length).filter fun j=>decide (j<n)).filter fun j=>!(gn.getD j true):=by rw [List.filter_filter]
       have e2:(List.range gn.length).filter (fun j=>decide (j<n))=List.range n:=by
        obtain ⟨d,hd⟩:∃d,gn.length=n+d:=⟨gn.length-n,by omega⟩
        rw [hd,List.range_add,List.filter_append]
        have f1:(List.range n).filter (fun j=>decide (j<n))=List.range n:=by
         rw [List.filter_eq_self]; intro j hj; exact decide_eq_true (List.mem_range.1 hj)
        have f2:((List.range d).map (n+·)).filter (fun j=>decide (j<n))=[]:=by
         rw [List.filter_eq_nil_iff]; intro j hj
         obtain ⟨q,_,rfl⟩:=List.mem_map.1 hj
         simp
        rw [f1,f2,List.append_nil]
       rw [e1,e2]
      rw [key,key,key2 _ (by omega),key2 _ (by omega),List.range_succ,List.filter_append,List.map_append]
      congr 1
      have hgi:gn.getD i true=gn[i]'(by omega):=zbm (by omega)
      rw [zvu,hgi]
      cases hg2:gn[i]'(by omega)<;>rfl
     have hfl:((gl gn).filter fun x=>decide (x<(i:Int))).length≤60:=by
      refine Nat.le_trans (List.length_filter_le _ _) ?_
      unfold gl
      rw [List.length_map]
      refine Nat.le_trans (List.length_filter_le _ _) ?_
      rw [List.length_range]; omega
     refine za5 (fun s h'=>OI h4 h' s.1 ((gl gn).filter fun x=>decide (x<((i+1:Nat):Int)))) (fun s h' hs=>hk2 _ _ hi' hs) ?_
     refine hob6.get i rfl (by omega) ?_
     refine za7 (fun h8=>?_) (fun h8=>?_)
     · refine ho6.app (by omega) fun w h9 ho9=>?_
       show OI _ _ _ _
       rw [hstep,if_pos (by simpa using h8)]; exact ho9
     · show OI _ _ _ _
       rw [hstep,if_neg (by simpa using h8),List.append_nil]; exact ho6
   · have:i=N:=by simp only at h7; omega
     subst this
     have e:(gl gn).filter (fun x=>decide (x<(i:Int)))=gl gn:=by
      rw [List.filter_eq_self]
      intro x hx
      obtain ⟨j,rfl,hj,_⟩:=zl9.1 hx
      exact decide_eq_true (by omega)
     rw [e] at ho6
     exact hk _ _ (Hp.le_trans hle4 ho6.dle) (.inr ⟨hv,gl gn,ho6.il,za55 hgn,hdeg,hgr⟩)
def indN (es:List (Int×Int)) (T:List Int):Nat:=es.countP fun e=>decide (e.1∈T)&&decide (e.2∈T)
theorem zr5 {T:List Int} {ts:Sl} (hg:LR a2c 2 A2P h g.edges es) (hlen:es.length≤1000000) (hv:GV g.n es) (ht:IL h ts T) (hT:T.length≤1000000) (H:∀y h',h.le h'→y.len=indN es T→Ks y h'):callP (F.zh2 g ts) Ks h:=by
 refine za0 (fun y h'=>y.len=indN es T) (fun K' hk=>?_) fun y h' hl hb=>H y h' hl hb
 unfold F.zh2
 have hgl:=hg.len zaz
 refine zci (n:=es.length) (by omega) (fun i y h'=>∃xs:List (Int×Int),LO a2c 2 A2P h h' y xs∧xs.length=indN (es.take i) T) ⟨[],LO.nil,by simp [indN]⟩ ?_
 rintro i y h1 hi ⟨xs,ho,hx⟩ k hk2
 have hle:=ho.dle
 have hcl:indN (es.take i) T≤i:=Nat.le_trans List.countP_le_length (by rw [List.length_take]; omega)
 refine za1 (fun h2=>?_) (fun h2=>?_)
 · have hi':i<es.length:=by simp only at h2; omega
   have hst:indN (es.take (i+1)) T=indN (es.take i) T+(if es[i].1∈T∧es[i].2∈T then 1 else 0):=by
    unfold indN
    rw [←List.take_append_getElem hi',List.countP_append,List.countP_singleton]
    congr 1
    by_cases hh:es[i].1∈T∧es[i].2∈T
    · rw [if_pos hh,if_pos (by simp [hh.1,hh.2])]
    · rw [if_neg hh,if_neg]
      intro h3
      simp only [Bool.and_eq_true,decide_eq_true_iff] at h3
      exact hh h3
   refine za5 (fun s h'=>∃xs:List (Int×Int),LO a2c 2 A2P h h' s.1 xs∧xs.length=indN (es.take (i+1)) T) (fun s h' hs=>hk2 _ _ hi' hs) ?_
   refine zjf (hg.le zaz hle) (by omega) fun b h3 hl3 hb=>?_
   rw [hb.2 hv]
   refine zc8 rfl ?_
   have l3:=Hp.le_trans hle hl3
   refine (hg.le zaz l3).get zaz i rfl hi' fun a x hxx hcx=>⟨_,hcx 0 _ rfl,?_⟩
   rw [hxx.1]
   have same:∀h',h1.le h'→¬(es[i].1∈T∧es[i].2∈T)→∃xs:List (Int×Int),LO a2c 2 A2P h h' y xs∧xs.length=indN (es.take (i+1)) T:=fun h' hl hn=>⟨xs,ho.le hl,by rw [hst,if_neg hn]; exact hx⟩
   refine zjp (ht.le l3) (by omega) fun h4 hl4=>?_
   have l4:=Hp.le_trans hl3 hl4
   refine za1 (fun h5=>?_) (fun h5=>same _ l4 fun hh=>h5 hh.1)
   refine (hg.le zaz (Hp.le_trans hle l4)).get zaz i rfl hi' fun a x hxx hcx=>⟨_,hcx 1 _ rfl,?_⟩
   rw [hxx.2]
   refine zjp (ht.le (Hp.le_trans hle l4)) (by omega) fun h6 hl6=>?_
   have l6:=Hp.le_trans l4 hl6
   refine za1 (fun h7=>?_) (fun h7=>same _ l6 fun hh=>h7 hh.2)
   refine (hg.le zaz (Hp.le_trans hle l6)).get zaz i rfl hi' fun a x hxx hcx=>⟨_,hcx 0 _ rfl,_,hcx 1 _ rfl,?_⟩
   refine (ho.le l6).app (x:=x) (b:=es[i]) zaz rfl (by omega) (by omega) hxx fun w h8 ho8=>⟨_,ho8,?_⟩
   rw [hst,if_pos ⟨h5,h7⟩,List.length_append,hx]; rfl
 · have:i=es.length:=by simp only at h2; omega
   subst this
   rw [List.take_length] at hx
   exact hk _ _ hle (by rw [ho.len zaz]; exact hx)
end
end Den
end

section
namespace Den
open Go Iv Lx
section
variable {h : Hp} {g : TGraph} {es : List (Int × Int)} {S : PSk} {Kb : Bool → Hp → Prop}
theorem zm7 {K:TExpr→Hp→Prop} (H:∀r h',h.le h'→NR h' r ((1:Int):Rat)→K ⟨1,r,emptyS,nilS⟩ h'):callP F.zfq K h:=by
 refine za0 (fun e h'=>∃r,NR h' r ((1:Int):Rat)∧e=⟨1,r,emptyS,nilS⟩) (fun K' hk=>?_) fun e h' hl ⟨r,h1,h2⟩=>by subst h2; exact H r h' hl h1
 unfold F.zfq
 exact zpy (by decide) (by decide) fun z h' hl hz=>hk _ _ hl ⟨z,hz,rfl⟩
theorem zmh {r:TRat} {K:TSketch→Hp→Prop} {N:Nat} (hN:g.n=N) (hN2:N≤10) (hg:LR a2c 2 A2P h g.edges es) (hlen:es.length≤20) (hr:NR h r ((1:Int):Rat)) (H:∀s S h',h.le h'→SK h' s S→DSK 1 S N es→K s h'):callP (F.zgm g ⟨1,r,emptyS,nilS⟩) K h:=by
 refine za0 (fun s h'=>∃S,SK h' s S∧DSK 1 S N es) (fun K' hk=>?_) fun s h' hl ⟨S,h1,h2⟩=>H s S h' hl h1 h2
 unfold F.zgm
 dsimp only
 have hgl:=hg.len zaz
 rw [hN]
 have hor:OR h r (some ((1:Int):Rat)):=hr.or (zo2 (by decide)) (by decide)
 refine zbb (fun st h'=>∃(i:Nat) (pl:Sl),st=((pl,nilS,nilS,nilS,nilS,nilS,()),(i:Int),())∧i≤N∧LO ptc 8 PTT h h' pl (List.replicate i (some ((1:Int):Rat),some ((1:Int):Rat))))
  (fun st=>(N-st.2.1).toNat) ⟨0,nilS,rfl,by omega,LO.nil⟩ ?_
 rintro _ h1 ⟨i,pl,rfl,hi,hp⟩
 refine za1 (fun h2=>?_) (fun h2=>?_)
 · have hi':i<N:=by simp only at h2; omega
   refine hp.app (x:=(⟨r,r⟩:TPoint)) (b:=(some ((1:Int):Rat),some ((1:Int):Rat))) zgc rfl (by simp; omega) (by simp; omega) ⟨hor,hor⟩ fun w h3 hp3=>⟨⟨i+1,w,by (try simp only); rw [w64 (by omega)]; rfl,by omega,?_⟩,by (try simp only); rw [w64 (by omega)]; omega⟩
   rw [List.replicate_succ']
   exact hp3
 have:i=N:=by simp only at h2; omega
 subst this
 have hle1:=hp.dle
 refine zbb (fun st h'=>∃(q:Nat) (cl:Sl) (con:List PCon) (D:Hp),st=((pl,nilS,nilS,nilS,nilS,cl,()),(q:Int),())∧q≤es.length∧h1.le D∧LO cc 5 CO D h' cl con∧DCL 1 con (es.take q))
  (fun st=>(es.length-st.2.1).toNat) ⟨0,nilS,[],h1,rfl,by omega,Hp.le_refl _,LO.nil,trivial⟩ ?_
 rintro _ h3 ⟨q,cl,con,D,rfl,hq,hD,hc,hdc⟩
 have hcl:=hdc.len
 rw [List.length_take] at hcl
 refine za1 (fun h4=>?_) (fun h4=>?_)
 · have hq':q<es.length:=by simp only at h4; omega
   have hle3:=Hp.le_trans hle1 (Hp.le_trans hD hc.dle)
   refine (hg.le zaz hle3).get zaz q rfl hq' fun a x hxx hcx=>⟨_,hcx 0 _ rfl,?_⟩
   refine (hg.le zaz hle3).get zaz q rfl hq' fun a x2 hxx2 hcx2=>⟨_,hcx2 1 _ rfl,?_⟩
   rw [hxx.1,hxx2.2]
   refine hc.newb zau fun p10 D4 h5 d4 l5 hc c10=>hc.newb zau fun p11 D5 h6 d5 l6 hc c11=>?_
   refine hc.app (x:=(⟨2,⟨some p10,2,2⟩,nilS,⟨some p11,1,1⟩,0⟩:TConstraint)) (b:=⟨2,[es[q].1,es[q].2],[],[numE r 1],0⟩) zau rfl (by omega) (by omega) (za37 (fun i v hv=>Hp.cell_le d5 (c10 i v hv)) c11 (by decide) (hr.le (Hp.le_trans hle1 (Hp.le_trans hD (Hp.le_trans d4 d5))))) fun w h7 hc7=>?_
   refine ⟨⟨q+1,w,_,D5,by (try simp only); rw [w64 (by omega)]; rfl,by omega,Hp.le_trans hD (Hp.le_trans d4 d5),hc7,?_⟩,by (try simp only); rw [w64 (by omega)]; omega⟩
   rw [←List.take_append_getElem hq']
   exact DCL.snoc (e:=es[q]) ⟨r,za21 (by decide) hr,rfl⟩ hdc
 · have:q=es.length:=by simp only at h4; omega
   subst this
   rw [List.take_length] at hdc
   refine hk _ _ (Hp.le_trans hle1 (Hp.le_trans hD hc.dle)) ⟨⟨List.replicate i (some ((1:Int):Rat),some ((1:Int):Rat)),[],[],[],[],con⟩,⟨(hp.lr zgc).le zgc (Hp.le_trans hD hc.dle),LR.nil,LR.nil,LR.nil,LR.nil,hc.lr zau⟩,by simp,fun p hp=>?_,rfl,rfl,rfl,rfl,hdc⟩
   rw [List.eq_of_mem_replicate hp]
   exact ⟨rfl,rfl⟩
end
theorem DCL.get {z:Int}:∀{l:List PCon} {q:List (Int×Int)},DCL z l q→∀{k:Nat} (h1:k<l.length) (h2:k<q.length),DC z l[k] q[k]
 | [],_,_,k,h1,_=>by simp at h1
 | a :: r,b :: q,h,0,_,_=>h.1
 | a :: r,b :: q,h,k+1,h1,h2=>DCL.get h.2 (by simpa using h1) (by simpa using h2)
 | a :: r,[],h,_,_,_=>h.elim
theorem DSK.allC {z:Int} {S:PSk} {n:Nat} {es:List (Int×Int)} (h:DSK z S n es):Den.allC S=S.con:=by
 unfold Den.allC imp impL
 rw [h.2.2.2.2.1]; simp
theorem DSK.its {z:Int} {S:PSk} {n:Nat} {es:List (Int×Int)} (h:DSK z S n es):Den.its S=es.map fun e=>[e.1,e.2]:=by
 have hl:=h.2.2.2.2.2.2.len
 unfold Den.its
 rw [h.allC]
 refine List.ext_getElem (by simp [hl]) fun k h1 h2=>?_
 rw [List.getElem_map,List.getElem_map]
 obtain ⟨x,_,e⟩:=h.2.2.2.2.2.2.get (k:=k) (by simpa using h1) (by simpa using h2)
 rw [e]
 simp [itemsC]
theorem DSK.all {z:Int} {S:PSk} {n:Nat} {es:List (Int×Int)} (h:DSK z S n es):allS S=rngI n:=by
 unfold allS allI rngI
 rw [h.1,h.2.2.1]
 simp
theorem DSK.kind {z:Int} {S:PSk} {n:Nat} {es:List (Int×Int)} (h:DSK z S n es) {k:Nat} (hk:k<es.length):(Den.allC S).getD k dC=⟨2,[es[k].1,es[k].2],[],((Den.allC S).getD k dC).vals,0⟩:=by
 have hl:=h.2.2.2.2.2.2.len
 rw [h.allC,zbm (by omega)]
 obtain ⟨x,_,e⟩:=h.2.2.2.2.2.2.get (k:=k) (by omega) hk
 rw [e]
theorem za12 {z:Int} {S:PSk} {n:Nat} {es:List (Int×Int)} (h:DSK z S n es) {T R:List Int} (hT:∀e∈es,(e.1∈T↔e.1∉R)∧(e.2∈T↔e.2∉R)) {i:Int}:∀k,k≤es.length→wtL (Den.allC S) (remN (Den.its S) i R k)=degL (es.take k) T i
 | 0,_=>by simp [remN,wtL,degL]
 | k+1,hk=>by
   have hk':k<es.length:=by omega
   have ih:=za12 h hT (i:=i) k (by omega)
   have hg:(Den.its S).getD k []=[es[k].1,es[k].2]:=by
    rw [h.its,zbm (by simpa using hk'),List.getElem_map]
   have hstep:remN (Den.its S) i R (k+1)=remN (Den.its S) i R k++(if keepP ((Den.its S).getD k []) i R then [(k:Int)] else []):=rfl
   rw [←List.take_append_getElem hk',zkj,←ih,hstep,hg]
   have ht:=hT _ (List.getElem_mem hk')
   have e:keepP [es[k].1,es[k].2] i R↔(es[k].1∈T∧es[k].2∈T∧(es[k].1=i∨es[k].2=i)):=by
    unfold keepP
    simp only [List.mem_cons,List.not_mem_nil,or_false,forall_eq_or_imp,forall_eq]
    rw [ht.1,ht.2]
    constructor
    · rintro ⟨h1,h2,h3⟩
      exact ⟨h2,h3,h1.imp Eq.symm Eq.symm⟩
    · rintro ⟨h2,h3,h1⟩
      exact ⟨h1.imp Eq.symm Eq.symm,h2,h3⟩
   by_cases hh:es[k].1∈T∧es[k].2∈T∧(es[k].1=i∨es[k].2=i)
   · rw [if_pos (e.2 hh),if_pos hh,zt3,show ((k:Nat):Int).toNat=k from rfl,h.kind hk']
     rfl
   · rw [if_neg (fun h=>hh (e.1 h)),if_neg hh,List.append_nil]; rfl
theorem zud {z:Int} {S:PSk} {n:Nat} {es:List (Int×Int)} (h:DSK z S n es) {T R:List Int} (hT:∀e∈es,(e.1∈T↔e.1∉R)∧(e.2∈T↔e.2∉R)) {i:Int} (hi:0≤i):canP (Den.allC S) (cens S) R i↔i∉R∧degL es T i≤2:=by
 have e0:(Den.allC S).map (fun c=>itemsC c (cens S))=Den.its S:=rfl
 have hlen:(Den.its S).length=es.length:=by rw [h.its]; simp
 have hw:=za12 h hT (i:=i) es.length (Nat.le_refl _)
 rw [List.take_length] at hw
 unfold canP
 rw [e0]
 have hm:most i=2:=by unfold most; rw [if_neg (by omega)]
 have hr:remL (Den.its S) i R=remN (Den.its S) i R es.length:=by unfold remL; rw [hlen]
 rw [hm,hr,hw]
 constructor
 · exact fun hh=>⟨hh.1,hh.2.1⟩
 · rintro ⟨h1,h2⟩
   refine ⟨h1,h2,fun j hj=>?_⟩
   obtain ⟨k,hk,rfl,hkp⟩:=zof.1 hj
   rw [show ((k:Nat):Int).toNat=k from rfl,h.kind hk]
   have hg:(Den.its S).getD k []=[es[k].1,es[k].2]:=by
    rw [h.its,zbm (by simpa using hk),List.getElem_map]
   have hmem:i∈[es[k].1,es[k].2]:=by rw [←hg]; exact hkp.1
   unfold suitP
   rw [if_neg (by omega),if_neg (by show ¬eqK 2=2; decide)]
   right
   unfold kindP
   simp only
   rw [if_neg (by decide),if_neg (by decide),if_neg (by decide),if_neg (fun hn=>hn hmem),if_neg (by decide),if_pos trivial]
theorem zpo {z:Int} {S:PSk} {n:Nat} {es:List (Int×Int)} (h:DSK z S n es) (hes:∀e∈es,0≤e.1∧e.1<e.2∧e.2<n):IsCore n es (coreS S):=by
 have hmem:∀{R:List Int} {x:Int},x∈leftL (allS S) R↔(0≤x∧x<n)∧x∉R:=fun {R x}=>by
  unfold leftL
  rw [List.mem_filter,h.all,zi3]
  simp
 have hT:∀R:List Int,∀e∈es,(e.1∈leftL (allS S) R↔e.1∉R)∧(e.2∈leftL (allS S) R↔e.2∉R):=fun R e he=>by
  have:=hes e he
  rw [hmem,hmem]
  exact ⟨⟨fun h=>h.2,fun h=>⟨by omega,h⟩⟩,⟨fun h=>h.2,fun h=>⟨by omega,h⟩⟩⟩
 refine ⟨?_,fun i hi=>?_,fun C hC hC3 i hi=>?_⟩
 · have e0:coreS S=(rngI n).filter fun x=>decide (x∉peelS S (allS S)):=by
    rw [←h.all]; rfl
   refine e0.trans (List.filter_congr fun x hx=>?_)
   have:x∈coreS S↔x∉peelS S (allS S):=by
    unfold coreS
    rw [hmem]
    exact ⟨fun h=>h.2,fun h=>⟨zi3.1 hx,h⟩⟩
   simp only [this]
 · have hi2:=hmem.1 hi
   have he:=za00 (S:=S) (pref:=allS S) (x:=i) (by rw [h.all,zi3]; exact hi2.1)
   rw [zud h (hT _) (by omega)] at he
   have:degL es (coreS S) i=degL es (leftL (allS S) (peelS S (allS S))) i:=rfl
   rw [this]
   exact Nat.lt_of_not_le fun hh=>he ⟨hi2.2,hh⟩
 · suffices H:∀k,k≤(peelS S (allS S)).length→∀x∈(peelS S (allS S)).take k,x∉C by
    have:=H _ (Nat.le_refl _)
    rw [List.take_length] at this
    exact hmem.2 ⟨hC i hi,fun hp=>this i hp hi⟩
   intro k
   induction k with
   | zero=>intro _ x hx; simp at hx
   | succ k ih=>
     intro hk x hx
     have hk':k<(peelS S (allS S)).length:=by omega
     rw [←List.take_append_getElem hk',List.mem_append] at hx
     rcases hx with hx | hx
     · exact ih (by omega) x hx
     · rw [List.mem_singleton] at hx
       obtain ⟨h1,h2⟩:=za25 (S:=S) (pref:=allS S) hk'
       rw [zbm hk',←hx] at h1 h2
       rw [h.all,zi3] at h2
       rw [zud h (hT _) h2.1] at h1
       exact zms hC3 (fun y hy=>hmem.2 ⟨hC y hy,fun hp=>ih (by omega) y hp hy⟩) h1.2
theorem za7v {z:Int} {S:PSk} {n:Nat} {es:List (Int×Int)} (h:DSK z S n es) (T:List Int):(wiS S T).length=indN es T:=by
 unfold wiS
 have hl:(Den.its S).length=es.length:=by rw [h.its]; simp
 rw [hl]
 suffices H:∀k,k≤es.length→(wiN (Den.its S) T k).length=indN (es.take k) T by
  have:=H _ (Nat.le_refl _)
  rwa [List.take_length] at this
 intro k
 induction k with
 | zero=>intro _; simp [wiN,indN]
 | succ k ih=>
   intro hk
   have hk':k<es.length:=by omega
   have hg:(Den.its S).getD k []=[es[k].1,es[k].2]:=by
    rw [h.its,zbm (by simpa using hk'),List.getElem_map]
   unfold wiN
   rw [List.length_append,ih (by omega),hg,←List.take_append_getElem hk']
   unfold indN
   rw [List.countP_append,List.countP_singleton]
   congr 1
   have e:inAll [es[k].1,es[k].2] T↔es[k].1∈T∧es[k].2∈T:=by unfold inAll; simp
   by_cases hh:es[k].1∈T∧es[k].2∈T
   · rw [if_pos (e.2 hh),if_pos (by simp [hh.1,hh.2])]; rfl
   · rw [if_neg (fun h3=>hh (e.1 h3)),if_neg]
     · rfl
     · intro h3
       simp only [Bool.and_eq_true,decide_eq_true_iff] at h3
       exact hh h3
def es4:List (Int×Int):=[(0,1),(0,2),(0,3),(1,2),(1,3),(2,3)]
def es3:List (Int×Int):=[(0,1),(0,2),(1,2)]
theorem core4:IsCore 4 es4 [0,1,2,3]:=by
 refine ⟨by decide,by decide,fun C hC _ i hi=>?_⟩
 have:=hC i hi
 simp only [List.mem_cons,List.not_mem_nil,or_false]
 omega
theorem core3:IsCore 3 es3 []:=by
 refine ⟨by decide,fun i hi=>(by cases hi),fun C hC hC3 i hi=>?_⟩
 have h1:=hC i hi
 have h2:=hC3 i hi
 have h3:degL es3 C i≤degL es3 [0,1,2] i:=zq9 fun x hx=>by
  have:=hC x hx
  simp only [List.mem_cons,List.not_mem_nil,or_false]
  omega
 have h4:∀j:Fin 3,degL es3 [0,1,2] ((j:Nat):Int)≤2:=by decide
 have h5:=h4 ⟨i.toNat,by omega⟩
 have e:(((⟨i.toNat,by omega⟩:Fin 3):Nat):Int)=i:=by simp; omega
 rw [e] at h5
 omega
theorem gv4:GV 4 es4:=by
 refine ⟨by decide,by decide,fun j hj=>?_⟩
 have:∀j:Fin 5,befE (es4[(j:Nat)]'(by simp [es4]; omega)) (es4[(j:Nat)+1]'(by simp [es4]; omega)):=by
  intro j
  match j with
  | ⟨0,_⟩=>exact .inr ⟨rfl,by show (1:Int)<2; decide⟩
  | ⟨1,_⟩=>exact .inr ⟨rfl,by show (2:Int)<3; decide⟩
  | ⟨2,_⟩=>exact .inl (by show (0:Int)<1; decide)
  | ⟨3,_⟩=>exact .inr ⟨rfl,by show (2:Int)<3; decide⟩
  | ⟨4,_⟩=>exact .inl (by show (1:Int)<2; decide)
 exact this ⟨j,by simp [es4] at hj; omega⟩
theorem gv3:GV 3 es3:=by
 refine ⟨by decide,by decide,fun j hj=>?_⟩
 have:∀j:Fin 2,befE (es3[(j:Nat)]'(by simp [es3]; omega)) (es3[(j:Nat)+1]'(by simp [es3]; omega)):=by
  intro j
  match j with
  | ⟨0,_⟩=>exact .inr ⟨rfl,by show (1:Int)<2; decide⟩
  | ⟨1,_⟩=>exact .inl (by show (0:Int)<1; decide)
 exact this ⟨j,by simp [es3] at hj; omega⟩
theorem bars4 {S:PSk} (h:DSK 1 S 4 es4):wiS S [0,1,2,3]=[0,1,2,3,4,5]:=by
 unfold wiS
 rw [h.its]
 decide
section
variable {h : Hp} {s : TSketch} {S : PSk} {Kb : Bool → Hp → Prop}
theorem zhe (ht:GT h) (H:∀h',h.le h'→Kb true h'):callP F.zcl Kb h:=by
 refine za0 (fun b _=>b=true) (fun K' hk=>?_) fun b h' hl hb=>by subst hb; exact H h' hl
 unfold F.zcl
 refine zga fun p1 h1 hl1 c1=>zga fun p2 h2 hl2 c2=>?_
 have hle2:=Hp.le_trans hl1 hl2
 have g4:∀{h'},h2.le h'→LR a2c 2 A2P h' ⟨some p1,6,6⟩ es4:=fun hl=>LR.le zaz (h:=h1) ⟨[⟨0,1⟩,⟨0,2⟩,⟨0,3⟩,⟨1,2⟩,⟨1,3⟩,⟨2,3⟩],zdw (size:=2) (n:=6) c1 rfl,Nat.le_refl _,rfl,fun k k1 k2=>by
  match k,k1 with
  | 0,_=>exact ⟨rfl,rfl⟩
  | 1,_=>exact ⟨rfl,rfl⟩
  | 2,_=>exact ⟨rfl,rfl⟩
  | 3,_=>exact ⟨rfl,rfl⟩
  | 4,_=>exact ⟨rfl,rfl⟩
  | 5,_=>exact ⟨rfl,rfl⟩⟩ (Hp.le_trans hl2 hl)
 have g3:∀{h'},h2.le h'→LR a2c 2 A2P h' ⟨some p2,3,3⟩ es3:=fun hl=>LR.le zaz (h:=h2) ⟨[⟨0,1⟩,⟨0,2⟩,⟨1,2⟩],zdw (size:=2) (n:=3) c2 rfl,Nat.le_refl _,rfl,fun k k1 k2=>by
  match k,k1 with
  | 0,_=>exact ⟨rfl,rfl⟩
  | 1,_=>exact ⟨rfl,rfl⟩
  | 2,_=>exact ⟨rfl,rfl⟩⟩ hl
 refine zm7 fun r3 h3 hl3 hr3=>?_
 refine zmh (g:=⟨4,⟨some p1,6,6⟩⟩) (es:=es4) (N:=4) rfl (by decide) (g4 hl3) (by decide) hr3 fun s4 S4 h4 hl4 hx4 hd4=>?_
 have l4:=Hp.le_trans hl3 hl4
 have hle4:=Hp.le_trans hle2 l4
 have v4:VS S4:=hd4.vs dec1 (by decide)
 have ss4:sSk S4:=hd4.ss (by decide) (by decide)
 have k4:coreS S4=[0,1,2,3]:=(zpo hd4 (by decide)).unique core4
 refine zq3 hx4 ss4 (ht.le hle4) fun r5 h5 hl5 hr5=>?_
 obtain ⟨i1,i2⟩:IL h5 r5.1 [0,1,2,3]∧IL h5 r5.2 [0,1,2,3,4,5]:=by
  rcases hr5 with ⟨_,_,h6,h7⟩ | ⟨h6,_⟩
  · rw [k4] at h6 h7
    rw [bars4 hd4] at h7
    exact ⟨h6,h7⟩
  · rcases h6 with h6 | h6
    · exact absurd v4 h6
    · rw [k4] at h6; cases h6
 have l5:=Hp.le_trans l4 hl5
 refine zga fun p6 h6 hl6 c6=>?_
 refine zes (xs:=[0,1,2,3]) (ys:=[0,1,2,3]) (i1.le hl6) ⟨zdw (size:=1) (n:=4) c6 rfl,Nat.le_refl _⟩ (by decide) fun h7 hl7=>?_
 refine zc8 (decide_eq_true rfl) ?_
 refine zga fun p8 h8 hl8 c8=>?_
 have l58:=Hp.le_trans hl6 (Hp.le_trans hl7 hl8)
 refine zes (xs:=[0,1,2,3,4,5]) (ys:=[0,1,2,3,4,5]) (i2.le l58) ⟨zdw (size:=1) (n:=6) c8 rfl,Nat.le_refl _⟩ (by decide) fun h9 hl9=>?_
 refine zc8 (decide_eq_true rfl) ?_
 have l9:=Hp.le_trans l5 (Hp.le_trans l58 hl9)
 refine zm7 fun r10 h10 hl10 hr10=>?_
 have l10:=Hp.le_trans l9 hl10
 refine zmh (g:=⟨3,⟨some p2,3,3⟩⟩) (es:=es3) (N:=3) rfl (by decide) (g3 l10) (by decide) hr10 fun s11 S11 h11 hl11 hx11 hd11=>?_
 have l11:=Hp.le_trans l10 hl11
 have v11:VS S11:=hd11.vs dec1 (by decide)
 have ss11:sSk S11:=hd11.ss (by decide) (by decide)
 have k11:coreS S11=[]:=(zpo hd11 (by decide)).unique core3
 refine zmi hx11 ss11 (ht.le (Hp.le_trans hle2 l11)) fun b12 h12 hl12 hb12=>?_
 rw [hb12.2 ⟨v11,k11⟩]
 refine zc8 rfl ?_
 have l12:=Hp.le_trans l11 hl12
 refine zjh (g:=⟨3,⟨some p2,3,3⟩⟩) (es:=es3) (g3 l12) (by decide) (fun _ _ hn=>absurd gv3 hn) fun y13 T13 h13 hl13 _ hi13 hc13=>?_
 have e13:T13=[]:=hc13.unique core3
 rw [e13] at hi13
 have n13:=hi13.len
 have n13:y13.len=0:=n13
 refine zae (fun _=>?_) (fun hh=>absurd (by rw [n13]; rfl) hh)
 have l13:=Hp.le_trans l12 hl13
 refine zjh (g:=⟨4,⟨some p1,6,6⟩⟩) (es:=es4) (g4 l13) (by decide) (fun _ _ hn=>absurd gv4 hn) fun y14 T14 h14 hl14 _ hi14 hc14=>?_
 have e14:T14=[0,1,2,3]:=hc14.unique core4
 rw [e14] at hi14
 refine zga fun p15 h15 hl15 c15=>?_
 refine zes (xs:=[0,1,2,3]) (ys:=[0,1,2,3]) (hi14.le hl15) ⟨zdw (size:=1) (n:=4) c15 rfl,Nat.le_refl _⟩ (by decide) fun h16 hl16=>?_
 exact hk _ _ (Hp.le_trans hle2 (Hp.le_trans l13 (Hp.le_trans hl14 (Hp.le_trans hl15 hl16)))) (decide_eq_true rfl)
end
end Den
end

section
namespace Den
open Go Iv Lx
section
variable {h : Hp} {s : TSketch} {S : PSk} {g : TGraph} {es : List (Int × Int)} {l : Sl} {xs : List Int} {K : Bool → Hp → Prop}
theorem za44 (hg:LR a2c 2 A2P h g.edges es) (ht:GT h) (hk:∀h',h.le h'→K true h'):F.zhj g K h:=by
 unfold F.zhj
 have hgl:=hg.len zaz
 refine za5 (fun _ h'=>h.le h'∧es.length≤100) ?_ ?_
 · rintro _ h1 ⟨hl1,h100⟩
   refine zjh (hg.le zaz hl1) (by omega) (fun h2 hl2 hn=>?_) (fun y T h2 hl2 hv hi hc=>?_)
   · refine znv (hg.le zaz (Hp.le_trans hl1 hl2)) (by omega) (fun h3 hl3 _=>?_) (fun _ _ _ _ hv _ _=>absurd hv hn)
     refine zes (xs:=[]) (ys:=[]) IL.nil IL.nil (by simp) fun h4 hl4=>?_
     rw [decide_eq_true rfl]
     exact hk _ (Hp.le_trans hl1 (Hp.le_trans hl2 (Hp.le_trans hl3 hl4)))
   · have hN:g.n.toNat≤60:=by have:=hv.1.2; omega
     have hTl:=hc.len
     refine znv (hg.le zaz (Hp.le_trans hl1 hl2)) (by omega) (fun h3 hl3 hn=>absurd hv hn) (fun z Q h3 hl3 _ hj hd=>?_)
     rw [hd.unique hc] at hj
     refine zes (hi.le hl3) hj (by omega) fun h4 hl4=>?_
     rw [decide_eq_true rfl]
     exact hk _ (Hp.le_trans hl1 (Hp.le_trans hl2 (Hp.le_trans hl3 hl4)))
 · refine zhe ht fun h1 hl1=>zba rfl ?_
   refine za0 (fun b h'=>b=decide ((g.edges.len:Int)≤100)) (fun K' hk'=>by unfold F.zkt; exact hk' _ _ (Hp.le_refl _) rfl) fun b h2 hl2 hb=>?_
   have hle2:=Hp.le_trans hl1 hl2
   refine za7 (fun h3=>zhe (ht.le hle2) fun h3 hl3=>hk _ (Hp.le_trans hle2 hl3)) (fun h3=>⟨hle2,?_⟩)
   rw [hb] at h3
   have:(g.edges.len:Int)≤100:=by simpa using h3
   omega
theorem za57 (hg:LR a2c 2 A2P h g.edges es) (hlen:es.length≤140737488355328) (ht:GT h) (hk:∀h',h.le h'→K true h'):F.zi1 g K h:=by
 unfold F.zi1
 have hgl:=hg.len zaz
 refine za5 (fun _ h'=>h.le h'∧GV g.n es∧g.n≤8∧es.length≤20) ?_ ?_
 · rintro _ h1 ⟨hl1,hv,h8,h20⟩
   obtain ⟨N,hN⟩:∃N:Nat,g.n=N:=⟨g.n.toNat,by have:=hv.1.1; omega⟩
   have hes:=hv.2.1
   rw [hN] at hes
   refine zm7 fun r3 h3 hl3 hr3=>?_
   have hle3:=Hp.le_trans hl1 hl3
   refine zmh (g:=g) (es:=es) (N:=N) hN (by omega) (hg.le zaz hle3) h20 hr3 fun s4 S4 h4 hl4 hx4 hd4=>?_
   have hle4:=Hp.le_trans hle3 hl4
   have v4:VS S4:=hd4.vs dec1 hes
   have ss4:sSk S4:=hd4.ss (by omega) h20
   have k4:=zpo hd4 hes
   refine zq3 hx4 ss4 (ht.le hle4) fun r5 h5 hl5 hr5=>?_
   have hle5:=Hp.le_trans hle4 hl5
   have hcl:=zq7 ss4
   obtain ⟨i1,i2⟩:IL h5 r5.1 (coreS S4)∧r5.2.len=indN es (coreS S4):=by
    rcases hr5 with ⟨_,_,h6,h7⟩ | ⟨h6,h7⟩
    · exact ⟨h6,by rw [h7.len,za7v hd4]⟩
    · rcases h6 with h6 | h6
      · exact absurd v4 h6
      · rw [h6,h7]
        refine ⟨IL.nil,?_⟩
        show 0=_
        unfold indN
        simp
   refine zr5 (hg.le zaz hle5) (by omega) hv i1 (by omega) fun y6 h6 hl6 hy6=>?_
   have hle6:=Hp.le_trans hle5 hl6
   refine zjh (hg.le zaz hle6) (by omega) (fun _ _ hn=>absurd hv hn) (fun y T h7 hl7 _ hi hc=>?_)
   rw [hN,show ((N:Nat):Int).toNat=N from rfl] at hc
   rw [hc.unique k4] at hi
   refine zes (i1.le (Hp.le_trans hl6 hl7)) hi (by omega) fun h8 hl8=>zc8 (decide_eq_true rfl) ?_
   rw [i2,hy6,beq_self_eq_true]
   exact hk _ (Hp.le_trans hle6 (Hp.le_trans hl7 hl8))
 · refine zhe ht fun h1 hl1=>zba rfl ?_
   refine zjf (hg.le zaz hl1) hlen fun b h2 hl2 hb=>?_
   have hle2:=Hp.le_trans hl1 hl2
   have aw:callP F.zcl (fun r13 h12=>K r13 h12) h2:=zhe (ht.le hle2) fun h3 hl3=>hk _ (Hp.le_trans hle2 hl3)
   refine za7 (fun _=>aw) (fun h3=>za1 (fun _=>aw) (fun h4=>za1 (fun _=>aw) (fun h5=>⟨hle2,hb.1 (by simpa using h3),by omega,by omega⟩)))
end
end Den
end
