/-
  Part 7 of the tools and contracts from which the statement is proved.
-/
import Derived.Test.YthifcokendanpaaGreatDoorPartf6
import Derived.Test.YthifcokendanpaaGreatDoorProg
import Derived.Laws.Externs
set_option linter.all false
section
set_option maxRecDepth 100000
namespace Den
open Go Go.Proofs.Tryz
noncomputable section
noncomputable def zsv:FSem:=mkE (ArgT.cons tyTSketch ArgT.nil) (Ty.leaf (.int .i64)) fun a=>F.zfa a.1
theorem zzl:Entry prog 56 zsv false:=eo { P:=prog,n:=49,tab:=[(113,e_x3),(114,e_x32),(117,e_x39),(121,e_x44),(123,e_x50),(126,e_x57),(129,za54)],locL:=[3,4] } (.seq .leaf (.seq (.seq .leaf (.cond (.seq .leaf .leaf) .leaf)) (.seq (.drawP [0,1,2,3,4,5,6,7,8,9] [3,4]) (.join [(5,.leaf (.bool))] .leaf (.seq (.seq .leaf (.cond (.seq .leaf .leaf) .leaf)) (.seq .leaf .leaf)))))) func56 ⟨t_x3,t_x32,t_x39,t_x44,t_x50,t_x57,zafc,trivial⟩
noncomputable def za55:FSem:=mkE (ArgT.cons (Ty.leaf .sl) (ArgT.cons (Ty.leaf .sl) ArgT.nil)) (Ty.leaf .bool) fun a=>F.zdn a.1 a.2.1
theorem zafd:Entry prog 95 za55 false:=eo { P:=prog,n:=26,tab:=[] } (.seq .leaf (.seq (.seq .leaf (.cond (.seq .leaf .leaf) .leaf)) (.seq (.seq .leaf (.block (.loop [(13,.leaf (.int .i64))] (.seq .leaf (.seq (.cond .leaf .leaf) (.seq (.block (.seq .leaf (.seq (.draw [0,1,2,3,4,5,6,7,8]) (.cond (.seq .leaf .leaf) .leaf)))) .leaf)))))) (.seq .leaf .leaf)))) func95 trivial
noncomputable def za56:FSem:=mkE (ArgT.cons (Ty.leaf .sl) (ArgT.cons (Ty.leaf .sl) ArgT.nil)) (Ty.leaf .bool) fun a=>F.zgt a.1 a.2.1
theorem zafe:Entry prog 267 za56 false:=eo { P:=prog,n:=26,tab:=[] } (.seq .leaf (.seq (.seq .leaf (.cond (.seq .leaf .leaf) .leaf)) (.seq (.seq .leaf (.block (.loop [(13,.leaf (.int .i64))] (.seq .leaf (.seq (.cond .leaf .leaf) (.seq (.block (.seq .leaf (.seq (.draw [0,1,2,3,4,5,6,7,8]) (.cond (.seq .leaf .leaf) .leaf)))) .leaf)))))) (.seq .leaf .leaf)))) func267 trivial
noncomputable def za57:FSem:=mkE (ArgT.cons tyTInt (ArgT.cons tyTInt ArgT.nil)) (Ty.leaf .bool) fun a=>F.zj1 a.1 a.2.1
theorem zaff:Entry prog 251 za57 false:=eo { P:=prog,n:=17,tab:=[(267,za56)],rtL:=[(5,2),(7,3),(11,2),(13,3)],locL:=[2,3] } (.seq .leaf (.seq .leaf .leaf)) func251 ⟨zafe,trivial⟩
noncomputable def zsh:ArgT (Sl×Sl×Unit):=(ArgT.cons (Ty.leaf .sl) (ArgT.cons (Ty.leaf .sl) (ArgT.fn 227 ArgT.nil)))
noncomputable def zsk:Ty Bool:=(Ty.leaf .bool)
noncomputable def zadj:ArgT (TExpr×TExpr×Unit):=(ArgT.cons tyTExpr (ArgT.cons tyTExpr ArgT.nil))
noncomputable def zadl:Ty Bool:=(Ty.leaf .bool)
noncomputable def za58 (Q_slices_EqualFunc_api_Expr_api_Expr_api_Expr_api_Expr_formula_Equal:Sl→Sl→(Bool→Hp→Prop)→Hp→Prop):FSem:=mkE zadj zadl fun a=>F.zpo Q_slices_EqualFunc_api_Expr_api_Expr_api_Expr_api_Expr_formula_Equal a.1 a.2.1
theorem zafg (Q_slices_EqualFunc_api_Expr_api_Expr_api_Expr_api_Expr_formula_Equal:Sl→Sl→(Bool→Hp→Prop)→Hp→Prop) (h_slices_EqualFunc_api_Expr_api_Expr_api_Expr_api_Expr_formula_Equal:Entry prog 226 (mkE zsh zsk (fun a=>Q_slices_EqualFunc_api_Expr_api_Expr_api_Expr_api_Expr_formula_Equal a.1 a.2.1)) false):Entry prog 227 (za58 Q_slices_EqualFunc_api_Expr_api_Expr_api_Expr_api_Expr_formula_Equal) false:=eo { P:=prog,n:=42,tab:=[(251,za57),(226,mkE zsh zsk (fun a=>Q_slices_EqualFunc_api_Expr_api_Expr_api_Expr_api_Expr_formula_Equal a.1 a.2.1))],rtL:=[(5,2),(7,3),(11,2),(13,3),(18,2),(19,2),(21,3),(22,3),(27,2),(28,2),(30,3),(31,3),(36,2),(38,3)],locL:=[2,3] } (.seq .leaf (.seq .leaf .leaf)) func227 ⟨zaff,h_slices_EqualFunc_api_Expr_api_Expr_api_Expr_api_Expr_formula_Equal,trivial⟩
noncomputable def za59:FSem:=mkE zsh zsk fun a=>F.zam a.1 a.2.1
noncomputable def zadp (n:Nat):Cfg:={ P:=prog,n:=32,tab:=[(227,(za58 (F.za9 n)))],locL:=[8,9] }
theorem zaa1:∃fn,prog.funcs[226]?=some fn∧fn.body.isNone=false∧(fn.name == "runtime.NumGoroutine")=false:=⟨_,func226,rfl,by decide⟩
theorem zaa7:∀n a K D w,Sub D w→F.za9 n a.1 a.2.1 K D→Calls prog 226 (zsh.up a).toArray w (Post (fun v h=>zsk.dn v fun r=>K r h) D w)
 | 0,_,_,_,_,_,h=>h.elim
 | n+1,a,K,D,w,hs,h=>zj5 (C:=zadp n) (F:=fun a=>F.za9 (n+1) a.1 a.2.1) (fn:=f226) (c:=bd f226) (an:=(.seq .leaf (.seq (.seq .leaf (.cond (.seq .leaf .leaf) .leaf)) (.seq (.seq .leaf (.block (.loop [(17,.leaf (.int .i64))] (.seq .leaf (.seq (.cond .leaf .leaf) (.seq (.block (.seq .leaf (.seq .leaf (.seq .leaf (.cond (.seq .leaf .leaf) .leaf))))) .leaf)))))) (.seq .leaf .leaf))))) ⟨(zafg (F.za9 n) (zda zaa1 (zaa7 n))),trivial⟩ trivial func226 rfl rfl (fun _=>rfl) (by intro a K D; kernel_rfl) a K D w hs h
theorem zafh:Entry prog 226 za59 false:=zda zaa1 (fun a K D w hs h=>h.elim fun m h=>zaa7 m a K D w hs h)
noncomputable def za5a:FSem:=mkE (ArgT.cons tyTConstraint (ArgT.cons tyTConstraint ArgT.nil)) (Ty.leaf .bool) fun a=>F.zdw a.1 a.2.1
theorem zafi:Entry prog 194 za5a false:=eo { P:=prog,n:=38,tab:=[(95,za55),(226,za59)],rtL:=[(5,2),(7,3),(11,2),(13,3),(18,2),(20,3),(25,2),(27,3),(32,2),(34,3)],locL:=[2,3] } (.seq .leaf (.seq .leaf .leaf)) func194 ⟨zafd,zafh,trivial⟩
noncomputable def za5b:FSem:=mkE (ArgT.cons tyTConstraint (ArgT.cons (Ty.leaf .ptr) ArgT.nil)) (Ty.leaf .bool) fun a=>F.zf9 a.1 a.2.1
theorem zafj:Entry prog 193 za5b false:=eo { P:=prog,n:=7,tab:=[(194,za5a)],locL:=[2] } (.seq .leaf (.seq .leaf .leaf)) func193 ⟨zafi,trivial⟩
noncomputable def za5c:FSem:=mkE (ArgT.cons (Ty.leaf .sl) (ArgT.fnc 193 1 ArgT.nil)) (Ty.leaf (.int .i64)) fun a=>F.zaq a.1 a.2.1
theorem zafk:Entry prog 221 za5c false:=eo { P:=prog,n:=19,tab:=[(193,za5b)] } (.seq .leaf (.seq (.seq .leaf (.block (.loop [(8,.leaf (.int .i64))] (.seq .leaf (.seq (.cond .leaf .leaf) (.seq (.block (.seq .leaf (.seq .leaf (.cond (.seq .leaf .leaf) .leaf)))) .leaf)))))) (.seq .leaf .leaf))) func221 ⟨zafj,trivial⟩
noncomputable def za5d:FSem:=mkE (ArgT.cons (Ty.leaf .sl) (ArgT.fnc 193 1 ArgT.nil)) (Ty.leaf .bool) fun a=>F.za5 a.1 a.2.1
theorem zafl:Entry prog 184 za5d false:=eo { P:=prog,n:=9,tab:=[(221,za5c)] } (.seq .leaf (.seq .leaf .leaf)) func184 ⟨zafk,trivial⟩
noncomputable def zx8:FSem:=mkE (ArgT.cons tyTSketch ArgT.nil) (Ty.leaf .sl) fun a=>F.ze3 a.1
theorem za95:Entry prog 133 zx8 false:=eo { P:=prog,n:=52,tab:=[(184,za5d)],rtL:=[(10,1),(17,5),(19,5),(29,5),(34,1)],locL:=[1,5,47] } (.seq .leaf (.seq .leaf (.seq (.seq .leaf (.block (.loop [(3,.leaf (.sl)),(13,.leaf (.int .i64))] (.seq .leaf (.seq (.cond .leaf .leaf) (.seq (.block (.seq .leaf (.seq .leaf (.block (.loop [(3,.leaf (.sl)),(23,.leaf (.int .i64))] (.seq .leaf (.seq (.cond .leaf .leaf) (.join [(3,.leaf (.sl))] (.block (.seq .leaf (.seq .leaf (.seq .leaf (.seq .leaf (.cond .leaf .leaf)))))) .leaf)))))))) .leaf)))))) (.seq .leaf .leaf)))) func133 ⟨zafl,trivial⟩
noncomputable def za5e:FSem:=mkE (ArgT.cons (Ty.leaf .sl) (ArgT.cons (Ty.leaf (.int .i64)) ArgT.nil)) (Ty.leaf .sl) fun a=>F.zbt a.1 a.2.1
theorem zafm:Entry prog 192 za5e false:=eo { P:=prog,n:=27,tab:=[] } (.seq .leaf (.join [] (.seq .leaf (.cond .leaf .leaf)) (.seq (.seq .leaf (.seq .leaf (.cond .leaf .leaf))) (.seq .leaf .leaf)))) func192 trivial
noncomputable def za5f:FSem:=mkE (ArgT.cons (Ty.leaf .sl) ArgT.nil) (Ty.leaf .sl) fun a=>F.zbp a.1
theorem zafn:Entry prog 132 za5f false:=eo { P:=prog,n:=36,tab:=[(192,za5e)] } (.seq .leaf (.seq .leaf (.seq (.seq .leaf (.block (.loop [(3,.leaf (.int .i64)),(11,.leaf (.int .i64))] (.seq .leaf (.seq (.cond .leaf .leaf) (.join [(3,.leaf (.int .i64))] (.block (.seq .leaf (.seq .leaf (.seq .leaf (.cond .leaf .leaf))))) .leaf)))))) (.seq .leaf (.seq (.seq .leaf (.block (.loop [(6,.leaf (.sl)),(27,.leaf (.int .i64))] (.seq .leaf (.seq (.cond .leaf .leaf) (.seq (.block (.seq .leaf .leaf)) .leaf)))))) (.seq .leaf .leaf)))))) func132 ⟨zafm,trivial⟩
noncomputable def zx9:FSem:=mkE (ArgT.cons (Ty.leaf .sl) ArgT.nil) (Ty.leaf .sl) fun a=>F.zdm a.1
theorem za96:Entry prog 134 zx9 false:=eo { P:=prog,n:=8,tab:=[] } (.seq .leaf (.seq (.seq .leaf (.cond (.seq .leaf .leaf) .leaf)) (.seq .leaf .leaf))) func134 trivial
noncomputable def za5g:FSem:=mkE (ArgT.cons tyTSketch ArgT.nil) (Ty.leaf .ptr) fun a=>F.zfw a.1
theorem zafo:Entry prog 57 za5g false:=eo { P:=prog,n:=99,tab:=[(133,zx8),(132,za5f),(134,zx9)],rtL:=[(12,1),(20,1),(32,5),(48,7),(51,7),(63,7),(67,7),(72,7)],locL:=[1,5,7,34,61,84,93] } (.seq .leaf (.seq (.draw [0,1,2,3,4,5,6,7,8,9]) (.seq (.seq .leaf (.block (.loop [(23,.leaf (.int .i64))] (.seq .leaf (.seq (.cond .leaf .leaf) (.seq (.block (.seq .leaf (.draw [0,1,2,3,4,5,6,7,8,9,10,11]))) .leaf)))))) (.seq (.seq .leaf (.block (.loop [(44,.leaf (.int .i64))] (.seq .leaf (.seq (.cond .leaf .leaf) (.seq (.block (.seq .leaf (.seq .leaf (.seq (.seq .leaf (.block (.loop [(8,.leaf (.sl)),(54,.leaf (.int .i64))] (.seq .leaf (.seq (.cond .leaf .leaf) (.join [(8,.leaf (.sl))] (.block (.seq .leaf (.seq .leaf (.seq .leaf (.cond .leaf .leaf))))) .leaf)))))) .leaf)))) .leaf)))))) (.seq .leaf .leaf))))) func57 ⟨za95,zafn,za96,trivial⟩
noncomputable def za5h:FSem:=mkE (ArgT.cons (Ty.leaf .ptr) ArgT.nil) (Ty.leaf .sl) fun a=>F.y_henneberg_peeler_all a.1
theorem zafp:Entry prog 136 za5h false:=eo { P:=prog,n:=36,tab:=[],locL:=[17,32] } (.seq .leaf (.seq .leaf (.seq (.seq .leaf (.block (.loop [(3,.leaf (.sl)),(12,.leaf (.int .i64))] (.seq .leaf (.seq (.cond .leaf .leaf) (.seq (.block (.seq .leaf .leaf)) .leaf)))))) (.seq (.seq .leaf (.block (.loop [(3,.leaf (.sl)),(26,.leaf (.int .i64))] (.seq .leaf (.seq (.cond .leaf .leaf) (.seq (.block (.seq .leaf .leaf)) .leaf)))))) (.seq .leaf .leaf))))) func136 trivial
noncomputable def za5i:FSem:=mkE (ArgT.cons (Ty.leaf (.int .i64)) (ArgT.cons (Ty.leaf .ptr) ArgT.nil)) (Ty.leaf .bool) fun a=>F.y_henneberg_peeler_remaining_1 a.1 a.2.1
theorem zafq:Entry prog 141 za5i false:=eo { P:=prog,n:=7,tab:=[(98,zjj)] } (.seq .leaf (.seq .leaf .leaf)) func141 ⟨zls,trivial⟩
noncomputable def za5j:FSem:=mkE (ArgT.cons (Ty.leaf .sl) (ArgT.fnc 141 1 ArgT.nil)) (Ty.leaf (.int .i64)) fun a=>F.zbm a.1 a.2.1
theorem zafr:Entry prog 135 za5j false:=eo { P:=prog,n:=19,tab:=[(141,za5i)] } (.seq .leaf (.seq (.seq .leaf (.block (.loop [(8,.leaf (.int .i64))] (.seq .leaf (.seq (.cond .leaf .leaf) (.seq (.block (.seq .leaf (.seq .leaf (.cond (.seq .leaf .leaf) .leaf)))) .leaf)))))) (.seq .leaf .leaf))) func135 ⟨zafq,trivial⟩
noncomputable def za5k:FSem:=mkE (ArgT.cons (Ty.leaf .sl) (ArgT.fnc 141 1 ArgT.nil)) (Ty.leaf .bool) fun a=>F.zbf a.1 a.2.1
theorem zafs:Entry prog 102 za5k false:=eo { P:=prog,n:=9,tab:=[(135,za5j)] } (.seq .leaf (.seq .leaf .leaf)) func102 ⟨zafr,trivial⟩
noncomputable def za5l:FSem:=mkE (ArgT.cons (Ty.leaf .ptr) (ArgT.cons (Ty.leaf (.int .i64)) (ArgT.cons (Ty.leaf .sl) ArgT.nil))) (Ty.leaf .sl) fun a=>F.y_henneberg_peeler_remaining a.1 a.2.1 a.2.2.1
theorem zaft:Entry prog 60 za5l false:=eo { P:=prog,n:=35,tab:=[(98,zjj),(102,za5k)],locL:=[31] } (.seq .leaf (.seq .leaf (.seq (.seq .leaf (.block (.loop [(7,.leaf (.sl)),(15,.leaf (.int .i64))] (.seq .leaf (.seq (.cond .leaf .leaf) (.join [(7,.leaf (.sl))] (.block (.seq .leaf (.seq .leaf (.cond .leaf .leaf)))) .leaf)))))) (.seq .leaf .leaf)))) func60 ⟨zls,zafs,trivial⟩
noncomputable def zxa:FSem:=mkE (ArgT.cons (Ty.leaf .ptr) (ArgT.cons (Ty.leaf (.int .i64)) ArgT.nil)) (Ty.leaf (.int .i64)) fun a=>F.y_henneberg_peeler_equations a.1 a.2.1
theorem za97:Entry prog 140 zxa false:=eo { P:=prog,n:=21,tab:=[(109,e_x58)],rtL:=[(19,5)],locL:=[5] } (.seq .leaf (.seq .leaf (.seq .leaf .leaf))) func140 ⟨t_x58,trivial⟩
noncomputable def za5m:FSem:=mkE (ArgT.cons (Ty.leaf .ptr) (ArgT.cons (Ty.leaf .sl) ArgT.nil)) (Ty.leaf (.int .i64)) fun a=>F.y_henneberg_peeler_weight a.1 a.2.1
theorem zafu:Entry prog 76 za5m false:=eo { P:=prog,n:=21,tab:=[(140,zxa)] } (.seq .leaf (.seq .leaf (.seq (.seq .leaf (.block (.loop [(5,.leaf (.int .i64)),(10,.leaf (.int .i64))] (.seq .leaf (.seq (.cond .leaf .leaf) (.seq (.block (.seq .leaf .leaf)) .leaf)))))) (.seq .leaf .leaf)))) func76 ⟨za97,trivial⟩
noncomputable def zxb:FSem:=mkE (ArgT.cons tyTConstraint (ArgT.cons (Ty.leaf .sl) (ArgT.cons (Ty.leaf (.int .i64)) ArgT.nil))) (Ty.leaf .bool) fun a=>F.zih a.1 a.2.1 a.2.2.1
theorem za98:Entry prog 154 zxb false:=eo { P:=prog,n:=52,tab:=[(162,zx7),(98,zjj)],rtL:=[(8,3),(14,3),(22,3),(32,3),(37,3),(44,3)],locL:=[3] } (.seq .leaf (.seq .leaf (.seq (.seq .leaf (.cond (.seq .leaf .leaf) .leaf)) (.seq (.seq .leaf (.block (.join [(16,.leaf (.bool))] (.seq .leaf (.cond .leaf .leaf)) (.cond (.seq .leaf .leaf) (.join [(19,.leaf (.bool))] (.seq .leaf (.cond .leaf .leaf)) (.cond (.seq (.draw [0,1,2,3,4,5,6,7,8]) .leaf) (.seq .leaf (.cond (.seq (.draw [0,1,2,3,4,5,6,7,8,9,10,11,12,13,14,15,16,17,18,19,20]) .leaf) .leaf)))))))) (.seq .leaf .leaf))))) func154 ⟨za94,zls,trivial⟩
noncomputable def za5n:FSem:=mkE (ArgT.cons (Ty.leaf (.int .i64)) (ArgT.cons (Ty.leaf .ptr) (ArgT.cons (Ty.leaf .ptr) ArgT.nil))) (Ty.leaf .bool) fun a=>F.y_henneberg_peeler_removable_1 a.1 a.2.1 a.2.2.1
theorem zafv:Entry prog 153 za5n false:=eo { P:=prog,n:=20,tab:=[(154,zxb)] } (.seq .leaf (.seq (.draw [0,1,2,3,4,5,6,7,8,9,10,11,12,13,14,15]) .leaf)) func153 ⟨za98,trivial⟩
noncomputable def za5o:FSem:=mkE (ArgT.cons (Ty.leaf .sl) (ArgT.fnc 153 2 ArgT.nil)) (Ty.leaf (.int .i64)) fun a=>F.zbn a.1 a.2.1
theorem zafw:Entry prog 135 za5o false:=eo { P:=prog,n:=19,tab:=[(153,za5n)] } (.seq .leaf (.seq (.seq .leaf (.block (.loop [(8,.leaf (.int .i64))] (.seq .leaf (.seq (.cond .leaf .leaf) (.seq (.block (.seq .leaf (.seq .leaf (.cond (.seq .leaf .leaf) .leaf)))) .leaf)))))) (.seq .leaf .leaf))) func135 ⟨zafv,trivial⟩
noncomputable def za5p:FSem:=mkE (ArgT.cons (Ty.leaf .sl) (ArgT.fnc 153 2 ArgT.nil)) (Ty.leaf .bool) fun a=>F.zbg a.1 a.2.1
theorem zafx:Entry prog 102 za5p false:=eo { P:=prog,n:=9,tab:=[(135,za5o)] } (.seq .leaf (.seq .leaf .leaf)) func102 ⟨zafw,trivial⟩
noncomputable def za5q:FSem:=mkE (ArgT.cons tyTConstraint (ArgT.cons (Ty.leaf (.int .i64)) ArgT.nil)) (Ty.leaf .sl) fun a=>F.zjn a.1 a.2.1
theorem zafy:Entry prog 207 za5q false:=eo { P:=prog,n:=25,tab:=[],rtL:=[(8,2)],locL:=[2,21] } (.seq .leaf (.seq .leaf (.seq (.seq .leaf (.block (.loop [(5,.leaf (.sl)),(11,.leaf (.int .i64))] (.seq .leaf (.seq (.cond .leaf .leaf) (.join [(5,.leaf (.sl))] (.block (.seq .leaf (.seq .leaf (.cond .leaf .leaf)))) .leaf)))))) (.seq .leaf .leaf)))) func207 trivial
noncomputable def za5r:FSem:=mkE (ArgT.cons (Ty.leaf (.int .i64)) (ArgT.cons (Ty.leaf .ptr) (ArgT.cons (Ty.leaf .ptr) (ArgT.cons (Ty.leaf .ptr) ArgT.nil)))) (Ty.leaf .bool) fun a=>F.zf5 a.1 a.2.1 a.2.2.1 a.2.2.2.1
theorem zafz:Entry prog 208 za5r false:=eo { P:=prog,n:=16,tab:=[] } (.seq .leaf (.seq (.draw [0,1,2,3,4,5,6,7,8,9,10]) .leaf)) func208 trivial
noncomputable def zxc:FSem:=mkE (ArgT.cons tyTConstraint (ArgT.cons (Ty.leaf .sl) (ArgT.cons (Ty.leaf (.int .i64)) ArgT.nil))) (Ty.leaf (.int .i64)) fun a=>F.zjm a.1 a.2.1 a.2.2.1
theorem za99:Entry prog 161 zxc false:=eo { P:=prog,n:=77,tab:=[(207,za5q),(208,za5r)] } (.seq .leaf (.seq .leaf (.seq .leaf (.seq (.seq .leaf (.block (.seq .leaf (.cond (.seq (.seq .leaf (.cond (.seq .leaf .leaf) .leaf)) (.seq .leaf .leaf)) (.seq .leaf (.cond (.seq (.seq .leaf (.cond (.seq .leaf .leaf) .leaf)) (.seq .leaf .leaf)) (.seq .leaf (.cond (.seq (.seq .leaf (.cond (.seq .leaf .leaf) .leaf)) (.seq .leaf .leaf)) .leaf)))))))) (.seq (.seq .leaf (.cond (.seq .leaf .leaf) .leaf)) (.seq (.seq .leaf (.block (.join [(44,.leaf (.bool))] (.seq .leaf (.cond .leaf .leaf)) (.cond (.seq .leaf .leaf) (.seq .leaf (.cond (.seq .leaf .leaf) (.join [(49,.leaf (.bool))] (.seq .leaf (.cond .leaf (.seq .leaf (.cond .leaf (.seq .leaf (.cond .leaf .leaf)))))) (.cond (.seq .leaf .leaf) (.seq .leaf (.cond (.seq .leaf (.cond (.seq .leaf .leaf) .leaf)) (.seq .leaf (.cond (.seq .leaf (.cond (.seq .leaf .leaf) .leaf)) (.join [(66,.leaf (.bool))] (.seq .leaf (.cond .leaf .leaf)) (.cond (.seq (.seq .leaf (.cond (.seq .leaf .leaf) .leaf)) (.seq .leaf .leaf)) (.seq .leaf (.cond (.seq (.seq .leaf (.cond (.seq .leaf .leaf) .leaf)) (.seq .leaf .leaf)) .leaf)))))))))))))))) (.seq .leaf .leaf))))))) func161 ⟨zafy,zafz,trivial⟩
noncomputable def za5s:FSem:=mkE (ArgT.cons (Ty.leaf .ptr) (ArgT.cons (Ty.leaf (.int .i64)) (ArgT.cons (Ty.leaf (.int .i64)) ArgT.nil))) (Ty.leaf (.int .i64)) fun a=>F.y_henneberg_peeler_kind a.1 a.2.1 a.2.2.1
theorem zag0:Entry prog 139 za5s false:=eo { P:=prog,n:=20,tab:=[(161,zxc)] } (.seq .leaf (.seq (.draw [0,1,2,3,4,5,6,7,8,9,10,11,12,13]) .leaf)) func139 ⟨za99,trivial⟩
noncomputable def za5t:FSem:=mkE (ArgT.cons (Ty.leaf .ptr) (ArgT.cons (Ty.leaf (.int .i64)) (ArgT.cons (Ty.leaf .sl) ArgT.nil))) (Ty.leaf .bool) fun a=>F.y_henneberg_peeler_removable a.1 a.2.1 a.2.2.1
theorem zag1:Entry prog 71 za5t false:=eo { P:=prog,n:=60,tab:=[(98,zjj),(60,za5l),(76,za5m),(102,za5p),(139,za5s),(140,zxa)] } (.seq .leaf (.seq (.seq .leaf (.cond (.seq .leaf .leaf) .leaf)) (.seq .leaf (.seq (.seq .leaf (.cond (.seq .leaf .leaf) .leaf)) (.seq (.seq .leaf (.cond (.seq .leaf .leaf) .leaf)) (.seq (.seq .leaf (.block (.loop [(37,.leaf (.int .i64))] (.seq .leaf (.seq (.cond .leaf .leaf) (.seq (.block (.seq .leaf (.seq .leaf (.join [(11,.leaf (.bool))] .leaf (.join [(11,.leaf (.bool))] (.seq .leaf (.cond .leaf .leaf)) (.seq .leaf (.cond (.seq .leaf .leaf) .leaf))))))) .leaf)))))) (.seq .leaf .leaf))))))) func71 ⟨zls,zaft,zafu,zafx,zag0,za97,trivial⟩
noncomputable def za5u:FSem:=mkE (ArgT.cons (Ty.leaf (.int .i64)) (ArgT.cons (Ty.leaf .ptr) (ArgT.cons (Ty.leaf .ptr) ArgT.nil))) (Ty.leaf .bool) fun a=>F.y_henneberg_peeler_peel_1 a.1 a.2.1 a.2.2.1
theorem zag2:Entry prog 137 za5u false:=eo { P:=prog,n:=9,tab:=[(71,za5t)] } (.seq .leaf (.seq .leaf .leaf)) func137 ⟨zag1,trivial⟩
noncomputable def za5v:FSem:=mkE (ArgT.cons (Ty.leaf .sl) (ArgT.fnc 137 2 ArgT.nil)) (Ty.leaf (.int .i64)) fun a=>F.zba a.1 a.2.1
theorem zag3:Entry prog 135 za5v false:=eo { P:=prog,n:=19,tab:=[(137,za5u)] } (.seq .leaf (.seq (.seq .leaf (.block (.loop [(8,.leaf (.int .i64))] (.seq .leaf (.seq (.cond .leaf .leaf) (.seq (.block (.seq .leaf (.seq .leaf (.cond (.seq .leaf .leaf) .leaf)))) .leaf)))))) (.seq .leaf .leaf))) func135 ⟨zag2,trivial⟩
noncomputable def zxd:FSem:=mkE (ArgT.cons (Ty.leaf (.int .i64)) (ArgT.cons (Ty.leaf .ptr) ArgT.nil)) (Ty.leaf .bool) fun a=>F.y_henneberg_peeler_peel_2 a.1 a.2.1
theorem za9a:Entry prog 138 zxd false:=eo { P:=prog,n:=7,tab:=[(98,zjj)] } (.seq .leaf (.seq .leaf .leaf)) func138 ⟨zls,trivial⟩
noncomputable def za5w:FSem:=mkE (ArgT.cons (Ty.leaf .sl) (ArgT.fnc 138 1 ArgT.nil)) (Ty.leaf (.int .i64)) fun a=>F.zbx a.1 a.2.1
theorem zag4:Entry prog 135 za5w false:=eo { P:=prog,n:=19,tab:=[(138,zxd)] } (.seq .leaf (.seq (.seq .leaf (.block (.loop [(8,.leaf (.int .i64))] (.seq .leaf (.seq (.cond .leaf .leaf) (.seq (.block (.seq .leaf (.seq .leaf (.cond (.seq .leaf .leaf) .leaf)))) .leaf)))))) (.seq .leaf .leaf))) func135 ⟨za9a,trivial⟩
noncomputable def za5x:FSem:=mkM (ArgT.cons (Ty.leaf .sl) (ArgT.fnc 138 1 ArgT.nil)) (Ty.leaf .sl) fun a=>F.zb8 a.1 a.2.1
theorem zag5:Entry prog 100 za5x true:=eoM { P:=prog,n:=42,tab:=[(135,za5w),(138,zxd)] } (.seq .leaf (.seq .leaf (.seq (.seq .leaf (.cond (.seq .leaf .leaf) .leaf)) (.seq (.seq .leaf (.block (.loop [(5,.leaf (.int .i64)),(6,.leaf (.int .i64))] (.seq (.seq .leaf (.cond .leaf .leaf)) (.join [(5,.leaf (.int .i64))] (.block (.seq .leaf (.seq .leaf (.cond (.seq .leaf .leaf) .leaf)))) .leaf))))) (.seq .leaf (.seq .leaf .leaf)))))) func100 ⟨zag4,za9a,trivial⟩
noncomputable def za5y:FSem:=mkE (ArgT.cons (Ty.leaf .ptr) ArgT.nil) (Ty.tup (.cons (Ty.leaf .sl) (.cons (Ty.leaf .sl) .nil)) (fun x=>(x.1,x.2,())) (fun y=>(y.1,y.2.1)) (fun _=>rfl) (fun _=>rfl)) fun a=>F.y_henneberg_peeler_peel a.1
theorem zag6:Entry prog 58 za5y false:=eo { P:=prog,n:=27,tab:=[(136,za5h),(135,za5v),(100,za5x)],mutL:=[100],locL:=[19] } (.seq .leaf (.seq .leaf (.seq (.block (.loop [(4,.leaf (.ptr))] (.block (.seq .leaf (.seq (.seq .leaf (.cond .leaf .leaf)) (.draw [0,1,3,2,4,5,6,7,8])))))) (.seq .leaf (.seq .leaf .leaf))))) func58 ⟨zafp,zag3,zag5,trivial⟩
noncomputable def zxe:FSem:=mkE (ArgT.cons tyTSketch ArgT.nil) (Ty.tup (.cons (Ty.leaf .sl) (.cons (Ty.leaf .sl) .nil)) (fun x=>(x.1,x.2,())) (fun y=>(y.1,y.2.1)) (fun _=>rfl) (fun _=>rfl)) fun a=>F.zfz a.1
theorem za9b:Entry prog 19 zxe false:=eo { P:=prog,n:=12,tab:=[(56,zsv),(57,za5g),(58,za5y)],locL:=[1] } (.seq .leaf (.seq (.seq .leaf (.cond (.seq .leaf .leaf) .leaf)) (.seq .leaf .leaf))) func19 ⟨zzl,zafo,zag6,trivial⟩
noncomputable def za5z:FSem:=mkE (ArgT.cons tyTSketch ArgT.nil) (Ty.leaf .bool) fun a=>F.zmb a.1
theorem zag7:Entry prog 63 za5z false:=eo { P:=prog,n:=52,tab:=[],rtL:=[(5,1),(11,1),(18,1),(23,1),(29,1),(35,1),(41,1),(47,1)],locL:=[1] } (.seq .leaf (.seq (.seq .leaf (.block (.loop [(3,.leaf (.int .i64))] (.seq (.seq .leaf (.cond .leaf .leaf)) (.seq (.block (.seq .leaf (.cond (.seq .leaf .leaf) .leaf))) .leaf))))) (.seq .leaf .leaf))) func63 trivial
end
end Den
end

section
set_option maxRecDepth 100000
namespace Den
open Go Go.Proofs.Tryz
noncomputable section
noncomputable def zgl:FSem:=mkE (ArgT.cons (Ty.leaf .sl) ArgT.nil) (Ty.leaf .sl) fun a=>F.zbc a.1
theorem zi2:Entry prog 196 zgl false:=eo { P:=prog,n:=21,tab:=[] } (.seq .leaf (.seq (.block (.loop [(0,.leaf (.sl))] (.join [] (.seq .leaf (.cond .leaf .leaf)) (.block .leaf)))) (.seq .leaf .leaf))) func196 trivial
noncomputable def za60:FSem:=mkE (ArgT.cons tyTInt ArgT.nil) (Ty.leaf .bool) fun a=>F.zii a.1
theorem zag8:Entry prog 144 za60 false:=eo { P:=prog,n:=22,tab:=[(196,zgl)],rtL:=[(3,1),(7,1),(12,1),(16,1)],locL:=[1] } (.seq .leaf (.seq (.draw [0,1,4,5,6,2,3,7,8,9,10,11,12,13,14,15,16,17,18,19]) .leaf)) func144 ⟨zi2,trivial⟩
noncomputable def zlf:FSem:=mkE (ArgT.cons (Ty.leaf .bool) (ArgT.cons (Ty.leaf .sl) ArgT.nil)) tyTInt fun a=>F.zbz a.1 a.2.1
theorem zna:Entry prog 199 zlf false:=eo { P:=prog,n:=15,tab:=[(196,zgl)],locL:=[4] } (.seq .leaf (.seq .leaf (.seq .leaf .leaf))) func199 ⟨zi2,trivial⟩
noncomputable def zof:FSem:=mkE (ArgT.cons tyTInt ArgT.nil) tyTInt fun a=>F.zd3 a.1
theorem zqm:Entry prog 197 zof false:=eo { P:=prog,n:=8,tab:=[(199,zlf)],rtL:=[(3,1),(5,1)],locL:=[1,2] } (.seq .leaf (.seq .leaf .leaf)) func197 ⟨zna,trivial⟩
noncomputable def zsw:FSem:=mkE (ArgT.cons tyTInt ArgT.nil) (Ty.leaf (.int .i64)) fun a=>F.zfk a.1
theorem zzm:Entry prog 145 zsw false:=eo { P:=prog,n:=11,tab:=[(197,zof)],rtL:=[(5,1),(9,1)],locL:=[1] } (.seq .leaf (.seq .leaf (.seq (.seq .leaf (.cond (.seq .leaf .leaf) .leaf)) (.seq (.seq .leaf (.cond (.seq .leaf .leaf) .leaf)) (.seq .leaf .leaf))))) func145 ⟨zqm,trivial⟩
noncomputable def zq4:FSem:=mkE (ArgT.cons (Ty.leaf .sl) (ArgT.cons (Ty.leaf .sl) ArgT.nil)) (Ty.leaf (.int .i64)) fun a=>F.zds a.1 a.2.1
theorem ztv:Entry prog 230 zq4 false:=eo { P:=prog,n:=41,tab:=[] } (.seq .leaf (.seq (.seq .leaf (.cond (.seq (.seq .leaf (.cond (.seq .leaf .leaf) .leaf)) (.seq .leaf .leaf)) .leaf)) (.seq (.seq .leaf (.block (.loop [(5,.leaf (.int .i64))] (.seq (.seq .leaf (.cond .leaf .leaf)) (.seq (.block (.seq (.seq (.draw [0,1,2,3,4,5,6,7,8]) (.cond (.seq .leaf .leaf) .leaf)) (.seq (.draw [0,1,2,3,4,5,6,7,8]) (.cond (.seq .leaf .leaf) .leaf)))) .leaf))))) (.seq .leaf .leaf)))) func230 trivial
noncomputable def za61:FSem:=mkE (ArgT.cons (Ty.leaf .sl) ArgT.nil) (Ty.leaf (.int .u64)) fun a=>F.zh2 a.1
theorem zag9:Entry prog 231 za61 false:=eo { P:=prog,n:=21,tab:=[] } (.seq .leaf (.seq .leaf (.seq (.seq .leaf (.block (.loop [(3,.leaf (.int .u64)),(4,.leaf (.int .i64))] (.seq (.seq .leaf (.cond .leaf .leaf)) (.seq (.block .leaf) .leaf))))) (.seq .leaf .leaf)))) func231 trivial
noncomputable def zxf:FSem:=mkE (ArgT.cons (Ty.leaf (.int .u64)) ArgT.nil) (Ty.leaf .sl) fun a=>F.ze8 a.1
theorem za9c:Entry prog 206 zxf false:=eo { P:=prog,n:=10,tab:=[(196,zgl)] } (.seq .leaf (.seq .leaf .leaf)) func206 ⟨zi2,trivial⟩
noncomputable def zxg:FSem:=mkE (ArgT.cons (Ty.leaf .sl) (ArgT.cons (Ty.leaf (.int .u32)) ArgT.nil)) (Ty.tup (.cons (Ty.leaf .sl) (.cons (Ty.leaf (.int .u32)) .nil)) (fun x=>(x.1,x.2,())) (fun y=>(y.1,y.2.1)) (fun _=>rfl) (fun _=>rfl)) fun a=>F.zn1 a.1 a.2.1
theorem za9d:Entry prog 232 zxg false:=eo { P:=prog,n:=43,tab:=[(196,zgl)] } (.seq .leaf (.seq .leaf (.seq .leaf (.seq (.seq .leaf (.block (.loop [(7,.leaf (.int .u64)),(8,.leaf (.int .i64))] (.seq (.seq .leaf (.cond .leaf .leaf)) (.seq (.block (.seq .leaf (.seq .leaf .leaf))) .leaf))))) (.seq .leaf .leaf))))) func232 ⟨zi2,trivial⟩
noncomputable def za62:FSem:=mkE (ArgT.cons (Ty.leaf .sl) ArgT.nil) (Ty.leaf (.int .i64)) fun a=>F.zhw a.1
theorem zaga:Entry prog 233 za62 false:=eo { P:=prog,n:=26,tab:=[] } (.seq .leaf (.seq (.seq .leaf (.cond (.seq .leaf .leaf) .leaf)) (.seq .leaf (.seq (.seq .leaf (.block (.loop [(3,.leaf (.int .i64)),(4,.leaf (.int .u32))] (.seq (.seq .leaf (.cond .leaf .leaf)) (.seq (.block .leaf) .leaf))))) (.seq .leaf .leaf))))) func233 trivial
noncomputable def za63:FSem:=mkE (ArgT.cons (Ty.leaf .sl) (ArgT.cons (Ty.leaf (.int .i64)) ArgT.nil)) (Ty.leaf .sl) fun a=>F.ziv a.1 a.2.1
theorem zagb:Entry prog 234 za63 false:=eo { P:=prog,n:=43,tab:=[] } (.seq .leaf (.seq .leaf (.seq (.seq .leaf (.block (.loop [(6,.leaf (.int .i64))] (.seq (.seq .leaf (.cond .leaf .leaf)) (.seq (.block (.seq .leaf (.seq .leaf .leaf))) .leaf))))) (.seq .leaf .leaf)))) func234 trivial
noncomputable def zxh:FSem:=mkE (ArgT.cons (Ty.leaf .sl) (ArgT.cons (Ty.leaf .sl) ArgT.nil)) (Ty.leaf .sl) fun a=>F.zfs a.1 a.2.1
theorem za9e:Entry prog 252 zxh false:=eo { P:=prog,n:=67,tab:=[(196,zgl)] } (.seq .leaf (.seq .leaf (.seq (.seq .leaf (.block (.loop [(6,.leaf (.int .i64))] (.seq (.seq .leaf (.cond .leaf .leaf)) (.seq (.block (.seq .leaf (.seq (.seq .leaf (.block (.loop [(7,.leaf (.int .u64)),(8,.leaf (.int .i64))] (.seq (.seq .leaf (.cond .leaf .leaf)) (.seq (.block (.seq (.draw [0,1,2,3,4,5,6,7,8,9,10,11,12,13,14,15,16,17,18,19,20,21]) (.seq .leaf .leaf))) .leaf))))) .leaf))) .leaf))))) (.seq .leaf .leaf)))) func252 ⟨zi2,trivial⟩
noncomputable def zsx:FSem:=mkE (ArgT.cons (Ty.leaf .sl) (ArgT.cons (Ty.leaf .sl) ArgT.nil)) (Ty.leaf .sl) fun a=>F.ze7 a.1 a.2.1
theorem zzn:Entry prog 236 zsx false:=eo { P:=prog,n:=48,tab:=[(196,zgl)] } (.seq .leaf (.seq .leaf (.seq .leaf (.seq (.seq .leaf (.block (.loop [(6,.leaf (.int .u64)),(7,.leaf (.int .i64))] (.seq (.seq .leaf (.cond .leaf .leaf)) (.seq (.block (.seq .leaf (.join [(8,.leaf (.int .u64))] (.seq .leaf (.cond .leaf .leaf)) (.seq .leaf (.seq .leaf .leaf))))) .leaf))))) (.seq .leaf .leaf))))) func236 ⟨zi2,trivial⟩
noncomputable def za64:FSem:=mkE (ArgT.cons (Ty.leaf .sl) (ArgT.cons (Ty.leaf .sl) ArgT.nil)) (Ty.tup (.cons (Ty.leaf (.int .u32)) (.cons (Ty.leaf .sl) .nil)) (fun x=>(x.1,x.2,())) (fun y=>(y.1,y.2.1)) (fun _=>rfl) (fun _=>rfl)) fun a=>F.zkz a.1 a.2.1
theorem zagc:Entry prog 235 za64 false:=eo { P:=prog,n:=51,tab:=[(252,zxh),(196,zgl),(230,zq4),(236,zsx)] } (.seq .leaf (.seq .leaf (.seq (.draw [0,1,2,3,4,5,6,7,8,9,10,11,12,13,14,15,16,17,18,19,20]) (.join [(7,.leaf (.int .u64))] (.seq .leaf (.cond .leaf .leaf)) (.seq .leaf (.seq (.block (.loop [(7,.leaf (.int .u64)),(8,.leaf (.sl))] (.seq (.seq .leaf (.cond .leaf .leaf)) (.block (.seq .leaf .leaf))))) (.seq .leaf .leaf))))))) func235 ⟨za9e,zi2,ztv,zzn,trivial⟩
noncomputable def za65:FSem:=mkE (ArgT.cons (Ty.leaf .sl) (ArgT.cons (Ty.leaf (.int .i64)) ArgT.nil)) (Ty.leaf .sl) fun a=>F.zm8 a.1 a.2.1
theorem zagd:Entry prog 237 za65 false:=eo { P:=prog,n:=45,tab:=[(196,zgl)] } (.seq .leaf (.seq .leaf (.seq (.seq .leaf (.block (.loop [(6,.leaf (.int .i64))] (.seq (.seq .leaf (.cond .leaf .leaf)) (.seq (.block (.seq .leaf (.join [(7,.leaf (.int .u64))] (.seq .leaf (.cond .leaf .leaf)) .leaf))) .leaf))))) (.seq .leaf .leaf)))) func237 ⟨zi2,trivial⟩
noncomputable def zxi:FSem:=mkE (ArgT.cons (Ty.leaf .sl) (ArgT.cons (Ty.leaf .sl) ArgT.nil)) (Ty.tup (.cons (Ty.leaf .sl) (.cons (Ty.leaf .sl) .nil)) (fun x=>(x.1,x.2,())) (fun y=>(y.1,y.2.1)) (fun _=>rfl) (fun _=>rfl)) fun a=>F.zg2 a.1 a.2.1
theorem za9f:Entry prog 198 zxi false:=eo { P:=prog,n:=128,tab:=[(230,zq4),(231,za61),(206,zxf),(232,zxg),(233,za62),(234,za63),(196,zgl),(235,za64),(236,zsx),(237,za65)] } (.seq .leaf (.seq (.seq .leaf (.cond (.seq .leaf .leaf) .leaf)) (.seq (.seq .leaf (.cond (.seq .leaf (.seq (.draw [0,1,2,4,5,6,3,7,8,9]) .leaf)) .leaf)) (.seq (.seq .leaf (.cond (.seq .leaf (.seq .leaf .leaf)) .leaf)) (.seq .leaf (.seq .leaf (.seq .leaf (.seq (.seq .leaf (.block (.loop [(14,.leaf (.int .i64))] (.seq (.seq .leaf (.cond .leaf .leaf)) (.seq (.block (.seq .leaf (.seq .leaf (.seq .leaf (.seq .leaf (.seq .leaf (.block (.loop [(19,.leaf (.int .i64))] (.seq (.seq .leaf (.cond .leaf .leaf)) (.join [] (.block (.seq .leaf (.seq .leaf (.cond .leaf .leaf)))) .leaf)))))))))) .leaf))))) (.seq .leaf .leaf))))))))) func198 ⟨ztv,zag9,za9c,za9d,zaga,zagb,zi2,zagc,zzn,zagd,trivial⟩
noncomputable def zxj:FSem:=mkE (ArgT.cons tyTInt (ArgT.cons tyTInt ArgT.nil)) tyTInt fun a=>F.zhu a.1 a.2.1
theorem za9g:Entry prog 147 zxj false:=eo { P:=prog,n:=28,tab:=[(196,zgl),(198,zxi),(199,zlf)],rtL:=[(9,2),(12,3)],locL:=[2,3,4] } (.seq .leaf (.seq (.draw [0,1,3,4,2,5,6,7]) (.seq (.block (.loop [(5,.leaf (.sl)),(6,.leaf (.sl))] (.seq (.seq .leaf (.cond .leaf .leaf)) (.block (.seq .leaf .leaf))))) (.seq .leaf .leaf)))) func147 ⟨zi2,za9f,zna,trivial⟩
noncomputable def zxk:FSem:=mkE (ArgT.cons tyTInt ArgT.nil) (Ty.leaf .bool) fun a=>F.zjc a.1
theorem za9h:Entry prog 146 zxk false:=eo { P:=prog,n:=19,tab:=[],rtL:=[(3,1),(8,1),(15,1)],locL:=[1] } (.seq .leaf (.seq .leaf .leaf)) func146 trivial
noncomputable def zsy:FSem:=mkE (ArgT.cons tyTRat ArgT.nil) (Ty.leaf .bool) fun a=>F.ze9 a.1
theorem zzo:Entry prog 64 zsy false:=eo { P:=prog,n:=25,tab:=[(144,za60),(145,zsw),(147,zxj),(146,zxk)],rtL:=[(3,1),(7,1),(12,1),(18,1),(20,1)],locL:=[1] } (.seq .leaf (.seq .leaf .leaf)) func64 ⟨zag8,zzm,za9g,za9h,trivial⟩
noncomputable def zxl:FSem:=mkE (ArgT.cons (Ty.leaf (.int .i64)) (ArgT.cons (Ty.leaf (.int .i64)) ArgT.nil)) (Ty.leaf .bool) fun a=>F.zek a.1 a.2.1
theorem za9i:Entry prog 65 zxl false:=eo { P:=prog,n:=12,tab:=[] } (.seq .leaf (.seq .leaf .leaf)) func65 trivial
noncomputable def zxm:FSem:=mkE (ArgT.cons tyTRat ArgT.nil) (Ty.leaf (.int .i64)) fun a=>F.zia a.1
theorem za9j:Entry prog 66 zxm false:=eo { P:=prog,n:=6,tab:=[(145,zsw)],rtL:=[(3,1)],locL:=[1] } (.seq .leaf (.seq .leaf .leaf)) func66 ⟨zzm,trivial⟩
noncomputable def za66:FSem:=mkE (ArgT.cons tyTSketch (ArgT.cons tyTPiece ArgT.nil)) (Ty.tup (.cons (Ty.leaf (.int .i64)) (.cons (Ty.leaf (.int .i64)) .nil)) (fun x=>(x.1,x.2,())) (fun y=>(y.1,y.2.1)) (fun _=>rfl) (fun _=>rfl)) fun a=>F.zma a.1 a.2.1
theorem zage:Entry prog 148 za66 false:=eo { P:=prog,n:=44,tab:=[],rtL:=[(8,3),(10,2),(12,3),(17,2),(19,3),(24,2),(26,3),(31,2),(33,3),(38,3)],locL:=[2,3] } (.seq .leaf (.seq .leaf (.join [(6,.leaf (.int .i64)),(7,.leaf (.int .i64))] (.seq .leaf (.cond (.draw [0,1,2,3,4,5,6,7,8,9,10,11,12,13,14,15]) (.draw [0,1,2,3,4,5,6,7,8,9,10,11,12,13,14,15]))) (.seq (.seq .leaf (.cond (.seq .leaf .leaf) .leaf)) (.seq .leaf .leaf))))) func148 trivial
noncomputable def za67:FSem:=mkE (ArgT.cons tyTSketch (ArgT.cons (Ty.leaf .sl) ArgT.nil)) (Ty.leaf .bool) fun a=>F.zl5 a.1 a.2.1
theorem zagf:Entry prog 67 za67 false:=eo { P:=prog,n:=80,tab:=[(148,za66),(65,zxl)],rtL:=[(22,2),(41,2)],locL:=[2] } (.seq .leaf (.seq (.seq .leaf (.block (.loop [(5,.leaf (.int .i64))] (.seq (.seq .leaf (.cond .leaf .leaf)) (.join [] (.block (.join [] (.seq (.draw [0,1,2,3,4,5,6,7,8,9,10,11,12,13,14,15,16,17,18,19,20,21,22,23,24,25,26,27,28,29,30,31,32,33,34,35,36]) (.cond (.seq .leaf .leaf) .leaf)) (.seq .leaf (.cond (.seq (.draw [0,1,2,3,4,5,6,7,8,9,10,11]) (.seq (.draw [0,1,2,3,4,5,6,7,8,9,10]) (.seq .leaf (.cond (.seq .leaf .leaf) .leaf)))) .leaf)))) .leaf))))) (.seq .leaf .leaf))) func67 ⟨zage,za9i,trivial⟩
noncomputable def za68:FSem:=mkE ArgT.nil (Ty.leaf .sl) fun a=>F.zjz
theorem zagg:Entry prog 200 za68 false:=eo { P:=prog,n:=19,tab:=[] } (.seq .leaf (.seq .leaf .leaf)) func200 trivial
noncomputable def zxn:FSem:=mkE (ArgT.cons (Ty.leaf (.int .i64)) ArgT.nil) (Ty.tup (.cons zot (.cons (Ty.leaf .bool) .nil)) (fun x=>(x.1,x.2,())) (fun y=>(y.1,y.2.1)) (fun _=>rfl) (fun _=>rfl)) fun a=>F.zkg a.1
theorem za9k:Entry prog 149 zxn false:=eo { P:=prog,n:=18,tab:=[(200,za68)],locL:=[2] } (.seq .leaf (.join [(2,.box [.str,.int .i64,.int .i64,.int .i64,.int .i64,.int .i64,.bool])] (.seq .leaf (.cond (.seq .leaf .leaf) .leaf)) (.seq .leaf .leaf))) func149 ⟨zagg,trivial⟩
noncomputable def zsz:FSem:=mkE (ArgT.cons (Ty.leaf (.int .i64)) ArgT.nil) tyTInt fun a=>F.zes a.1
theorem zzp:Entry prog 160 zsz false:=eo { P:=prog,n:=14,tab:=[(206,zxf),(199,zlf)],locL:=[2] } (.seq .leaf (.seq (.seq .leaf (.cond (.seq .leaf .leaf) .leaf)) (.seq .leaf .leaf))) func160 ⟨za9c,zna,trivial⟩
noncomputable def zt0:FSem:=mkE (ArgT.cons (Ty.leaf (.int .i64)) ArgT.nil) tyTRat fun a=>F.zet a.1
theorem zzq:Entry prog 86 zt0 false:=eo { P:=prog,n:=7,tab:=[(160,zsz)],locL:=[2] } (.seq .leaf (.seq .leaf .leaf)) func86 ⟨zzp,trivial⟩
noncomputable def za69:FSem:=mkE (ArgT.cons tyTInt (ArgT.cons tyTInt ArgT.nil)) (Ty.leaf .bool) fun a=>F.zm7 a.1 a.2.1
theorem zagh:Entry prog 268 za69 false:=eo { P:=prog,n:=18,tab:=[(230,zq4)],rtL:=[(5,2),(7,3),(11,2),(13,3)],locL:=[2,3] } (.seq .leaf (.seq .leaf .leaf)) func268 ⟨ztv,trivial⟩
noncomputable def za6a:FSem:=mkE (ArgT.cons tyTInt ArgT.nil) (Ty.leaf .str) fun a=>F.zjv a.1
theorem zagi:Entry prog 269 za6a false:=eo { P:=prog,n:=34,tab:=[(197,zof),(232,zxg)],rtL:=[(9,1),(29,1)],locL:=[1] } (.seq .leaf (.seq .leaf (.seq .leaf (.seq .leaf (.seq (.block (.loop [(3,.leaf (.str)),(4,.leaf (.sl))] (.seq (.seq .leaf (.cond .leaf .leaf)) (.block (.seq .leaf (.seq .leaf .leaf)))))) (.seq (.seq .leaf (.cond (.seq .leaf .leaf) .leaf)) (.seq (.seq .leaf (.cond (.seq .leaf .leaf) .leaf)) (.seq .leaf .leaf)))))))) func269 ⟨zqm,za9d,trivial⟩
noncomputable def zxo:FSem:=mkE (ArgT.cons tyTInt (ArgT.cons tyTInt ArgT.nil)) tyTInt fun a=>F.zhv a.1 a.2.1
theorem za9l:Entry prog 285 zxo false:=eo { P:=prog,n:=20,tab:=[(197,zof),(252,zxh),(199,zlf)],rtL:=[(9,2),(11,3),(14,2),(16,3)],locL:=[2,3,4] } (.seq .leaf (.seq (.draw [0,2,1,3,4,5]) (.seq (.draw [0,1,2,3,4,5,6,7,8,9,10,11]) .leaf))) func285 ⟨zqm,za9e,zna,trivial⟩
noncomputable def za6b:FSem:=mkE (ArgT.cons tyTInt ArgT.nil) tyTInt fun a=>F.znn a.1
theorem zagj:Entry prog 315 za6b false:=eo { P:=prog,n:=9,tab:=[(199,zlf)],rtL:=[(3,1),(6,1)],locL:=[1,2] } (.seq .leaf (.seq .leaf .leaf)) func315 ⟨zna,trivial⟩
noncomputable def za6c:FSem:=mkE (ArgT.cons (Ty.leaf .sl) (ArgT.cons (Ty.leaf .sl) ArgT.nil)) (Ty.leaf .sl) fun a=>F.zjw a.1 a.2.1
theorem zagk:Entry prog 316 za6c false:=eo { P:=prog,n:=58,tab:=[(196,zgl)] } (.seq .leaf (.join [(0,.leaf (.sl)),(1,.leaf (.sl))] (.seq .leaf (.cond .leaf .leaf)) (.seq .leaf (.seq .leaf (.seq (.seq .leaf (.block (.loop [(6,.leaf (.int .u64)),(7,.leaf (.int .i64))] (.seq (.seq .leaf (.cond .leaf .leaf)) (.seq (.block (.seq .leaf (.join [(6,.leaf (.int .u64))] (.seq .leaf (.cond .leaf .leaf)) (.seq .leaf .leaf)))) .leaf))))) (.seq .leaf (.seq .leaf .leaf))))))) func316 ⟨zi2,trivial⟩
noncomputable def zxp:FSem:=mkE (ArgT.cons tyTInt (ArgT.cons tyTInt ArgT.nil)) tyTInt fun a=>F.zln a.1 a.2.1
theorem za9m:Entry prog 307 zxp false:=eo { P:=prog,n:=44,tab:=[(197,zof),(316,za6c),(199,zlf),(230,zq4),(236,zsx)],rtL:=[(9,2),(11,3),(14,2),(16,2),(18,3),(22,2),(24,3),(28,2),(30,2),(32,3),(36,3),(38,3),(40,2)],locL:=[2,3,4] } (.seq .leaf (.seq (.draw [0,2,1,3,4,5]) (.seq (.seq .leaf (.cond (.seq (.draw [0,1,2,3,4,5,6,7,8]) .leaf) .leaf)) (.seq (.seq .leaf (.cond (.seq (.draw [0,1,2,3,4,5,6,7,8]) .leaf) .leaf)) (.seq (.draw [0,1,2,3,4,5,6,7,8]) .leaf))))) func307 ⟨zqm,zagk,zna,ztv,zzn,trivial⟩
noncomputable def za6d:FSem:=mkE (ArgT.cons tyTInt (ArgT.cons tyTInt ArgT.nil)) tyTInt fun a=>F.zlo a.1 a.2.1
theorem zagl:Entry prog 306 za6d false:=eo { P:=prog,n:=9,tab:=[(315,za6b),(307,zxp)],locL:=[2,3,4] } (.seq .leaf (.seq (.draw [0,1,2,3,4]) .leaf)) func306 ⟨zagj,za9m,trivial⟩
noncomputable def za6e:FSem:=mkE (ArgT.cons tyTInt (ArgT.cons tyTInt ArgT.nil)) (Ty.tup (.cons tyTInt (.cons tyTInt (.cons (Ty.leaf (.int .i64)) .nil))) (fun x=>(x.1,x.2.1,x.2.2,())) (fun y=>(y.1,y.2.1,y.2.2.1)) (fun _=>rfl) (fun _=>rfl)) fun a=>F.zju a.1 a.2.1
theorem zagm:Entry prog 298 za6e false:=eo { P:=prog,n:=55,tab:=[(197,zof),(198,zxi),(199,zlf),(285,zxo),(306,za6d),(145,zsw),(160,zsz),(307,zxp)],rtL:=[(15,3),(22,2),(24,3),(29,2),(31,3)],locL:=[2,3,4,5,9,10] } (.seq .leaf (.seq (.draw [0,2,1,3,4,5]) (.seq (.seq .leaf (.cond (.seq .leaf .leaf) .leaf)) (.seq .leaf (.seq .leaf (.seq (.draw [0,1,2,5,3,4,6]) (.join [(9,.box [.bool,.sl]),(10,.box [.bool,.sl])] (.seq (.draw [0,2,1,3,4,5]) (.cond (.seq (.draw [0,1,2,3]) .leaf) .leaf)) (.seq (.draw [0,1,2,3,4]) .leaf)))))))) func298 ⟨zqm,za9f,zna,za9l,zagl,zzm,zzp,za9m,trivial⟩
noncomputable def za6f:FSem:=mkE (ArgT.cons tyTInt (ArgT.cons tyTInt ArgT.nil)) tyTInt fun a=>F.zhx a.1 a.2.1
theorem zagn:Entry prog 286 za6f false:=eo { P:=prog,n:=16,tab:=[(298,za6e)],locL:=[2,3,4,5,6] } (.seq .leaf (.seq .leaf (.seq .leaf .leaf))) func286 ⟨zagm,trivial⟩
noncomputable def za6g:FSem:=mkE (ArgT.cons tyTRat (ArgT.cons tyTRat ArgT.nil)) tyTRat fun a=>F.zno a.1 a.2.1
theorem zago:Entry prog 270 za6g false:=eo { P:=prog,n:=65,tab:=[(147,zxj),(286,za6f),(285,zxo),(146,zxk),(86,zt0)],rtL:=[(7,2),(8,2),(13,3),(14,3),(20,2),(24,3),(28,2),(30,3),(33,2),(36,2),(38,3),(41,3),(43,2),(46,2),(50,3),(55,2),(59,3)],locL:=[2,3,4,5,6] } (.seq .leaf (.join [(4,.box [.bool,.sl,.bool,.sl])] (.seq .leaf (.cond (.seq .leaf .leaf) .leaf)) (.join [(4,.box [.bool,.sl,.bool,.sl])] (.seq .leaf (.cond (.seq (.draw [0,1,2,3,5,6,4,7,8]) .leaf) .leaf)) (.seq (.draw [0,1,2,3,5,6,7,8,10,11,4,9,12,13]) (.seq (.draw [0,1,2,4,5,6,9,10,11,13,14,15,3,7,8,12,16,17,18,19]) .leaf))))) func270 ⟨za9g,zagn,za9l,za9h,zzq,trivial⟩
noncomputable def za6h:FSem:=mkE (ArgT.cons tyTRat ArgT.nil) (Ty.tup (.cons (Ty.leaf .str) (.cons (Ty.leaf .bool) .nil)) (fun x=>(x.1,x.2,())) (fun y=>(y.1,y.2.1)) (fun _=>rfl) (fun _=>rfl)) fun a=>F.ziw a.1
theorem zagp:Entry prog 253 za6h false:=eo { P:=prog,n:=60,tab:=[(86,zt0),(160,zsz),(268,za69),(269,za6a),(270,za6g),(64,zsy),(66,zxm)],rtL:=[(24,6),(28,6)],locL:=[1,4,5,6] } (.seq .leaf (.join [] (.seq .leaf (.cond (.seq .leaf .leaf) .leaf)) (.seq .leaf (.seq .leaf (.seq .leaf (.seq (.seq .leaf (.block (.loop [(6,.box [.bool,.sl,.bool,.sl]),(7,.leaf (.int .i64))] (.seq (.seq .leaf (.cond .leaf .leaf)) (.seq (.block (.seq (.seq .leaf (.cond (.seq .leaf (.seq (.block (.loop [(8,.leaf (.str))] (.seq (.seq .leaf (.cond .leaf .leaf)) (.block .leaf)))) (.join [(8,.leaf (.str))] (.seq .leaf (.cond (.draw [0,1,2,3,4,5,6,7,8,9,10,11,12,13,14]) .leaf)) (.seq .leaf .leaf)))) .leaf)) .leaf)) .leaf))))) (.seq .leaf .leaf))))))) func253 ⟨zzq,zzp,zagh,zagi,zago,zzo,za9j,trivial⟩
noncomputable def za6i:FSem:=mkE (ArgT.cons (Ty.leaf (.int .u8)) ArgT.nil) (Ty.leaf .bool) fun a=>F.zjx a.1
theorem zagq:Entry prog 287 za6i false:=eo { P:=prog,n:=17,tab:=[] } (.seq .leaf (.seq .leaf .leaf)) func287 trivial
noncomputable def za6j:FSem:=mkE (ArgT.cons (Ty.leaf (.int .u8)) ArgT.nil) (Ty.leaf .bool) fun a=>F.zo1 a.1
theorem zagr:Entry prog 288 za6j false:=eo { P:=prog,n:=9,tab:=[] } (.seq .leaf (.seq .leaf .leaf)) func288 trivial
end
end Den
end

section
set_option maxRecDepth 100000
namespace Den
open Go Go.Proofs.Tryz
noncomputable section
noncomputable def za6k:FSem:=mkE (ArgT.cons (Ty.leaf .str) (ArgT.cons (Ty.leaf (.int .i64)) ArgT.nil)) (Ty.leaf (.int .i64)) fun a=>F.zm9 a.1 a.2.1
theorem zags:Entry prog 271 za6k false:=eo { P:=prog,n:=42,tab:=[(287,za6i),(288,za6j)] } (.seq .leaf (.join [] (.seq .leaf (.cond (.seq .leaf .leaf) .leaf)) (.seq (.block (.loop [(1,.leaf (.int .i64))] (.join [] (.seq .leaf (.cond .leaf .leaf)) (.block .leaf)))) (.seq .leaf .leaf)))) func271 ⟨zagq,zagr,trivial⟩
noncomputable def za6l:FSem:=mkE (ArgT.cons (Ty.leaf .str) ArgT.nil) (Ty.leaf .bool) fun a=>F.zg3 a.1
theorem zagt:Entry prog 254 za6l false:=eo { P:=prog,n:=17,tab:=[(271,za6k)] } (.seq .leaf (.seq .leaf .leaf)) func254 ⟨zags,trivial⟩
noncomputable def za6m:FSem:=mkE (ArgT.cons tyTExpr ArgT.nil) (Ty.leaf .bool) fun a=>F.zl2 a.1
theorem zagu:Entry prog 238 za6m false:=eo { P:=prog,n:=106,tab:=[(253,za6h),(254,za6l)],rtL:=[(6,1),(7,1),(8,1),(12,1),(13,1),(14,1),(19,1),(20,1),(21,1),(27,1),(28,1),(29,1),(34,1),(39,1),(46,1),(50,1),(56,1),(65,1),(70,1),(79,1),(84,1),(96,1),(101,1)],locL:=[1] } (.seq .leaf (.join [(3,.leaf (.bool))] .leaf (.seq (.seq .leaf (.block (.seq .leaf (.cond (.seq .leaf (.seq .leaf .leaf)) (.seq .leaf (.cond (.seq .leaf .leaf) (.seq .leaf (.cond (.seq .leaf .leaf) (.join [(89,.leaf (.bool))] (.seq .leaf (.cond .leaf (.seq .leaf (.cond .leaf (.seq .leaf (.cond .leaf .leaf)))))) (.cond (.seq .leaf .leaf) .leaf)))))))))) (.seq .leaf .leaf)))) func238 ⟨zagp,zagt,trivial⟩
noncomputable def zwk:ArgT (TExpr×Unit):=(ArgT.cons tyTExpr ArgT.nil)
noncomputable def zwp:Ty Bool:=(Ty.leaf .bool)
noncomputable def za6n:FSem:=mkE zwk zwp fun a=>F.zjy a.1
noncomputable def zadq (n:Nat):Cfg:={ P:=prog,n:=21,tab:=[(238,za6m),(201,mkE zwk zwp (fun a=>F.zeu n a.1))],rtL:=[(8,1),(14,1)],locL:=[1] }
theorem zaa2:∃fn,prog.funcs[201]?=some fn∧fn.body.isNone=false∧(fn.name == "runtime.NumGoroutine")=false:=⟨_,func201,rfl,by decide⟩
theorem zaa8:∀n a K D w,Sub D w→F.zeu n a.1 K D→Calls prog 201 (zwk.up a).toArray w (Post (fun v h=>zwp.dn v fun r=>K r h) D w)
 | 0,_,_,_,_,_,h=>h.elim
 | n+1,a,K,D,w,hs,h=>zj5 (C:=zadq n) (F:=fun a=>F.zeu (n+1) a.1) (fn:=f201) (c:=bd f201) (an:=(.seq .leaf (.seq (.seq .leaf (.cond (.seq .leaf .leaf) .leaf)) (.seq (.seq .leaf (.block (.loop [(3,.leaf (.int .i64))] (.seq (.seq .leaf (.cond .leaf .leaf)) (.seq (.block (.seq .leaf (.cond (.seq .leaf .leaf) .leaf))) .leaf))))) (.seq .leaf .leaf))))) ⟨zagu,(zda zaa2 (zaa8 n)),trivial⟩ trivial func201 rfl rfl (fun _=>rfl) (by intro a K D; kernel_rfl) a K D w hs h
theorem zagv:Entry prog 201 za6n false:=zda zaa2 (fun a K D w hs h=>h.elim fun m h=>zaa8 m a K D w hs h)
noncomputable def zwl:ArgT (TExpr×Unit):=(ArgT.cons tyTExpr ArgT.nil)
noncomputable def zwq:Ty Int:=(Ty.leaf (.int .i64))
noncomputable def za6o:FSem:=mkE zwl zwq fun a=>F.zl0 a.1
noncomputable def zadr (n:Nat):Cfg:={ P:=prog,n:=22,tab:=[(202,mkE zwl zwq (fun a=>F.zdj n a.1))],rtL:=[(6,1),(13,1)],locL:=[1] }
theorem zaa3:∃fn,prog.funcs[202]?=some fn∧fn.body.isNone=false∧(fn.name == "runtime.NumGoroutine")=false:=⟨_,func202,rfl,by decide⟩
theorem zaa9:∀n a K D w,Sub D w→F.zdj n a.1 K D→Calls prog 202 (zwl.up a).toArray w (Post (fun v h=>zwq.dn v fun r=>K r h) D w)
 | 0,_,_,_,_,_,h=>h.elim
 | n+1,a,K,D,w,hs,h=>zj5 (C:=zadr n) (F:=fun a=>F.zdj (n+1) a.1) (fn:=f202) (c:=bd f202) (an:=(.seq .leaf (.seq .leaf (.seq (.seq .leaf (.block (.loop [(3,.leaf (.int .i64)),(4,.leaf (.int .i64))] (.seq (.seq .leaf (.cond .leaf .leaf)) (.seq (.block .leaf) .leaf))))) (.seq .leaf .leaf))))) ⟨(zda zaa3 (zaa9 n)),trivial⟩ trivial func202 rfl rfl (fun _=>rfl) (by intro a K D; kernel_rfl) a K D w hs h
theorem zagw:Entry prog 202 za6o false:=zda zaa3 (fun a K D w hs h=>h.elim fun m h=>zaa9 m a K D w hs h)
noncomputable def za6p:FSem:=mkE (ArgT.cons tyTExpr ArgT.nil) (Ty.leaf (.int .i64)) fun a=>F.zl1 a.1
theorem zagx:Entry prog 151 za6p false:=eo { P:=prog,n:=9,tab:=[(201,za6n),(202,za6o)],locL:=[1] } (.seq .leaf (.seq (.seq .leaf (.cond (.seq .leaf .leaf) .leaf)) (.seq (.seq .leaf (.cond (.seq .leaf .leaf) .leaf)) (.seq .leaf .leaf)))) func151 ⟨zagv,zagw,trivial⟩
noncomputable def za6q:FSem:=mkE (ArgT.cons (Ty.leaf .sl) ArgT.nil) (Ty.leaf .bool) fun a=>F.zfl a.1
theorem zagy:Entry prog 152 za6q false:=eo { P:=prog,n:=25,tab:=[] } (.seq .leaf (.seq (.seq .leaf (.block (.loop [(3,.leaf (.int .i64))] (.seq (.seq .leaf (.cond .leaf .leaf)) (.seq (.block (.seq .leaf (.block (.loop [(4,.leaf (.int .i64))] (.seq (.seq .leaf (.cond .leaf .leaf)) (.seq (.block (.seq (.draw [0,1,2,3,4,5,6,7,8]) (.cond (.seq .leaf .leaf) .leaf))) .leaf)))))) .leaf))))) (.seq .leaf .leaf))) func152 trivial
noncomputable def za6r:FSem:=mkE (ArgT.cons (Ty.leaf .sl) (ArgT.cons (Ty.leaf (.int .i64)) ArgT.nil)) (Ty.leaf .bool) fun a=>F.zhy a.1 a.2.1
theorem zagz:Entry prog 150 za6r false:=eo { P:=prog,n:=25,tab:=[] } (.seq .leaf (.seq (.seq .leaf (.block (.loop [(5,.leaf (.int .i64))] (.seq (.seq .leaf (.cond .leaf .leaf)) (.join [] (.block (.seq .leaf (.cond (.seq .leaf .leaf) .leaf))) .leaf))))) (.seq .leaf .leaf))) func150 trivial
noncomputable def za6s:FSem:=mkE (ArgT.cons tyTConstraint (ArgT.cons (Ty.leaf (.int .i64)) (ArgT.cons (Ty.leaf (.int .i64)) ArgT.nil))) (Ty.leaf .bool) fun a=>F.zl3 a.1 a.2.1 a.2.2.1
theorem zah0:Entry prog 68 za6s false:=eo { P:=prog,n:=164,tab:=[(149,zxn),(151,za6p),(152,za6q),(150,za6r)],rtL:=[(13,3),(21,3),(24,7),(29,3),(32,7),(37,3),(40,7),(45,3),(52,3),(59,3),(65,3),(72,7),(75,3),(80,3),(85,7),(89,3),(94,3),(96,3),(160,3)],locL:=[3,7] } (.seq .leaf (.seq .leaf (.join [] (.seq .leaf (.cond (.seq .leaf .leaf) .leaf)) (.seq (.seq .leaf (.block (.loop [(9,.leaf (.int .i64))] (.seq (.seq .leaf (.cond .leaf .leaf)) (.seq (.block (.seq .leaf (.cond (.seq .leaf .leaf) .leaf))) .leaf))))) (.join [] (.seq .leaf (.cond (.seq .leaf .leaf) .leaf)) (.seq .leaf (.seq (.seq .leaf (.block (.join [(98,.leaf (.bool))] (.seq .leaf (.cond .leaf (.seq .leaf (.cond .leaf (.seq .leaf (.cond .leaf .leaf)))))) (.cond (.join [(11,.leaf (.bool))] (.draw [0,1,2,3,4,5,6,7,8,9,10,11,12,13,14,15,16,17,18,19,20,21,22,23,24,25,26,27,28,29,30,31,32,33,34]) (.seq (.draw [0,1,2,3,4,5,6,7,8,9,10,11,12,13,14,15,16,17,18,19,20]) .leaf)) .leaf)))) (.seq .leaf .leaf)))))))) func68 ⟨za9k,zagx,zagy,zagz,trivial⟩
noncomputable def za6t:FSem:=mkE (ArgT.cons tyTSketch ArgT.nil) (Ty.leaf (.int .i64)) fun a=>F.zij a.1
theorem zah1:Entry prog 25 za6t false:=eo { P:=prog,n:=191,tab:=[(63,za5z),(64,zsy),(65,zxl),(66,zxm),(67,za67),(68,za6s)],rtL:=[(15,1),(23,1),(32,1),(42,1),(48,1),(54,6),(59,6),(65,6),(71,1),(77,1),(83,8),(89,8),(95,8),(97,8),(102,1),(108,1),(113,1),(116,10),(122,10),(129,10),(135,10),(137,1),(139,10),(147,10),(149,1),(151,10),(159,1),(166,1),(174,1),(180,1),(186,1)],locL:=[1,6,8,10] } (.seq .leaf (.seq (.seq .leaf (.cond (.seq .leaf .leaf) .leaf)) (.seq .leaf (.seq (.seq .leaf (.block (.loop [(4,.leaf (.int .i64))] (.seq (.seq .leaf (.cond .leaf .leaf)) (.join [] (.block (.seq .leaf (.cond (.seq .leaf .leaf) .leaf))) .leaf))))) (.seq (.seq .leaf (.block (.loop [(5,.leaf (.int .i64))] (.seq (.seq .leaf (.cond .leaf .leaf)) (.join [] (.block (.seq .leaf (.seq .leaf (.cond (.seq .leaf .leaf) .leaf)))) .leaf))))) (.seq (.seq .leaf (.block (.loop [(7,.leaf (.int .i64))] (.seq (.seq .leaf (.cond .leaf .leaf)) (.join [] (.block (.seq .leaf (.seq .leaf (.cond (.seq .leaf .leaf) .leaf)))) .leaf))))) (.seq (.seq .leaf (.block (.loop [(9,.leaf (.int .i64))] (.seq (.seq .leaf (.cond .leaf .leaf)) (.join [] (.block (.seq .leaf (.seq (.draw [0,1,2,3,4,5,6,7,8,9,10,11,12,13,14,15,16,17,18,19,20,21,22,23,24,25,26,27,28,29,30,31,32,33,34,35,36,37,38,39,40,41,42,43,44]) (.cond (.seq .leaf .leaf) .leaf)))) .leaf))))) (.seq (.seq .leaf (.block (.loop [(11,.leaf (.int .i64))] (.seq (.seq .leaf (.cond .leaf .leaf)) (.seq (.block (.seq (.draw [0,1,2,3,4,5,6,7]) (.cond (.seq .leaf .leaf) .leaf))) .leaf))))) (.seq (.seq .leaf (.block (.loop [(12,.leaf (.int .i64))] (.seq (.seq .leaf (.cond .leaf .leaf)) (.seq (.block (.seq (.draw [0,1,2,3,4,5,6,7,8,9,10]) (.cond (.seq .leaf .leaf) .leaf))) .leaf))))) (.seq .leaf .leaf)))))))))) func25 ⟨zag7,zzo,za9i,za9j,zagf,zah0,trivial⟩
noncomputable def za6u:FSem:=mkE (ArgT.cons tyTConstraint (ArgT.cons (Ty.leaf (.int .i64)) (ArgT.cons (Ty.leaf (.int .i64)) ArgT.nil))) (Ty.leaf .bool) fun a=>F.zn2 a.1 a.2.1 a.2.2.1
theorem zah2:Entry prog 96 za6u false:=eo { P:=prog,n:=26,tab:=[],rtL:=[(7,3),(11,3),(19,3)],locL:=[3] } (.seq .leaf (.seq .leaf .leaf)) func96 trivial
noncomputable def za6v:FSem:=mkE (ArgT.cons tyTSketch ArgT.nil) (Ty.leaf .sl) fun a=>F.zix a.1
theorem zah3:Entry prog 46 za6v false:=eo { P:=prog,n:=74,tab:=[(96,za6u)],rtL:=[(11,1),(15,1),(21,1),(26,5),(28,5),(51,5),(63,5),(70,1)],locL:=[1,5,67] } (.seq .leaf (.seq .leaf (.seq (.seq .leaf (.block (.loop [(3,.leaf (.sl)),(4,.leaf (.int .i64))] (.seq (.seq .leaf (.cond .leaf .leaf)) (.seq (.block (.seq .leaf (.seq .leaf (.seq .leaf (.block (.loop [(3,.leaf (.sl)),(7,.leaf (.int .i64))] (.seq (.seq .leaf (.cond .leaf .leaf)) (.join [(3,.leaf (.sl))] (.block (.seq .leaf (.seq (.seq .leaf (.block (.loop [(8,.leaf (.bool)),(9,.leaf (.int .i64))] (.seq (.seq .leaf (.cond .leaf .leaf)) (.join [(8,.leaf (.bool))] (.block (.draw [0,1,2,3,4,5,6,7,8,9,10,11,12,13,14])) .leaf))))) (.seq .leaf (.cond (.draw [0,1,2,3,4,6,7,5,8,9,10,11,12]) .leaf))))) .leaf)))))))) .leaf))))) (.seq .leaf .leaf)))) func46 ⟨zah2,trivial⟩
noncomputable def zxq:FSem:=mkE (ArgT.cons tyTSketch ArgT.nil) (Ty.leaf .sl) fun a=>F.zlp a.1
theorem za9n:Entry prog 72 zxq false:=eo { P:=prog,n:=10,tab:=[(46,za6v)],rtL:=[(4,1)],locL:=[1] } (.seq .leaf (.seq (.draw [1,2,4,0,3,5,6,7]) .leaf)) func72 ⟨zah3,trivial⟩
noncomputable def zxr:FSem:=mkE (ArgT.cons tyTSketch ArgT.nil) (Ty.leaf .sl) fun a=>F.zgs a.1
theorem za9o:Entry prog 73 zxr false:=eo { P:=prog,n:=22,tab:=[],rtL:=[(6,1),(13,1)],locL:=[1,19] } (.seq .leaf (.seq .leaf (.seq (.seq .leaf (.block (.loop [(3,.leaf (.sl)),(4,.leaf (.int .i64))] (.seq (.seq .leaf (.cond .leaf .leaf)) (.seq (.block .leaf) .leaf))))) (.seq .leaf .leaf)))) func73 trivial
noncomputable def zxs:FSem:=mkE (ArgT.cons tyTConstraint (ArgT.cons (Ty.leaf .sl) (ArgT.cons (Ty.leaf (.int .i64)) ArgT.nil))) (Ty.leaf (.int .i64)) fun a=>F.zd1 a.1 a.2.1 a.2.2.1
theorem za9p:Entry prog 204 zxs false:=eo { P:=prog,n:=15,tab:=[],rtL:=[(8,3)],locL:=[3] } (.seq .leaf (.seq .leaf .leaf)) func204 trivial
noncomputable def zxt:FSem:=mkE (ArgT.cons tyTConstraint (ArgT.cons (Ty.leaf (.int .i64)) ArgT.nil)) (Ty.leaf .bool) fun a=>F.zn3 a.1 a.2.1
theorem za9q:Entry prog 203 zxt false:=eo { P:=prog,n:=20,tab:=[],rtL:=[(7,2),(13,2)],locL:=[2] } (.seq .leaf (.seq (.seq .leaf (.block (.loop [(5,.leaf (.int .i64))] (.seq (.seq .leaf (.cond .leaf .leaf)) (.seq (.block (.seq .leaf (.cond (.seq .leaf .leaf) .leaf))) .leaf))))) (.seq .leaf .leaf))) func203 trivial
noncomputable def za6w:FSem:=mkE (ArgT.cons tyTConstraint (ArgT.cons (Ty.leaf .sl) (ArgT.cons (Ty.leaf (.int .i64)) ArgT.nil))) (Ty.leaf .bool) fun a=>F.zl6 a.1 a.2.1 a.2.2.1
theorem zah4:Entry prog 155 za6w false:=eo { P:=prog,n:=53,tab:=[(204,zxs),(203,zxt)],rtL:=[(10,3),(18,3),(28,3),(41,3)],locL:=[3] } (.seq .leaf (.seq .leaf (.seq (.seq .leaf (.block (.loop [(7,.leaf (.bool)),(8,.leaf (.int .i64))] (.seq (.seq .leaf (.cond .leaf .leaf)) (.join [(7,.leaf (.bool))] (.block .leaf) .leaf))))) (.seq (.seq .leaf (.cond (.seq .leaf .leaf) .leaf)) (.seq (.seq .leaf (.block (.join [(30,.leaf (.bool))] (.seq .leaf (.cond .leaf .leaf)) (.cond (.seq (.draw [0,1,2,3,4,5,6]) .leaf) (.seq .leaf (.cond (.seq (.draw [0,1,2,3,4,5,7,8,6,9,10,11,12]) .leaf) .leaf)))))) (.seq .leaf .leaf)))))) func155 ⟨za9p,za9q,trivial⟩
noncomputable def zxu:FSem:=mkE (ArgT.cons tyTConstraint (ArgT.cons (Ty.leaf (.int .i64)) (ArgT.cons (Ty.leaf (.int .i64)) ArgT.nil))) (Ty.leaf .bool) fun a=>F.zjd a.1 a.2.1 a.2.2.1
theorem za9r:Entry prog 229 zxu false:=eo { P:=prog,n:=24,tab:=[],rtL:=[(7,3),(15,3)],locL:=[3] } (.seq .leaf (.seq .leaf .leaf)) func229 trivial
noncomputable def za6x:FSem:=mkE (ArgT.cons tyTConstraint (ArgT.cons (Ty.leaf (.int .i64)) (ArgT.cons (Ty.leaf (.int .i64)) (ArgT.cons (Ty.leaf (.int .i64)) ArgT.nil)))) (Ty.leaf (.int .i64)) fun a=>F.zfu a.1 a.2.1 a.2.2.1 a.2.2.2.1
theorem zah5:Entry prog 228 za6x false:=eo { P:=prog,n:=27,tab:=[(229,zxu)],locL:=[4] } (.seq .leaf (.seq (.draw [0,1,3,4,2,5,6,7]) (.join [] (.seq .leaf (.cond (.seq .leaf .leaf) .leaf)) (.seq (.seq .leaf (.cond (.seq .leaf .leaf) .leaf)) (.seq .leaf .leaf))))) func228 ⟨za9r,trivial⟩
noncomputable def za6y:FSem:=mkE (ArgT.cons tyTConstraint (ArgT.cons (Ty.leaf .sl) (ArgT.cons (Ty.leaf (.int .i64)) ArgT.nil))) (Ty.leaf (.int .i64)) fun a=>F.zme a.1 a.2.1 a.2.2.1
theorem zah6:Entry prog 195 za6y false:=eo { P:=prog,n:=87,tab:=[(203,zxt),(228,za6x),(229,zxu),(204,zxs)],rtL:=[(11,3),(27,3)],locL:=[3] } (.seq .leaf (.seq .leaf (.seq (.seq .leaf (.block (.join [(13,.leaf (.bool))] (.seq .leaf (.cond .leaf .leaf)) (.cond (.seq .leaf (.cond (.seq .leaf .leaf) .leaf)) (.seq .leaf (.cond (.seq .leaf (.cond (.seq .leaf .leaf) .leaf)) (.join [(20,.leaf (.bool))] (.seq .leaf (.cond .leaf (.seq .leaf (.cond .leaf .leaf)))) (.cond (.seq .leaf (.cond (.seq .leaf .leaf) .leaf)) (.seq .leaf (.cond (.seq .leaf (.cond (.seq .leaf .leaf) .leaf)) (.join [(33,.leaf (.bool))] (.seq .leaf (.cond .leaf .leaf)) (.cond (.seq .leaf .leaf) (.seq .leaf (.cond (.seq .leaf .leaf) (.seq .leaf (.cond (.seq .leaf .leaf) (.seq .leaf (.cond (.seq .leaf (.cond (.seq .leaf .leaf) .leaf)) (.seq .leaf (.cond (.seq .leaf (.cond (.seq .leaf .leaf) .leaf)) (.seq .leaf (.cond (.seq .leaf (.cond (.seq .leaf .leaf) .leaf)) (.seq .leaf (.cond (.seq (.draw [0,1,3,5,6,8,2,4,7,9,10]) (.cond (.seq .leaf .leaf) .leaf)) .leaf)))))))))))))))))))))))) (.seq .leaf .leaf)))) func195 ⟨za9q,zah5,za9r,za9p,trivial⟩
noncomputable def za6z:FSem:=mkE (ArgT.cons tyTConstraint (ArgT.cons (Ty.leaf .sl) (ArgT.cons (Ty.leaf (.int .i64)) ArgT.nil))) (Ty.leaf (.int .i64)) fun a=>F.zmd a.1 a.2.1 a.2.2.1
theorem zah7:Entry prog 142 za6z false:=eo { P:=prog,n:=16,tab:=[(195,za6y)],locL:=[3] } (.seq .leaf (.seq .leaf (.seq .leaf .leaf))) func142 ⟨zah6,trivial⟩
noncomputable def za70:FSem:=mkE (ArgT.cons tyTRat (ArgT.cons (Ty.leaf (.int .i64)) ArgT.nil)) (Ty.leaf .bool) fun a=>F.zjb a.1 a.2.1
theorem zah8:Entry prog 111 za70 false:=eo { P:=prog,n:=23,tab:=[(64,zsy)],rtL:=[(5,2),(6,2),(12,2),(13,2)],locL:=[2] } (.seq .leaf (.seq .leaf .leaf)) func111 ⟨zzo,trivial⟩
noncomputable def zwm:ArgT (TExpr×Int×Unit):=(ArgT.cons tyTExpr (ArgT.cons (Ty.leaf (.int .i64)) ArgT.nil))
noncomputable def zwr:Ty Int:=(Ty.leaf (.int .i64))
noncomputable def za71:FSem:=mkE zwm zwr fun a=>F.zmc a.1 a.2.1
noncomputable def zads (n:Nat):Cfg:={ P:=prog,n:=59,tab:=[(112,mkE zwm zwr (fun a=>F.zft n a.1 a.2.1))],rtL:=[(10,2),(16,2),(22,2),(23,2),(24,2),(30,2),(31,2),(32,2),(38,2),(49,2)],locL:=[2] }
theorem zaa4:∃fn,prog.funcs[112]?=some fn∧fn.body.isNone=false∧(fn.name == "runtime.NumGoroutine")=false:=⟨_,func112,rfl,by decide⟩
theorem zaaa:∀n a K D w,Sub D w→F.zft n a.1 a.2.1 K D→Calls prog 112 (zwm.up a).toArray w (Post (fun v h=>zwr.dn v fun r=>K r h) D w)
 | 0,_,_,_,_,_,h=>h.elim
 | n+1,a,K,D,w,hs,h=>zj5 (C:=zads n) (F:=fun a=>F.zft (n+1) a.1 a.2.1) (fn:=f112) (c:=bd f112) (an:=(.seq .leaf (.join [] (.seq .leaf (.cond (.seq .leaf .leaf) .leaf)) (.seq .leaf (.seq (.seq .leaf (.block (.loop [(5,.leaf (.int .i64)),(6,.leaf (.int .i64))] (.join [] (.seq .leaf (.cond .leaf .leaf)) (.seq (.block .leaf) .leaf))))) (.seq .leaf .leaf)))))) ⟨(zda zaa4 (zaaa n)),trivial⟩ trivial func112 rfl rfl (fun _=>rfl) (by intro a K D; kernel_rfl) a K D w hs h
theorem zah9:Entry prog 112 za71 false:=zda zaa4 (fun a K D w hs h=>h.elim fun m h=>zaaa m a K D w hs h)
noncomputable def za72:FSem:=mkE (ArgT.cons tyTSketch ArgT.nil) (Ty.leaf .bool) fun a=>F.zl4 a.1
theorem zaha:Entry prog 55 za72 false:=eo { P:=prog,n:=139,tab:=[(111,za70),(112,za71)],rtL:=[(9,1),(14,1),(20,1),(26,1),(32,1),(38,1),(44,1),(50,1),(59,1),(69,1),(75,1),(84,1),(90,1),(98,1),(104,1),(109,7),(114,7),(120,7),(126,7),(132,7)],locL:=[1,7] } (.seq .leaf (.join [] (.seq .leaf (.cond (.seq .leaf .leaf) .leaf)) (.seq (.seq .leaf (.block (.loop [(3,.leaf (.int .i64))] (.seq (.seq .leaf (.cond .leaf .leaf)) (.join [] (.block (.seq .leaf (.cond (.seq .leaf .leaf) .leaf))) .leaf))))) (.seq (.seq .leaf (.block (.loop [(4,.leaf (.int .i64))] (.seq (.seq .leaf (.cond .leaf .leaf)) (.seq (.block (.seq .leaf (.cond (.seq .leaf .leaf) .leaf))) .leaf))))) (.seq (.seq .leaf (.block (.loop [(5,.leaf (.int .i64))] (.seq (.seq .leaf (.cond .leaf .leaf)) (.seq (.block (.seq .leaf (.cond (.seq .leaf .leaf) .leaf))) .leaf))))) (.seq (.seq .leaf (.block (.loop [(6,.leaf (.int .i64))] (.seq (.seq .leaf (.cond .leaf .leaf)) (.seq (.block (.seq .leaf (.join [] (.seq .leaf (.cond (.seq .leaf .leaf) .leaf)) (.seq .leaf (.block (.loop [(8,.leaf (.int .i64))] (.seq (.seq .leaf (.cond .leaf .leaf)) (.seq (.block (.seq .leaf (.cond (.seq .leaf .leaf) .leaf))) .leaf)))))))) .leaf))))) (.seq .leaf .leaf))))))) func55 ⟨zah8,zah9,trivial⟩
end
end Den
end

section
set_option maxRecDepth 100000
namespace Den
open Go Go.Proofs.Tryz
noncomputable section
noncomputable def zxv:FSem:=mkE (ArgT.cons tyTSketch ArgT.nil) (Ty.leaf .sl) fun a=>F.zhj a.1
theorem za9s:Entry prog 107 zxv false:=eo { P:=prog,n:=20,tab:=[],rtL:=[(6,1),(14,5)],locL:=[1,5,16] } (.seq .leaf (.seq .leaf (.seq (.seq .leaf (.block (.loop [(3,.leaf (.sl)),(9,.leaf (.int .i64))] (.seq .leaf (.seq (.cond .leaf .leaf) (.seq (.block (.seq .leaf .leaf)) .leaf)))))) (.seq .leaf .leaf)))) func107 trivial
noncomputable def za73:FSem:=mkE (ArgT.cons (Ty.leaf .sl) ArgT.nil) (Ty.leaf .sl) fun a=>F.zbs a.1
theorem zahb:Entry prog 167 za73 false:=eo { P:=prog,n:=8,tab:=[] } (.seq .leaf (.seq (.seq .leaf (.cond (.seq .leaf .leaf) .leaf)) (.seq .leaf .leaf))) func167 trivial
noncomputable def zxw:FSem:=mkE (ArgT.cons tyTSketch ArgT.nil) (Ty.leaf .sl) fun a=>F.ziz a.1
theorem za9t:Entry prog 106 zxw false:=eo { P:=prog,n:=9,tab:=[(167,za73),(133,zx8)],rtL:=[(3,1)],locL:=[1] } (.seq .leaf (.seq (.draw [0,1,3,2,4,5,6]) .leaf)) func106 ⟨zahb,za95,trivial⟩
noncomputable def zxx:FSem:=mkE (ArgT.cons tyTConstraint (ArgT.cons (Ty.leaf .sl) ArgT.nil)) (Ty.leaf .sl) fun a=>F.zjh a.1 a.2.1
theorem za9u:Entry prog 108 zxx false:=eo { P:=prog,n:=38,tab:=[(134,zx9)],rtL:=[(8,2),(11,2),(23,2)],locL:=[2,21,34] } (.seq .leaf (.seq .leaf (.seq (.seq .leaf (.block (.loop [(5,.leaf (.sl)),(14,.leaf (.int .i64))] (.seq .leaf (.seq (.cond .leaf .leaf) (.join [(5,.leaf (.sl))] (.block (.seq .leaf (.seq .leaf (.seq .leaf (.block (.join [(25,.leaf (.bool))] (.seq .leaf (.cond .leaf (.seq .leaf (.cond .leaf .leaf)))) (.cond .leaf .leaf))))))) .leaf)))))) (.seq .leaf .leaf)))) func108 ⟨za96,trivial⟩
noncomputable def za74:FSem:=mkE (ArgT.cons (Ty.leaf (.int .i64)) (ArgT.cons (Ty.leaf .ptr) ArgT.nil)) (Ty.leaf .bool) fun a=>F.zlw a.1 a.2.1
theorem zahc:Entry prog 156 za74 false:=eo { P:=prog,n:=8,tab:=[(98,zjj)] } (.seq .leaf (.seq .leaf .leaf)) func156 ⟨zls,trivial⟩
noncomputable def za75:FSem:=mkE (ArgT.cons (Ty.leaf .sl) (ArgT.fnc 156 1 ArgT.nil)) (Ty.leaf (.int .i64)) fun a=>F.zcn a.1 a.2.1
theorem zahd:Entry prog 135 za75 false:=eo { P:=prog,n:=19,tab:=[(156,za74)] } (.seq .leaf (.seq (.seq .leaf (.block (.loop [(8,.leaf (.int .i64))] (.seq .leaf (.seq (.cond .leaf .leaf) (.seq (.block (.seq .leaf (.seq .leaf (.cond (.seq .leaf .leaf) .leaf)))) .leaf)))))) (.seq .leaf .leaf))) func135 ⟨zahc,trivial⟩
noncomputable def za76:FSem:=mkE (ArgT.cons (Ty.leaf .sl) (ArgT.fnc 156 1 ArgT.nil)) (Ty.leaf .bool) fun a=>F.zch a.1 a.2.1
theorem zahe:Entry prog 102 za76 false:=eo { P:=prog,n:=9,tab:=[(135,za75)] } (.seq .leaf (.seq .leaf .leaf)) func102 ⟨zahd,trivial⟩
noncomputable def za77:FSem:=mkE (ArgT.cons tyTSketch (ArgT.cons (Ty.leaf .sl) ArgT.nil)) (Ty.leaf .sl) fun a=>F.zks a.1 a.2.1
theorem zahf:Entry prog 77 za77 false:=eo { P:=prog,n:=33,tab:=[(107,zxv),(106,zxw),(108,zxx),(102,za76)],locL:=[2,8,29] } (.seq .leaf (.seq .leaf (.seq .leaf (.seq (.seq .leaf (.block (.loop [(5,.leaf (.sl)),(15,.leaf (.int .i64))] (.seq .leaf (.seq (.cond .leaf .leaf) (.join [(5,.leaf (.sl))] (.block (.seq .leaf (.seq .leaf (.seq .leaf (.cond .leaf .leaf))))) .leaf)))))) (.seq .leaf .leaf))))) func77 ⟨za9s,za9t,za9u,zahe,trivial⟩
noncomputable def zxy:FSem:=mkE (ArgT.cons tyTSketch ArgT.nil) (Ty.tup (.cons (Ty.leaf .sl) (.cons (Ty.leaf .sl) .nil)) (fun x=>(x.1,x.2,())) (fun y=>(y.1,y.2.1)) (fun _=>rfl) (fun _=>rfl)) fun a=>F.zle a.1
theorem za9v:Entry prog 34 zxy false:=eo { P:=prog,n:=21,tab:=[(56,zsv),(19,zxe),(77,za77)],locL:=[1] } (.seq .leaf (.seq (.seq .leaf (.cond (.seq .leaf .leaf) .leaf)) (.seq .leaf (.seq (.seq .leaf (.cond (.seq .leaf .leaf) .leaf)) (.seq .leaf .leaf))))) func34 ⟨zzl,za9b,zahf,trivial⟩
noncomputable def za78:FSem:=mkE (ArgT.cons tyTSketch ArgT.nil) (Ty.leaf .sl) fun a=>F.zqg a.1
theorem zahg:Entry prog 157 za78 false:=eo { P:=prog,n:=30,tab:=[],rtL:=[(7,1),(18,1)],locL:=[1,15,27] } (.seq .leaf (.seq .leaf (.seq (.seq .leaf (.block (.loop [(3,.leaf (.sl)),(4,.leaf (.int .i64))] (.seq (.seq .leaf (.cond .leaf .leaf)) (.seq (.block .leaf) .leaf))))) (.seq (.seq .leaf (.block (.loop [(3,.leaf (.sl)),(5,.leaf (.int .i64))] (.seq (.seq .leaf (.cond .leaf .leaf)) (.seq (.block .leaf) .leaf))))) (.seq .leaf .leaf))))) func157 trivial
noncomputable def za79:FSem:=mkE (ArgT.cons tyTConstraint (ArgT.cons (Ty.leaf .sl) ArgT.nil)) (Ty.leaf .sl) fun a=>F.zo2 a.1 a.2.1
theorem zahh:Entry prog 80 za79 false:=eo { P:=prog,n:=52,tab:=[],rtL:=[(8,2),(12,2),(19,2),(27,2),(31,2),(36,2),(42,2)],locL:=[2,25,49] } (.seq .leaf (.seq .leaf (.seq (.seq .leaf (.block (.loop [(5,.leaf (.sl)),(6,.leaf (.int .i64))] (.seq (.seq .leaf (.cond .leaf .leaf)) (.join [(5,.leaf (.sl))] (.block (.seq .leaf (.seq .leaf (.cond .leaf .leaf)))) .leaf))))) (.seq .leaf .leaf)))) func80 trivial
noncomputable def zxz:FSem:=mkE (ArgT.cons (Ty.leaf .sl) (ArgT.cons (Ty.leaf (.int .i64)) ArgT.nil)) (Ty.leaf .bool) fun a=>F.zpe a.1 a.2.1
theorem za9w:Entry prog 83 zxz false:=eo { P:=prog,n:=18,tab:=[] } (.seq .leaf (.seq (.seq .leaf (.block (.loop [(5,.leaf (.int .i64))] (.seq (.seq .leaf (.cond .leaf .leaf)) (.seq (.block (.seq .leaf (.cond (.seq .leaf .leaf) .leaf))) .leaf))))) (.seq .leaf .leaf))) func83 trivial
noncomputable def za7a:FSem:=mkE (ArgT.cons (Ty.leaf .sl) (ArgT.cons (Ty.leaf .sl) ArgT.nil)) (Ty.leaf .bool) fun a=>F.zk2 a.1 a.2.1
theorem zahi:Entry prog 79 za7a false:=eo { P:=prog,n:=19,tab:=[(83,zxz)] } (.seq .leaf (.seq (.seq .leaf (.block (.loop [(5,.leaf (.int .i64))] (.seq (.seq .leaf (.cond .leaf .leaf)) (.seq (.block (.seq .leaf (.cond (.seq .leaf .leaf) .leaf))) .leaf))))) (.seq .leaf .leaf))) func79 ⟨za9w,trivial⟩
noncomputable def za7b:FSem:=mkE (ArgT.cons tyTSketch (ArgT.cons (Ty.leaf (.int .i64)) (ArgT.cons (Ty.leaf .sl) ArgT.nil))) (Ty.leaf .sl) fun a=>F.zhb a.1 a.2.1 a.2.2.1
theorem zahj:Entry prog 164 za7b false:=eo { P:=prog,n:=39,tab:=[(72,zxq),(73,zxr),(80,za79),(83,zxz),(79,za7a)],locL:=[3,36] } (.seq .leaf (.seq .leaf (.seq .leaf (.seq (.seq .leaf (.block (.loop [(7,.leaf (.sl)),(9,.leaf (.int .i64))] (.seq (.seq .leaf (.cond .leaf .leaf)) (.join [(7,.leaf (.sl))] (.block (.seq (.draw [0,1,2,3,4,5,6,7]) (.seq .leaf (.cond .leaf .leaf)))) .leaf))))) (.seq .leaf .leaf))))) func164 ⟨za9n,za9o,zahh,za9w,zahi,trivial⟩
noncomputable def zy0:FSem:=mkE (ArgT.cons tyTConstraint ArgT.nil) (Ty.leaf (.int .i64)) fun a=>F.zhc a.1
theorem za9x:Entry prog 165 zy0 false:=eo { P:=prog,n:=13,tab:=[(149,zxn)],rtL:=[(6,1),(11,3)],locL:=[1,3] } (.seq .leaf (.seq .leaf (.seq .leaf .leaf))) func165 ⟨za9k,trivial⟩
noncomputable def za7c:FSem:=mkE (ArgT.cons tyTSketch (ArgT.cons tyTConstraint (ArgT.cons (Ty.leaf (.int .i64)) ArgT.nil))) (Ty.leaf .bool) fun a=>F.zl7 a.1 a.2.1 a.2.2.1
theorem zahk:Entry prog 166 za7c false:=eo { P:=prog,n:=33,tab:=[(73,zxr),(155,za6w),(142,za6z),(165,zy0)],locL:=[3,4] } (.seq .leaf (.seq .leaf (.seq (.seq .leaf (.cond (.seq .leaf .leaf) .leaf)) (.seq .leaf (.seq (.seq .leaf (.cond (.seq .leaf .leaf) .leaf)) (.seq .leaf .leaf)))))) func166 ⟨za9o,zah4,zah7,za9x,trivial⟩
noncomputable def zy1:FSem:=mkE (ArgT.cons tyTSketch (ArgT.cons (Ty.leaf (.int .i64)) (ArgT.cons (Ty.leaf .sl) ArgT.nil))) (Ty.leaf .sl) fun a=>F.zf8 a.1 a.2.1 a.2.2.1
theorem za9y:Entry prog 105 zy1 false:=eo { P:=prog,n:=68,tab:=[(72,zxq),(164,za7b),(165,zy0),(166,za7c)],locL:=[3,50] } (.seq .leaf (.seq .leaf (.seq .leaf (.seq .leaf (.seq .leaf (.seq (.seq .leaf (.block (.loop [(9,.leaf (.int .i64)),(10,.leaf (.sl)),(11,.leaf (.int .i64))] (.seq (.seq .leaf (.cond .leaf .leaf)) (.join [(9,.leaf (.int .i64)),(10,.leaf (.sl))] (.block (.seq .leaf (.seq (.draw [0,1,2,3,4,5,6,7,8,9,10]) (.cond .leaf .leaf)))) .leaf))))) (.seq (.seq .leaf (.cond (.seq .leaf .leaf) .leaf)) (.seq .leaf .leaf)))))))) func105 ⟨za9n,zahj,za9x,zahk,trivial⟩
noncomputable def za7d:FSem:=mkE (ArgT.cons (Ty.leaf .sl) (ArgT.cons (Ty.leaf (.int .i64)) ArgT.nil)) (Ty.leaf .sl) fun a=>F.ziy a.1 a.2.1
theorem zahl:Entry prog 84 za7d false:=eo { P:=prog,n:=27,tab:=[],locL:=[24] } (.seq .leaf (.seq .leaf (.seq (.seq .leaf (.block (.loop [(5,.leaf (.sl)),(6,.leaf (.int .i64))] (.seq (.seq .leaf (.cond .leaf .leaf)) (.join [(5,.leaf (.sl))] (.block (.seq .leaf (.cond .leaf .leaf))) .leaf))))) (.seq .leaf .leaf)))) func84 trivial
noncomputable def za7e:FSem:=mkE (ArgT.cons tyTSketch ArgT.nil) (Ty.leaf .sl) fun a=>F.zmf a.1
theorem zahm:Entry prog 78 za7e false:=eo { P:=prog,n:=35,tab:=[(25,za6t),(157,za78),(105,zy1),(84,za7d)],locL:=[1] } (.seq .leaf (.seq (.seq .leaf (.cond (.seq .leaf .leaf) .leaf)) (.seq .leaf (.seq (.seq .leaf (.block (.loop [(3,.leaf (.sl)),(4,.leaf (.int .i64))] (.seq (.seq .leaf (.cond .leaf .leaf)) (.join [(3,.leaf (.sl)),(4,.leaf (.int .i64))] (.block (.seq (.draw [0,1,2,3,4,5,6,7,8]) (.cond (.seq .leaf .leaf) .leaf))) .leaf))))) (.seq .leaf .leaf))))) func78 ⟨zah1,zahg,za9y,zahl,trivial⟩
noncomputable def za7f:FSem:=mkE (ArgT.cons (Ty.leaf .sl) (ArgT.cons (Ty.leaf .sl) ArgT.nil)) (Ty.leaf .bool) fun a=>F.zpd a.1 a.2.1
theorem zahn:Entry prog 81 za7f false:=eo { P:=prog,n:=26,tab:=[] } (.seq .leaf (.seq (.seq .leaf (.cond (.seq .leaf .leaf) .leaf)) (.seq (.seq .leaf (.block (.loop [(5,.leaf (.int .i64))] (.seq (.seq .leaf (.cond .leaf .leaf)) (.seq (.block (.seq (.draw [0,1,2,3,4,5,6,7,8]) (.cond (.seq .leaf .leaf) .leaf))) .leaf))))) (.seq .leaf .leaf)))) func81 trivial
noncomputable def zms:FSem:=mkE (ArgT.cons (Ty.leaf .sl) (ArgT.cons (Ty.leaf .sl) ArgT.nil)) (Ty.leaf .bool) fun a=>F.zgg a.1 a.2.1
theorem zql:Entry prog 36 zms false:=eo { P:=prog,n:=8,tab:=[(81,za7f)] } (.seq .leaf (.seq .leaf .leaf)) func36 ⟨zahn,trivial⟩
noncomputable def za7g:FSem:=mkE (ArgT.cons tyTSketch ArgT.nil) (Ty.leaf .bool) fun a=>F.zfe a.1
theorem zaho:Entry prog 37 za7g false:=eo { P:=prog,n:=16,tab:=[(56,zsv),(19,zxe)],locL:=[1] } (.seq .leaf (.seq (.seq .leaf (.cond (.seq .leaf .leaf) .leaf)) (.seq .leaf (.seq .leaf .leaf)))) func37 ⟨zzl,za9b,trivial⟩
noncomputable def zpm:FSem:=mkE ArgT.nil tyTExpr fun a=>F.zig
theorem zwh:Entry prog 43 zpm false:=eo { P:=prog,n:=3,tab:=[(86,zt0)],locL:=[0] } (.seq .leaf (.seq .leaf .leaf)) func43 ⟨zzq,trivial⟩
noncomputable def za7h:FSem:=mkE (ArgT.cons tyTGraph (ArgT.cons tyTExpr ArgT.nil)) tyTSketch fun a=>F.zk0 a.1 a.2.1
theorem zahp:Entry prog 42 za7h false:=eo { P:=prog,n:=53,tab:=[],rtL:=[(9,2),(14,5),(16,3),(18,3),(23,5),(25,2),(31,5),(33,2),(39,2),(51,5)],locL:=[2,3,4,5,21,49] } (.seq .leaf (.seq .leaf (.seq (.seq .leaf (.block (.loop [(5,.box [.sl,.sl,.sl,.sl,.sl,.sl]),(6,.leaf (.int .i64))] (.seq (.seq .leaf (.cond .leaf .leaf)) (.seq (.block .leaf) .leaf))))) (.seq (.seq .leaf (.block (.loop [(5,.box [.sl,.sl,.sl,.sl,.sl,.sl]),(7,.leaf (.int .i64))] (.seq (.seq .leaf (.cond .leaf .leaf)) (.seq (.block (.draw [0,1,2,3,4,5,6,7,8,9,10,11,12,13,15,14,16,17,18,19,20,21])) .leaf))))) (.seq .leaf .leaf))))) func42 trivial
noncomputable def za7i:FSem:=mkE (ArgT.cons (Ty.leaf (.int .i64)) (ArgT.cons (Ty.leaf (.int .i64)) ArgT.nil)) (Ty.leaf .bool) fun a=>F.zlh a.1 a.2.1
theorem zahq:Entry prog 158 za7i false:=eo { P:=prog,n:=12,tab:=[] } (.seq .leaf (.seq .leaf .leaf)) func158 trivial
noncomputable def za7j:FSem:=mkE (ArgT.cons (Ty.leaf .sl) ArgT.nil) (Ty.leaf (.int .i64)) fun a=>F.zoz a.1
theorem zahr:Entry prog 205 za7j false:=eo { P:=prog,n:=18,tab:=[] } (.seq .leaf (.seq .leaf (.seq (.seq .leaf (.block (.loop [(8,.leaf (.int .i64))] (.seq .leaf (.seq (.cond .leaf .leaf) (.seq (.block (.seq .leaf (.seq .leaf (.cond (.seq .leaf .leaf) .leaf)))) .leaf)))))) (.seq .leaf .leaf)))) func205 trivial
noncomputable def za7k:FSem:=mkE (ArgT.cons zzu (ArgT.cons zzu ArgT.nil)) (Ty.leaf (.int .i64)) fun a=>F.ziq a.1 a.2.1
theorem zahs:Entry prog 159 za7k false:=eo { P:=prog,n:=17,tab:=[(163,e_x13),(205,za7j)],rtL:=[(5,2),(7,3),(10,2),(12,3)],locL:=[2,3] } (.seq .leaf (.seq (.draw [0,1,2,3,5,6,7,8,4,9,10,11,12]) .leaf)) func159 ⟨t_x13,zahr,trivial⟩
end
end Den
end

section
set_option maxRecDepth 100000
namespace Den
open Go Go.Proofs.Tryz
noncomputable section
noncomputable def za7l:FSem:=mkE (ArgT.cons tyTGraph ArgT.nil) (Ty.leaf .bool) fun a=>F.zku a.1
theorem zaht:Entry prog 82 za7l false:=eo { P:=prog,n:=58,tab:=[(158,za7i),(159,za7k)],rtL:=[(5,1),(9,1),(13,1),(21,1),(23,4),(28,1),(30,4),(36,4),(38,4),(46,1)],locL:=[1,4] } (.seq .leaf (.join [] (.seq .leaf (.cond (.seq .leaf .leaf) .leaf)) (.seq (.seq .leaf (.block (.loop [(16,.leaf (.int .i64))] (.seq .leaf (.seq (.cond .leaf .leaf) (.join [] (.block (.seq .leaf (.seq (.draw [0,1,2,3,4,5,6,7,8,9,10,11,12,13,14,15,16,17,18,19,20,21,22,23,24,25,26,27,28,29,30,31,32,33,34,35]) (.cond (.seq .leaf .leaf) .leaf)))) .leaf)))))) (.seq .leaf .leaf)))) func82 ⟨zahq,zahs,trivial⟩
noncomputable def za7m:FSem:=mkE (ArgT.cons tyTGraph ArgT.nil) (Ty.leaf .sl) fun a=>F.zjg a.1
theorem zahu:Entry prog 39 za7m false:=eo { P:=prog,n:=94,tab:=[(82,za7l)],rtL:=[(14,1),(18,1),(21,1),(29,7),(36,7),(43,7),(50,7)],locL:=[1,7,90] } (.seq .leaf (.seq (.seq .leaf (.cond (.seq .leaf .leaf) .leaf)) (.seq .leaf (.seq (.seq .leaf (.block (.loop [(4,.leaf (.bool))] (.seq (.seq .leaf (.cond .leaf .leaf)) (.block (.seq .leaf (.seq .leaf (.seq (.seq .leaf (.block (.loop [(24,.leaf (.int .i64))] (.seq .leaf (.seq (.cond .leaf .leaf) (.join [] (.block (.seq .leaf (.seq .leaf (.cond (.seq .leaf .leaf) .leaf)))) .leaf)))))) (.seq .leaf (.block (.loop [(4,.leaf (.bool)),(59,.leaf (.int .i64))] (.seq .leaf (.seq (.cond .leaf .leaf) (.join [(4,.leaf (.bool))] (.block (.seq .leaf (.seq .leaf (.cond .leaf .leaf)))) .leaf)))))))))))))) (.seq .leaf (.seq (.seq .leaf (.block (.loop [(9,.leaf (.sl)),(80,.leaf (.int .i64))] (.seq .leaf (.seq (.cond .leaf .leaf) (.join [(9,.leaf (.sl))] (.block (.seq .leaf (.seq .leaf (.cond .leaf .leaf)))) .leaf)))))) (.seq .leaf .leaf))))))) func39 ⟨zaht,trivial⟩
noncomputable def zpk:FSem:=mkE ArgT.nil (Ty.leaf .bool) fun a=>F.zgz
theorem zwf:Entry prog 32 zpk false:=eo { P:=prog,n:=51,tab:=[(43,zpm),(42,za7h),(34,zxy),(36,zms),(37,za7g),(39,za7m)],locL:=[1,2] } (.seq .leaf (.seq .leaf (.seq .leaf (.seq (.draw [0,1,2,3,4,5,6,7,8]) (.seq (.draw [0,1,2,3,4,5,6,7,8,9,10,11,12,13,14,15,16,17,18,19,20,21,22,23,24,25,26]) .leaf))))) func32 ⟨zwh,zahp,za9v,zql,zaho,zahu,trivial⟩
noncomputable def zpl:FSem:=mkE (ArgT.cons tyTSketch ArgT.nil) (Ty.leaf .bool) fun a=>F.zky a.1
theorem zwg:Entry prog 33 zpl false:=eo { P:=prog,n:=23,tab:=[(55,za72)],rtL:=[(6,1),(12,1),(18,1)],locL:=[1] } (.seq .leaf (.seq .leaf .leaf)) func33 ⟨zaha,trivial⟩
noncomputable def za7n:FSem:=mkE (ArgT.cons tyTConstraint (ArgT.cons (Ty.leaf .sl) (ArgT.cons (Ty.leaf (.int .i64)) ArgT.nil))) (Ty.leaf .bool) fun a=>F.zlz a.1 a.2.1 a.2.2.1
theorem zahv:Entry prog 110 za7n false:=eo { P:=prog,n:=38,tab:=[(154,zxb),(161,zxc),(109,e_x58)],rtL:=[(22,3),(27,8)],locL:=[3,8] } (.seq .leaf (.seq (.seq .leaf (.cond (.seq .leaf .leaf) .leaf)) (.seq .leaf (.seq (.seq .leaf (.seq .leaf (.cond (.seq .leaf .leaf) .leaf))) (.seq .leaf .leaf))))) func110 ⟨za98,za99,t_x58,trivial⟩
noncomputable def za7o:FSem:=mkE (ArgT.cons tyTSketch ArgT.nil) (Ty.leaf .sl) fun a=>F.zkr a.1
theorem zahw:Entry prog 52 za7o false:=eo { P:=prog,n:=86,tab:=[(34,zxy),(106,zxw),(107,zxv),(108,zxx),(98,zjj),(109,e_x58),(110,za7n)],rtL:=[(53,16),(59,17)],locL:=[1,16,17,64,73,82] } (.seq .leaf (.seq .leaf (.seq (.draw [0,2,1,3,4,5]) (.seq .leaf (.seq (.seq .leaf (.block (.loop [(7,.leaf (.sl)),(30,.leaf (.int .i64))] (.seq .leaf (.seq (.cond .leaf .leaf) (.seq (.block (.seq .leaf (.seq .leaf (.seq .leaf (.join [(13,.leaf (.int .i64))] (.seq .leaf (.cond .leaf .leaf)) (.seq (.seq .leaf (.block (.loop [(10,.leaf (.sl)),(11,.leaf (.sl)),(12,.leaf (.int .i64)),(38,.leaf (.int .i64))] (.seq .leaf (.seq (.cond .leaf .leaf) (.join [(10,.leaf (.sl)),(11,.leaf (.sl)),(12,.leaf (.int .i64))] (.block (.seq .leaf (.seq .leaf (.seq (.seq .leaf (.cond .leaf .leaf)) (.seq .leaf (.seq .leaf (.seq .leaf (.seq .leaf (.cond .leaf .leaf))))))))) .leaf)))))) (.join [(11,.leaf (.sl))] (.seq .leaf (.cond .leaf .leaf)) .leaf))))))) .leaf)))))) (.seq .leaf .leaf)))))) func52 ⟨za9v,za9t,za9s,za9u,zls,t_x58,zahv,trivial⟩
end
end Den
end

section
set_option maxRecDepth 100000
namespace Den
open Go Go.Proofs.Tryz
noncomputable section
noncomputable def za7p:FSem:=mkE (ArgT.cons tyTSketch ArgT.nil) (Ty.leaf .sl) fun a=>F.zk1 a.1
theorem zahx:Entry prog 53 za7p false:=eo { P:=prog,n:=25,tab:=[(78,za7e),(105,zy1)],locL:=[1,22] } (.seq .leaf (.seq .leaf (.seq .leaf (.seq (.seq .leaf (.block (.loop [(4,.leaf (.sl)),(5,.leaf (.int .i64))] (.seq (.seq .leaf (.cond .leaf .leaf)) (.seq (.block (.draw [0,1,2,3,4,5,6,7,8,9,10])) .leaf))))) (.seq .leaf .leaf))))) func53 ⟨zahm,za9y,trivial⟩
noncomputable def zq3:FSem:=mkE (ArgT.cons tyTSketch ArgT.nil) (Ty.leaf .bool) fun a=>F.zj2 a.1
theorem za93:Entry prog 16 zq3 false:=eo { P:=prog,n:=47,tab:=[(52,za7o),(53,za7p),(36,zms),(32,zpk),(33,zpl)],locL:=[1] } (.seq .leaf (.join [] (.seq .leaf (.cond (.seq .leaf .leaf) .leaf)) (.seq (.draw [0,2,1,3,4,5]) (.seq (.seq .leaf (.cond (.seq .leaf .leaf) .leaf)) (.seq (.seq .leaf (.block (.loop [(25,.leaf (.int .i64))] (.seq .leaf (.seq (.cond .leaf .leaf) (.join [] (.block (.seq .leaf (.seq (.draw [0,1,2,3,4,5,6,7,8,9,10,11,12,13,14,15,16,17]) (.cond (.seq .leaf .leaf) .leaf)))) .leaf)))))) (.seq .leaf .leaf)))))) func16 ⟨zahw,zahx,zql,zwf,zwg,trivial⟩
end
end Den
end

section
namespace Den
open Go Iv Lx
def bc (b:Bool):Value:=.bool b
theorem zmv {α:Type} {f:α→Value}:∀ys:List α,ys.map f=ys.flatMap fun z=>[f z]
 | []=>rfl
 | a :: r=>by rw [List.map_cons,List.flatMap_cons,zmv r]; rfl
def gl (gn:List Bool):List Int:=((List.range gn.length).filter fun i=>!(gn.getD i true)).map fun i:Nat=>(i:Int)
theorem zom {gn:List Bool} {x:Int}:x∈gl gn↔∃i:Nat,x=i∧∃h:i<gn.length,gn[i]=false:=by
 unfold gl
 rw [List.mem_map]
 constructor
 · rintro ⟨i,hi,rfl⟩
   rw [List.mem_filter,List.mem_range] at hi
   refine ⟨i,rfl,hi.1,?_⟩
   have:=hi.2
   rw [zb7 hi.1] at this
   simpa using this
 · rintro ⟨i,rfl,hi,hg⟩
   refine ⟨i,List.mem_filter.2 ⟨List.mem_range.2 hi,?_⟩,rfl⟩
   rw [zb7 hi,hg]; rfl
theorem zfi {gn:List Bool} {i:Nat} (hi:i<gn.length):(i:Int)∈gl gn↔gn[i]=false:=by
 rw [zom]
 constructor
 · rintro ⟨j,hj,h1,h2⟩
   have:j=i:=by omega
   subst this; exact h2
 · intro h; exact ⟨i,rfl,hi,h⟩
theorem zaek {gn:List Bool} {N:Nat} (hN:gn.length=N):gl gn=(rngI N).filter fun x=>decide (x∈gl gn):=by
 conv=>lhs; unfold gl
 unfold rngI
 rw [List.filter_map,hN]
 congr 1
 refine List.filter_congr fun i hi=>?_
 have hi':i<gn.length:=by rw [hN]; exact List.mem_range.1 hi
 rw [Bool.eq_iff_iff,Function.comp_apply,decide_eq_true_iff,zfi hi',zb7 hi']
 simp
def cntF (gn:List Bool):Nat:=gn.countP fun b=>!b
theorem zaar {gn:List Bool}:∀{i:Nat} (hi:i<gn.length),gn[i]=false→cntF (gn.set i true)+1=cntF gn:=by
 induction gn with
 | nil=>intro i hi; simp at hi
 | cons a r ih=>
   intro i hi hg
   cases i with
   | zero=>
     simp only [List.getElem_cons_zero] at hg
     subst hg
     simp [cntF]
   | succ i=>
     have:=ih (i:=i) (by simpa using hi) (by simpa using hg)
     unfold cntF at this ⊢
     simp only [List.set_cons_succ,List.countP_cons]
     omega
section
variable {h D : Hp} {g : TGraph} {es : List (Int × Int)} {l m : Sl} {gn : List Bool} {ds : List Int} {Kb : Bool → Hp → Prop} {Ki : Int → Hp → Prop} {Ks : Sl → Hp → Prop}
def OB (D h:Hp) (l:Sl) (gn:List Bool):Prop:=Own D h 1 l (gn.map bc)
theorem OB.len (ho:OB D h l gn):l.len=gn.length:=by have:=ho.2.1; simp at this; omega
theorem OB.get {i:Int} {K:Bool→Prop} (ho:OB D h l gn) (k:Nat) (hi:i=k) (hk:k<gn.length) (H:K gn[k]):idxP l i 1 fun a=>ldL .bool a K h:=by
 have hr:Rd h 1 l (gn.flatMap fun z=>[bc z]):=by rw [←zmv]; exact ho.rd
 refine rd_el (c:=fun z:Bool=>[bc z]) (n:=1) (fun _=>rfl) (by decide) hr k hi hk fun a ha=>?_
 have:=ha 0 _ (by decide) rfl
 rw [zan] at this
 exact ⟨_,this,H⟩
theorem OB.set {i:Int} {v:Bool} {K:Hp→Prop} (k:Nat) (ho:OB D h l gn) (hi:i=k) (hk:k<gn.length) (H:∀h',OB D h' l (gn.set k v)→(∀j,(∀a,l.a=some a→j≠a.block)→h' j=h j)→K h'):idxP l i 1 fun a=>stP a [.bool v] K h:=by
 unfold OB at ho
 rw [zmv] at ho
 refine za2d (c:=fun z:Bool=>[bc z]) (n:=1) (fun _=>rfl) (by decide) k ho hi hk rfl fun h' h1 h2=>H h' ?_ h2
 unfold OB
 rw [zmv]; exact h1
theorem zse {α:Type} {f:α→Value} {x:α}:∀n,repl n [f x]=(List.replicate n x).map f
 | 0=>rfl
 | n+1=>by
   have:=zse (f:=f) (x:=x) n
   unfold repl at this ⊢
   rw [List.replicate_succ,List.flatten_cons,this,List.replicate_succ,List.map_cons]
   rfl
theorem zacz {h':Hp} {n1 n2:Nat} {cs1 cs2:List Value} (h1:Own D h n1 l cs1) (h2:Own h h' n2 m cs2):Apt l m:=fun a b ha hb hh=>by
 have h3:=zyr h2 hb
 obtain ⟨_,_,_,g4⟩:=h1
 rw [ha] at g4
 obtain ⟨_,_,_,x,g5,_⟩:=g4
 rw [←hh,g5] at h3; cases h3
def degs (es:List (Int×Int)) (T:List Int) (N:Nat):List Int:=(List.range N).map fun i:Nat=>((degL es T (i:Int):Nat):Int)
theorem zp2 {es:List (Int×Int)} {T:List Int} {N i:Nat} (hi:i<N):(degs es T N)[i]?=some ((degL es T (i:Int):Nat):Int):=by
 unfold degs
 rw [List.getElem?_map,List.getElem?_range hi]
 rfl
theorem zdx {es:List (Int×Int)} {T:List Int} {N:Nat}:(degs es T N).length=N:=by simp [degs]
theorem zaay {es:List (Int×Int)} {T:List Int} {N:Nat} {e:Int×Int} (hn:¬(e.1∈T∧e.2∈T)):degs (es++[e]) T N=degs es T N:=by
 unfold degs
 refine List.map_congr_left fun i _=>?_
 rw [zq0,if_neg (fun hh=>hn ⟨hh.1,hh.2.1⟩)]
 rfl
theorem zacj {es:List (Int×Int)} {T:List Int} {N a b:Nat} (ha:a<N) (hb:b<N) (hab:a≠b) (hT:(a:Int)∈T∧(b:Int)∈T) :
 ((degs es T N).set a (((degL es T (a:Int):Nat):Int)+1)).set b (((degL es T (b:Int):Nat):Int)+1)=degs (es++[((a:Int),(b:Int))]) T N:=by
 refine List.ext_getElem? fun i=>?_
 rcases Nat.lt_or_ge i N with h1 | h1
 · rw [zp2 h1,zq0]
   simp only [hT.1,hT.2,true_and]
   rw [List.getElem?_set]
   by_cases hib:b=i
   · subst hib
     rw [if_pos rfl,if_pos (by simp [zdx]; exact h1),if_pos (.inr rfl)]
     rfl
   · rw [if_neg hib,List.getElem?_set]
     by_cases hia:a=i
     · subst hia
       rw [if_pos rfl,if_pos (by simp [zdx]; exact h1),if_pos (.inl rfl)]
       rfl
     · rw [if_neg hia,zp2 h1,if_neg (by omega)]
       rfl
 · rw [List.getElem?_eq_none (by simp [zdx]; exact h1),List.getElem?_eq_none (by rw [zdx]; exact h1)]
theorem zsj (hg:LR a2c 2 A2P h g.edges es) (hlen:es.length≤1000000) (H0:∀h',h.le h'→¬GV g.n es→Ks nilS h') (H:∀y T h',h.le h'→GV g.n es→IL h' y T→IsCore g.n.toNat es T→Ks y h'):callP (F.zjg g) Ks h:=by
 refine za1 (fun y h'=>(¬GV g.n es∧y=nilS)∨(GV g.n es∧∃T,IL h' y T∧IsCore g.n.toNat es T)) (fun K' hk=>?_) fun y h' hl hb=>by
  rcases hb with ⟨h1,rfl⟩ | ⟨h1,T,h2,h3⟩
  · exact H0 h' hl h1
  · exact H y T h' hl h1 h2 h3
 unfold F.zjg
 refine za0q hg (by omega) fun b h1 hl1 hb=>?_
 refine za2 (fun h2=>hk _ _ hl1 (.inl ⟨fun hv=>(by rw [hb.2 hv] at h2; cases h2),rfl⟩)) (fun h2=>?_)
 have hv:=hb.1 (by simpa using h2)
 obtain ⟨N,hN⟩:∃N:Nat,g.n=N:=⟨g.n.toNat,by have:=hv.1.1; omega⟩
 have hN60:N≤60:=by have:=hv.1.2; omega
 rw [hN,show ((N:Nat):Int).toNat=N from rfl] at hk
 rw [hN] at hv
 rw [hN]
 have hgl:=hg.len zf2
 have hes:=hv.2.1
 refine zyi (size:=1) N N rfl rfl (Nat.le_refl _) (by omega) (by omega) rfl fun m2 h3 hm2 _ ho3=>?_
 have ho3:OB h1 h3 m2 (List.replicate N false):=by unfold OB; rw [←zse]; exact ho3
 refine zol (fun f st h'=>∃gn:List Bool,OB h1 h' m2 gn∧gn.length=N∧(∀C:List Int,(∀x∈C,0≤x∧x<N)→(∀x∈C,3≤degL es C x)→∀x∈C,x∈gl gn) ∧
  (st.1=false→∀x∈gl gn,3≤degL es (gl gn) x)∧cntF gn*2+(if st.1=true then 1 else 0)≤f) (n0:=cntF (List.replicate N false)*2+1)
  ⟨_,ho3,by simp,fun C hC _ x hx=>?_,fun hh=>(by cases hh),by simp⟩ ?_
 · obtain ⟨c1,c2⟩:=hC x hx
   obtain ⟨i,rfl⟩:∃i:Nat,x=i:=⟨x.toNat,by omega⟩
   rw [zfi (by simp; omega)]
   simp
 rintro f ⟨ch,_⟩ h4 ⟨gn,ho,hgn,hgr,hst,hf⟩ K2 hK2
 simp only at hst hf
 have hle4:=Hp.le_trans hl1 ho.1
 have hml:=ho.len
 refine za2 (fun h5=>?_) (fun h5=>?_)
 ·
  simp only at h5
  rw [if_pos h5] at hf
  refine zyi (size:=1) N N rfl rfl (Nat.le_refl _) (by omega) (by omega) rfl fun m5 h6 hm5 _ ho6=>?_
  have ho6:OI h4 h6 m5 (degs [] (gl gn) N):=by
   have e:degs [] (gl gn) N=List.replicate N 0:=by
    unfold degs
    refine List.ext_getElem (by simp) fun i h1 h2=>?_
    simp [degL]
   unfold OI
   rw [e,←zse]; exact ho6
  refine zbe (n:=es.length) (by omega) (fun i h'=>OI h4 h' m5 (degs (es.take i) (gl gn) N)) (by simpa using ho6) ?_
  intro q h7 hq ho7 k hk2
  have hle7:=Hp.le_trans hle4 ho7.dle
  have hob7:OB h1 h7 m2 gn:=Own.le ho ho7.dle
  refine za0 (fun h8=>?_) (fun h8=>?_)
  · have hq':q<es.length:=by simp only at h8; omega
    have heq:=hes _ (List.getElem_mem hq')
    obtain ⟨a,ha⟩:∃a:Nat,es[q].1=a:=⟨es[q].1.toNat,by omega⟩
    obtain ⟨b,hb'⟩:∃b:Nat,es[q].2=b:=⟨es[q].2.toNat,by omega⟩
    have haN:a<N:=by omega
    have hbN:b<N:=by omega
    have hst:es.take (q+1)=es.take q++[es[q]]:=(List.take_append_getElem hq').symm
    refine za3 (fun _ h'=>OI h4 h' m5 (degs (es.take (q+1)) (gl gn) N)) (fun _ h' hh=>hk2 _ hq' hh) ?_
    refine (hg.le zf2 hle7).get zf2 q rfl hq' fun a10 x hxx hcx=>⟨_,hcx 0 _ rfl,_,hcx 1 _ rfl,?_⟩
    obtain ⟨x1,x2⟩:=hxx
    rw [x1,x2,ha,hb']
    have same:¬(es[q].1∈gl gn∧es[q].2∈gl gn)→OI h4 h7 m5 (degs (es.take (q+1)) (gl gn) N):=fun hn=>by rw [hst,zaay hn]; exact ho7
    refine hob7.get a rfl (by omega) ?_
    refine za2 (fun h9=>?_) (fun h9=>same fun hh=>?_)
    · refine hob7.get b rfl (by omega) ?_
      refine za2 (fun h10=>?_) (fun h10=>same fun hh=>?_)
      · have hT:(a:Int)∈gl gn∧(b:Int)∈gl gn:=⟨(zfi (by omega)).2 (by simpa using h9),(zfi (by omega)).2 (by simpa using h10)⟩
        have hdl:∀i,degL (es.take q) (gl gn) i≤es.length:=fun i=>Nat.le_trans zaci (by rw [List.length_take]; omega)
        have hga:∀{i:Nat} (hi:i<N) (hh:i<(degs (es.take q) (gl gn) N).length),(degs (es.take q) (gl gn) N)[i]=((degL (es.take q) (gl gn) (i:Int):Nat):Int):=fun hi hh=>by
         have:=zp2 (es:=es.take q) (T:=gl gn) hi
         rw [List.getElem?_eq_getElem hh] at this
         exact Option.some.inj this
        refine ho7.il.get a rfl (by rw [zdx]; exact haN) ?_
        rw [hga haN (by rw [zdx]; exact haN)]
        have d1:=hdl (a:Int)
        have d2:=hdl (b:Int)
        rw [w64 (by omega)]
        refine ho7.set a rfl (by rw [zdx]; exact haN) fun h11 ho11=>?_
        refine ho11.il.get b rfl (by rw [List.length_set,zdx]; exact hbN) ?_
        have hab:a≠b:=by omega
        rw [List.getElem_set_ne hab,hga hbN (by rw [zdx]; exact hbN),w64 (by omega)]
        refine ho11.set b rfl (by rw [List.length_set,zdx]; exact hbN) fun h12 ho12=>?_
        show OI _ _ _ _
        rw [hst]
        have he2:es[q]=((a:Int),(b:Int)):=Prod.ext ha hb'
        rw [he2,←zacj haN hbN hab hT]
        exact ho12
      · rw [hb',zfi (by omega)] at hh
        rw [hh.2] at h10; cases h10
    · rw [ha,zfi (by omega)] at hh
      rw [hh.1] at h9; cases h9
  · have:q=es.length:=by simp only at h8; omega
    subst this
    rw [List.take_length] at ho7
    have hap:Apt m2 m5:=zacz ho ho7
    have hod:OI h1 h7 m5 (degs es (gl gn) N):=OI.base ho7 ho.1
    have hml7:=hob7.len
    refine zah (fun st h'=>∃(i:Nat) (gn':List Bool),st.2.1=(i:Int)∧i≤N∧OB h1 h' m2 gn'∧OI h1 h' m5 (degs es (gl gn) N)∧gn'.length=N ∧
     (∀j (hj:j<N),i≤j→gn'.getD j true=gn.getD j true)∧(∀j (hj:j<N),gn'.getD j true=true→gn.getD j true=true∨degL es (gl gn) (j:Int)≤2)∧(∀j (hj:j<N),gn.getD j true=true→gn'.getD j true=true) ∧
     (∀j (hj:j<N),j<i→gn'.getD j true=false→3≤degL es (gl gn) (j:Int))∧(st.1=false→gn'=gn)∧(st.1=true→cntF gn'<cntF gn)∧cntF gn'≤cntF gn) (fun st=>(N-st.2.1).toNat)
     ⟨0,gn,rfl,by omega,hob7,hod,hgn,fun j hj _=>rfl,fun j hj hh=>.inl hh,fun j hj hh=>hh,fun j hj hji=>by omega,fun _=>rfl,fun hh=>(by cases hh),Nat.le_refl _⟩ ?_
    clear hob7 hod ho7 hk2
    rintro ⟨c9,i9,_⟩ h9 ⟨i,gn',hi9,hi,hob,hod,hgn',r1,r2,r3,r4,r5,r6,r7⟩
    simp only at hi9
    subst hi9
    have hobl:=hob.len
    refine za0 (fun h10=>?_) (fun h10=>?_)
    · have hi':i<N:=by simp only at h10; omega
      have hcur:=r1 i hi' (Nat.le_refl _)
      rw [zb7 (by omega)] at hcur
      refine za3 (fun s h'=>∃gn'':List Bool,OB h1 h' m2 gn''∧OI h1 h' m5 (degs es (gl gn) N)∧gn''.length=N ∧
       (∀j (hj:j<N),i+1≤j→gn''.getD j true=gn.getD j true)∧(∀j (hj:j<N),gn''.getD j true=true→gn.getD j true=true∨degL es (gl gn) (j:Int)≤2)∧(∀j (hj:j<N),gn.getD j true=true→gn''.getD j true=true) ∧
       (∀j (hj:j<N),j<i+1→gn''.getD j true=false→3≤degL es (gl gn) (j:Int))∧(s.1=false→gn''=gn)∧(s.1=true→cntF gn''<cntF gn)∧cntF gn''≤cntF gn) ?_ ?_
      · rintro ⟨c,_⟩ h11 ⟨gn'',q1,q2,q3,q4,q5,q6,q7,q8,q9,q10⟩
        exact ⟨⟨i+1,gn'',by (try simp only); rw [w64 (by omega)]; rfl,by omega,q1,q2,q3,q4,q5,q6,q7,q8,q9,q10⟩,by (try simp only); rw [w64 (by omega)]; omega⟩
      · refine hob.get i rfl (by omega) ?_
        have hd3:∀j (hj:j<N),j<i+1→gn'.getD j true=false→(j=i→3≤degL es (gl gn) (i:Int))→3≤degL es (gl gn) (j:Int):=fun j hj hji hh hc=>by
         rcases Nat.lt_or_ge j i with h1 | h1
         · exact r4 j hj h1 hh
         · have:j=i:=by omega
           subst this; exact hc rfl
        refine za2 (fun h11=>?_) (fun h11=>⟨gn',hob,hod,hgn',fun j hj hij=>r1 j hj (by omega),r2,r3,fun j hj hji hh=>hd3 j hj hji hh fun e=>?_,r5,r6,r7⟩)
        · refine hod.il.get i rfl (by rw [zdx]; exact hi') ?_
          have hgi:(degs es (gl gn) N)[i]'(by rw [zdx]; exact hi')=((degL es (gl gn) (i:Int):Nat):Int):=by
           have:=zp2 (es:=es) (T:=gl gn) hi'
           rw [List.getElem?_eq_getElem (by rw [zdx]; exact hi')] at this
           exact Option.some.inj this
          rw [hgi]
          have hfal:gn'[i]'(by omega)=false:=by simpa using h11
          refine za0 (fun h12=>?_) (fun h12=>⟨gn',hob,hod,hgn',fun j hj hij=>r1 j hj (by omega),r2,r3,fun j hj hji hh=>hd3 j hj hji hh fun e=>by have h12:¬((degL es (gl gn) (i:Int):Nat):Int)≤2:=h12; omega,r5,r6,r7⟩)
          have h12:((degL es (gl gn) (i:Int):Nat):Int)≤2:=h12
          refine hob.set i rfl (by omega) fun h13 hob13 hs13=>?_
          have hod13:OI h1 h13 m5 (degs es (gl gn) N):=zabc hod hap hob13.1 hs13
          have hcs:=zaar (gn:=gn') (i:=i) (by omega) hfal
          have gd:∀j,(gn'.set i true).getD j true=if j=i then true else gn'.getD j true:=fun j=>by
           rw [List.getD_eq_getElem?_getD,List.getElem?_set]
           by_cases hji:i=j
           · subst hji
             rw [if_pos rfl,if_pos (by omega),if_pos rfl]
             rfl
           · rw [if_neg hji,if_neg (fun h=>hji h.symm),List.getD_eq_getElem?_getD]
          refine ⟨gn'.set i true,hob13,hod13,by simpa using hgn',fun j hj hij=>?_,fun j hj hh=>?_,fun j hj hh=>?_,fun j hj hji hh=>?_,fun hh=>(by cases hh),fun _=>by omega,by omega⟩
          · rw [gd,if_neg (by omega)]; exact r1 j hj (by omega)
          · rw [gd] at hh
            split at hh
            · rename_i e; subst e; exact .inr (by omega)
            · exact r2 j hj hh
          · rw [gd]
            split
            · rfl
            · exact r3 j hj hh
          · rw [gd] at hh
            split at hh
            · cases hh
            · exact hd3 j hj hji hh fun e=>by rename_i e2; exact absurd e e2
        · subst e
          have hh2:gn'[j]'(by omega)=false:=by rw [zb7 (by omega)] at hh; exact hh
          rw [hh2] at h11; cases h11
    · have hiN:i=N:=by simp only at h10; omega
      subst hiN
      have sub:∀x,x∈gl gn'→x∈gl gn:=fun x hx=>by
       obtain ⟨j,rfl,hj,hg2⟩:=zom.1 hx
       rw [zfi (by omega)]
       cases hgj:gn[j]'(by omega) with
       | false=>rfl
       | true=>
         have:=r3 j (by omega) (by rw [zb7 (by omega)]; exact hgj)
         rw [zb7 (by omega),hg2] at this; cases this
      have hgr':∀C:List Int,(∀x∈C,0≤x∧x<i)→(∀x∈C,3≤degL es C x)→∀x∈C,x∈gl gn':=fun C hC hC3 x hx=>by
       have hx2:=hgr C hC hC3 x hx
       obtain ⟨j,rfl,hj,hg2⟩:=zom.1 hx2
       rw [zfi (by omega)]
       cases hgj:gn'[j]'(by omega) with
       | false=>rfl
       | true=>
         rcases r2 j (by omega) (by rw [zb7 (by omega)]; exact hgj) with h1 | h1
         · rw [zb7 (by omega),hg2] at h1; cases h1
         · exact absurd hx (zv8 hC3 (hgr C hC hC3) h1)
      cases hc:c9 with
      | false=>
        have e:=r5 hc
        subst e
        refine hK2 (cntF gn'*2) _ _ (by omega) ⟨gn',hob,hgn,hgr',fun _ x hx=>?_,by simp⟩
        obtain ⟨j,rfl,hj,hg2⟩:=zom.1 hx
        exact r4 j (by omega) (by omega) (by rw [zb7 (by omega)]; exact hg2)
      | true=>
        have e:=r6 hc
        exact hK2 (cntF gn'*2+1) _ _ (by omega) ⟨gn',hob,hgn',hgr',fun hh=>(by cases hh),by simp⟩
 · simp only at h5
   have hdeg:=hst h5
   refine zbj (n:=N) (by omega) (fun i y h'=>OI h4 h' y ((gl gn).filter fun x=>decide (x<i))) (by
    have e:(gl gn).filter (fun x=>decide (x<((0:Nat):Int)))=[]:=by
     rw [List.filter_eq_nil_iff]
     intro x hx
     obtain ⟨j,rfl,_⟩:=zom.1 hx
     simp
    rw [e]; exact OI.nil) ?_
   intro i y h6 hi ho6 k hk2
   have hob6:OB h1 h6 m2 gn:=Own.le ho ho6.dle
   have hob6l:=hob6.len
   refine za0 (fun h7=>?_) (fun h7=>?_)
   · have hi':i<N:=by simp only at h7; omega
     have hstep:(gl gn).filter (fun x=>decide (x<((i+1:Nat):Int)))=(gl gn).filter (fun x=>decide (x<(i:Int)))++(if gn[i]'(by omega)=false then [(i:Int)] else []):=by
      have key:∀n:Nat,(gl gn).filter (fun x=>decide (x<(n:Int)))=((List.range gn.length).filter fun j=>!(gn.getD j true)&&decide (j<n)).map fun j:Nat=>(j:Int):=fun n=>by
       unfold gl
       rw [List.filter_map,List.filter_filter]
       congr 1
       refine List.filter_congr fun j _=>?_
       simp only [Function.comp_apply]
       rw [Bool.and_comm]
       congr 1
       simp
      have key2:∀n:Nat,n≤gn.length→(List.range gn.length).filter (fun j=>!(gn.getD j true)&&decide (j<n))=(List.range n).filter fun j=>!(gn.getD j true):=fun n hn=>by
       have e1:(List.range gn.length).filter (fun j=>!(gn.getD j true)&&decide (j<n))=((List.range gn.length).filter fun j=>decide (j<n)).filter fun j=>!(gn.getD j true):=by rw [List.filter_filter]
       have e2:(List.range gn.length).filter (fun j=>decide (j<n))=List.range n:=by
        obtain ⟨d,hd⟩:∃d,gn.length=n+d:=⟨gn.length-n,by omega⟩
        rw [hd,List.range_add,List.filter_append]
        have f1:(List.range n).filter (fun j=>decide (j<n))=List.range n:=by
         rw [List.filter_eq_self]; intro j hj; exact decide_eq_true (List.mem_range.1 hj)
        have f2:((List.range d).map (n+·)).filter (fun j=>decide (j<n))=[]:=by
         rw [List.filter_eq_nil_iff]; intro j hj
         obtain ⟨q,_,rfl⟩:=List.mem_map.1 hj
         simp
        rw [f1,f2,List.append_nil]
       rw [e1,e2]
      rw [key,key,key2 _ (by omega),key2 _ (by omega),List.range_succ,List.filter_append,List.map_append]
      congr 1
      have hgi:gn.getD i true=gn[i]'(by omega):=zb7 (by omega)
      rw [zp3,hgi]
      cases hg2:gn[i]'(by omega)<;>rfl
     have hfl:((gl gn).filter fun x=>decide (x<(i:Int))).length≤60:=by
      refine Nat.le_trans (List.length_filter_le _ _) ?_
      unfold gl
      rw [List.length_map]
      refine Nat.le_trans (List.length_filter_le _ _) ?_
      rw [List.length_range]; omega
     refine za3 (fun s h'=>OI h4 h' s.1 ((gl gn).filter fun x=>decide (x<((i+1:Nat):Int)))) (fun s h' hs=>hk2 _ _ hi' hs) ?_
     refine hob6.get i rfl (by omega) ?_
     refine za2 (fun h8=>?_) (fun h8=>?_)
     · refine ho6.app (by omega) fun w h9 ho9=>?_
       show OI _ _ _ _
       rw [hstep,if_pos (by simpa using h8)]; exact ho9
     · show OI _ _ _ _
       rw [hstep,if_neg (by simpa using h8),List.append_nil]; exact ho6
   · have:i=N:=by simp only at h7; omega
     subst this
     have e:(gl gn).filter (fun x=>decide (x<(i:Int)))=gl gn:=by
      rw [List.filter_eq_self]
      intro x hx
      obtain ⟨j,rfl,hj,_⟩:=zom.1 hx
      exact decide_eq_true (by omega)
     rw [e] at ho6
     exact hk _ _ (Hp.le_trans hle4 ho6.dle) (.inr ⟨hv,gl gn,ho6.il,zaek hgn,hdeg,hgr⟩)
end
end Den
end

section
namespace Den
open Go Iv Lx
section
variable {h : Hp} {g : TGraph} {es : List (Int × Int)} {S : PSk} {Kb : Bool → Hp → Prop}
theorem ztz {K:TExpr→Hp→Prop} (H:∀r h',h.le h'→NR h' r ((1:Int):Rat)→K ⟨1,r,emptyS,nilS⟩ h'):callP F.zig K h:=by
 refine za1 (fun e h'=>∃r,NR h' r ((1:Int):Rat)∧e=⟨1,r,emptyS,nilS⟩) (fun K' hk=>?_) fun e h' hl ⟨r,h1,h2⟩=>by subst h2; exact H r h' hl h1
 unfold F.zig
 exact zic (by decide) (by decide) fun z h' hl hz=>hk _ _ hl ⟨z,hz,rfl⟩
theorem zur {r:TRat} {K:TSketch→Hp→Prop} {N:Nat} (hN:g.n=N) (hN2:N≤10) (hg:LR a2c 2 A2P h g.edges es) (hlen:es.length≤20) (hr:NR h r ((1:Int):Rat)) (H:∀s S h',h.le h'→SK h' s S→DSK 1 S N es→K s h'):callP (F.zk0 g ⟨1,r,emptyS,nilS⟩) K h:=by
 refine za1 (fun s h'=>∃S,SK h' s S∧DSK 1 S N es) (fun K' hk=>?_) fun s h' hl ⟨S,h1,h2⟩=>H s S h' hl h1 h2
 unfold F.zk0
 dsimp only
 have hgl:=hg.len zf2
 rw [hN]
 have hor:OR h r (some ((1:Int):Rat)):=hr.or (zrx (by decide)) (by decide)
 refine zah (fun st h'=>∃(i:Nat) (pl:Sl),st=((pl,nilS,nilS,nilS,nilS,nilS,()),(i:Int),())∧i≤N∧LO ptc 8 PTT h h' pl (List.replicate i (some ((1:Int):Rat),some ((1:Int):Rat))))
  (fun st=>(N-st.2.1).toNat) ⟨0,nilS,rfl,by omega,LO.nil⟩ ?_
 rintro _ h1 ⟨i,pl,rfl,hi,hp⟩
 refine za0 (fun h2=>?_) (fun h2=>?_)
 · have hi':i<N:=by simp only at h2; omega
   refine hp.app (x:=(⟨r,r⟩:TPoint)) (b:=(some ((1:Int):Rat),some ((1:Int):Rat))) zdi rfl (by simp; omega) (by simp; omega) ⟨hor,hor⟩ fun w h3 hp3=>⟨⟨i+1,w,by (try simp only); rw [w64 (by omega)]; rfl,by omega,?_⟩,by (try simp only); rw [w64 (by omega)]; omega⟩
   rw [List.replicate_succ']
   exact hp3
 have:i=N:=by simp only at h2; omega
 subst this
 have hle1:=hp.dle
 refine zah (fun st h'=>∃(q:Nat) (cl:Sl) (con:List PCon) (D:Hp),st=((pl,nilS,nilS,nilS,nilS,cl,()),(q:Int),())∧q≤es.length∧h1.le D∧LO cc 5 CO D h' cl con∧DCL 1 con (es.take q))
  (fun st=>(es.length-st.2.1).toNat) ⟨0,nilS,[],h1,rfl,by omega,Hp.le_refl _,LO.nil,trivial⟩ ?_
 rintro _ h3 ⟨q,cl,con,D,rfl,hq,hD,hc,hdc⟩
 have hcl:=hdc.len
 rw [List.length_take] at hcl
 refine za0 (fun h4=>?_) (fun h4=>?_)
 · have hq':q<es.length:=by simp only at h4; omega
   have hle3:=Hp.le_trans hle1 (Hp.le_trans hD hc.dle)
   refine (hg.le zf2 hle3).get zf2 q rfl hq' fun a x hxx hcx=>⟨_,hcx 0 _ rfl,?_⟩
   refine (hg.le zf2 hle3).get zf2 q rfl hq' fun a x2 hxx2 hcx2=>⟨_,hcx2 1 _ rfl,?_⟩
   rw [hxx.1,hxx2.2]
   refine hc.newb zab fun p10 D4 h5 d4 l5 hc c10=>hc.newb zab fun p11 D5 h6 d5 l6 hc c11=>?_
   refine hc.app (x:=(⟨2,⟨some p10,2,2⟩,nilS,⟨some p11,1,1⟩,0⟩:TConstraint)) (b:=⟨2,[es[q].1,es[q].2],[],[numE r 1],0⟩) zab rfl (by omega) (by omega) (zacg (fun i v hv=>Hp.cell_le d5 (c10 i v hv)) c11 (by decide) (hr.le (Hp.le_trans hle1 (Hp.le_trans hD (Hp.le_trans d4 d5))))) fun w h7 hc7=>?_
   refine ⟨⟨q+1,w,_,D5,by (try simp only); rw [w64 (by omega)]; rfl,by omega,Hp.le_trans hD (Hp.le_trans d4 d5),hc7,?_⟩,by (try simp only); rw [w64 (by omega)]; omega⟩
   rw [←List.take_append_getElem hq']
   exact DCL.snoc (e:=es[q]) ⟨r,zaba (by decide) hr,rfl⟩ hdc
 · have:q=es.length:=by simp only at h4; omega
   subst this
   rw [List.take_length] at hdc
   refine hk _ _ (Hp.le_trans hle1 (Hp.le_trans hD hc.dle)) ⟨⟨List.replicate i (some ((1:Int):Rat),some ((1:Int):Rat)),[],[],[],[],con⟩,⟨(hp.lr zdi).le zdi (Hp.le_trans hD hc.dle),LR.nil,LR.nil,LR.nil,LR.nil,hc.lr zab⟩,by simp,fun p hp=>?_,rfl,rfl,rfl,rfl,hdc⟩
   rw [List.eq_of_mem_replicate hp]
   exact ⟨rfl,rfl⟩
end
theorem DCL.get {z:Int}:∀{l:List PCon} {q:List (Int×Int)},DCL z l q→∀{k:Nat} (h1:k<l.length) (h2:k<q.length),DC z l[k] q[k]
 | [],_,_,k,h1,_=>by simp at h1
 | a :: r,b :: q,h,0,_,_=>h.1
 | a :: r,b :: q,h,k+1,h1,h2=>DCL.get h.2 (by simpa using h1) (by simpa using h2)
 | a :: r,[],h,_,_,_=>h.elim
theorem DSK.allC {z:Int} {S:PSk} {n:Nat} {es:List (Int×Int)} (h:DSK z S n es):Den.allC S=S.con:=by
 unfold Den.allC imp impL
 rw [h.2.2.2.2.1]; simp
theorem DSK.its {z:Int} {S:PSk} {n:Nat} {es:List (Int×Int)} (h:DSK z S n es):Den.its S=es.map fun e=>[e.1,e.2]:=by
 have hl:=h.2.2.2.2.2.2.len
 unfold Den.its
 rw [h.allC]
 refine List.ext_getElem (by simp [hl]) fun k h1 h2=>?_
 rw [List.getElem_map,List.getElem_map]
 obtain ⟨x,_,e⟩:=h.2.2.2.2.2.2.get (k:=k) (by simpa using h1) (by simpa using h2)
 rw [e]
 simp [itemsC]
theorem DSK.all {z:Int} {S:PSk} {n:Nat} {es:List (Int×Int)} (h:DSK z S n es):allS S=rngI n:=by
 unfold allS allI rngI
 rw [h.1,h.2.2.1]
 simp
theorem DSK.kind {z:Int} {S:PSk} {n:Nat} {es:List (Int×Int)} (h:DSK z S n es) {k:Nat} (hk:k<es.length):(Den.allC S).getD k dC=⟨2,[es[k].1,es[k].2],[],((Den.allC S).getD k dC).vals,0⟩:=by
 have hl:=h.2.2.2.2.2.2.len
 rw [h.allC,zb7 (by omega)]
 obtain ⟨x,_,e⟩:=h.2.2.2.2.2.2.get (k:=k) (by omega) hk
 rw [e]
theorem zaah {z:Int} {S:PSk} {n:Nat} {es:List (Int×Int)} (h:DSK z S n es) {T R:List Int} (hT:∀e∈es,(e.1∈T↔e.1∉R)∧(e.2∈T↔e.2∉R)) {i:Int}:∀k,k≤es.length→wtL (Den.allC S) (remN (Den.its S) i R k)=degL (es.take k) T i
 | 0,_=>by simp [remN,wtL,degL]
 | k+1,hk=>by
   have hk':k<es.length:=by omega
   have ih:=zaah h hT (i:=i) k (by omega)
   have hg:(Den.its S).getD k []=[es[k].1,es[k].2]:=by
    rw [h.its,zb7 (by simpa using hk'),List.getElem_map]
   have hstep:remN (Den.its S) i R (k+1)=remN (Den.its S) i R k++(if keepP ((Den.its S).getD k []) i R then [(k:Int)] else []):=rfl
   rw [←List.take_append_getElem hk',zq0,←ih,hstep,hg]
   have ht:=hT _ (List.getElem_mem hk')
   have e:keepP [es[k].1,es[k].2] i R↔(es[k].1∈T∧es[k].2∈T∧(es[k].1=i∨es[k].2=i)):=by
    unfold keepP
    simp only [List.mem_cons,List.not_mem_nil,or_false,forall_eq_or_imp,forall_eq]
    rw [ht.1,ht.2]
    constructor
    · rintro ⟨h1,h2,h3⟩
      exact ⟨h2,h3,h1.imp Eq.symm Eq.symm⟩
    · rintro ⟨h2,h3,h1⟩
      exact ⟨h1.imp Eq.symm Eq.symm,h2,h3⟩
   by_cases hh:es[k].1∈T∧es[k].2∈T∧(es[k].1=i∨es[k].2=i)
   · rw [if_pos (e.2 hh),if_pos hh,zpj,show ((k:Nat):Int).toNat=k from rfl,h.kind hk']
     rfl
   · rw [if_neg (fun h=>hh (e.1 h)),if_neg hh,List.append_nil]; rfl
theorem za1o {z:Int} {S:PSk} {n:Nat} {es:List (Int×Int)} (h:DSK z S n es) {T R:List Int} (hT:∀e∈es,(e.1∈T↔e.1∉R)∧(e.2∈T↔e.2∉R)) {i:Int} (hi:0≤i):canP (Den.allC S) (cens S) R i↔i∉R∧degL es T i≤2:=by
 have e0:(Den.allC S).map (fun c=>itemsC c (cens S))=Den.its S:=rfl
 have hlen:(Den.its S).length=es.length:=by rw [h.its]; simp
 have hw:=zaah h hT (i:=i) es.length (Nat.le_refl _)
 rw [List.take_length] at hw
 unfold canP
 rw [e0]
 have hm:most i=2:=by unfold most; rw [if_neg (by omega)]
 have hr:remL (Den.its S) i R=remN (Den.its S) i R es.length:=by unfold remL; rw [hlen]
 rw [hm,hr,hw]
 constructor
 · exact fun hh=>⟨hh.1,hh.2.1⟩
 · rintro ⟨h1,h2⟩
   refine ⟨h1,h2,fun j hj=>?_⟩
   obtain ⟨k,hk,rfl,hkp⟩:=zsd.1 hj
   rw [show ((k:Nat):Int).toNat=k from rfl,h.kind hk]
   have hg:(Den.its S).getD k []=[es[k].1,es[k].2]:=by
    rw [h.its,zb7 (by simpa using hk),List.getElem_map]
   have hmem:i∈[es[k].1,es[k].2]:=by rw [←hg]; exact hkp.1
   unfold suitP
   rw [if_neg (by omega),if_neg (by show ¬eqK 2=2; decide)]
   right
   unfold kindP
   simp only
   rw [if_neg (by decide),if_neg (by decide),if_neg (by decide),if_neg (fun hn=>hn hmem),if_neg (by decide),if_pos trivial]
theorem za1u {z:Int} {S:PSk} {n:Nat} {es:List (Int×Int)} (h:DSK z S n es) (hes:∀e∈es,0≤e.1∧e.1<e.2∧e.2<n):IsCore n es (coreS S):=by
 have hmem:∀{R:List Int} {x:Int},x∈leftL (allS S) R↔(0≤x∧x<n)∧x∉R:=fun {R x}=>by
  unfold leftL
  rw [List.mem_filter,h.all,zmw]
  simp
 have hT:∀R:List Int,∀e∈es,(e.1∈leftL (allS S) R↔e.1∉R)∧(e.2∈leftL (allS S) R↔e.2∉R):=fun R e he=>by
  have:=hes e he
  rw [hmem,hmem]
  exact ⟨⟨fun h=>h.2,fun h=>⟨by omega,h⟩⟩,⟨fun h=>h.2,fun h=>⟨by omega,h⟩⟩⟩
 refine ⟨?_,fun i hi=>?_,fun C hC hC3 i hi=>?_⟩
 · have e0:coreS S=(rngI n).filter fun x=>decide (x∉peelS S (allS S)):=by
    rw [←h.all]; rfl
   refine e0.trans (List.filter_congr fun x hx=>?_)
   have:x∈coreS S↔x∉peelS S (allS S):=by
    unfold coreS
    rw [hmem]
    exact ⟨fun h=>h.2,fun h=>⟨zmw.1 hx,h⟩⟩
   simp only [this]
 · have hi2:=hmem.1 hi
   have he:=zqb (S:=S) (pref:=allS S) (x:=i) (by rw [h.all,zmw]; exact hi2.1)
   rw [za1o h (hT _) (by omega)] at he
   have:degL es (coreS S) i=degL es (leftL (allS S) (peelS S (allS S))) i:=rfl
   rw [this]
   exact Nat.lt_of_not_le fun hh=>he ⟨hi2.2,hh⟩
 · suffices H:∀k,k≤(peelS S (allS S)).length→∀x∈(peelS S (allS S)).take k,x∉C by
    have:=H _ (Nat.le_refl _)
    rw [List.take_length] at this
    exact hmem.2 ⟨hC i hi,fun hp=>this i hp hi⟩
   intro k
   induction k with
   | zero=>intro _ x hx; simp at hx
   | succ k ih=>
     intro hk x hx
     have hk':k<(peelS S (allS S)).length:=by omega
     rw [←List.take_append_getElem hk',List.mem_append] at hx
     rcases hx with hx | hx
     · exact ih (by omega) x hx
     · rw [List.mem_singleton] at hx
       obtain ⟨h1,h2⟩:=zyu (S:=S) (pref:=allS S) hk'
       rw [zb7 hk',←hx] at h1 h2
       rw [h.all,zmw] at h2
       rw [za1o h (hT _) h2.1] at h1
       exact zv8 hC3 (fun y hy=>hmem.2 ⟨hC y hy,fun hp=>ih (by omega) y hp hy⟩) h1.2
def es4:List (Int×Int):=[(0,1),(0,2),(0,3),(1,2),(1,3),(2,3)]
def es3:List (Int×Int):=[(0,1),(0,2),(1,2)]
theorem core4:IsCore 4 es4 [0,1,2,3]:=by
 refine ⟨by decide,by decide,fun C hC _ i hi=>?_⟩
 have:=hC i hi
 simp only [List.mem_cons,List.not_mem_nil,or_false]
 omega
theorem core3:IsCore 3 es3 []:=by
 refine ⟨by decide,fun i hi=>(by cases hi),fun C hC hC3 i hi=>?_⟩
 have h1:=hC i hi
 have h2:=hC3 i hi
 have h3:degL es3 C i≤degL es3 [0,1,2] i:=zv1 fun x hx=>by
  have:=hC x hx
  simp only [List.mem_cons,List.not_mem_nil,or_false]
  omega
 have h4:∀j:Fin 3,degL es3 [0,1,2] ((j:Nat):Int)≤2:=by decide
 have h5:=h4 ⟨i.toNat,by omega⟩
 have e:(((⟨i.toNat,by omega⟩:Fin 3):Nat):Int)=i:=by simp; omega
 rw [e] at h5
 omega
theorem gv4:GV 4 es4:=by
 refine ⟨by decide,by decide,fun j hj=>?_⟩
 have:∀j:Fin 5,befE (es4[(j:Nat)]'(by simp [es4]; omega)) (es4[(j:Nat)+1]'(by simp [es4]; omega)):=by
  intro j
  match j with
  | ⟨0,_⟩=>exact .inr ⟨rfl,by show (1:Int)<2; decide⟩
  | ⟨1,_⟩=>exact .inr ⟨rfl,by show (2:Int)<3; decide⟩
  | ⟨2,_⟩=>exact .inl (by show (0:Int)<1; decide)
  | ⟨3,_⟩=>exact .inr ⟨rfl,by show (2:Int)<3; decide⟩
  | ⟨4,_⟩=>exact .inl (by show (1:Int)<2; decide)
 exact this ⟨j,by simp [es4] at hj; omega⟩
theorem gv3:GV 3 es3:=by
 refine ⟨by decide,by decide,fun j hj=>?_⟩
 have:∀j:Fin 2,befE (es3[(j:Nat)]'(by simp [es3]; omega)) (es3[(j:Nat)+1]'(by simp [es3]; omega)):=by
  intro j
  match j with
  | ⟨0,_⟩=>exact .inr ⟨rfl,by show (1:Int)<2; decide⟩
  | ⟨1,_⟩=>exact .inl (by show (0:Int)<1; decide)
 exact this ⟨j,by simp [es3] at hj; omega⟩
theorem bars4 {S:PSk} (h:DSK 1 S 4 es4):wiS S [0,1,2,3]=[0,1,2,3,4,5]:=by
 unfold wiS
 rw [h.its]
 decide
section
variable {h : Hp} {s : TSketch} {S : PSk} {Kb : Bool → Hp → Prop}
theorem zpx (ht:GT h) (H:∀h',h.le h'→Kb true h'):callP F.zgz Kb h:=by
 refine za1 (fun b _=>b=true) (fun K' hk=>?_) fun b h' hl hb=>by subst hb; exact H h' hl
 unfold F.zgz
 refine zgr fun p1 h1 hl1 c1=>zgr fun p2 h2 hl2 c2=>?_
 have hle2:=Hp.le_trans hl1 hl2
 have g4:∀{h'},h2.le h'→LR a2c 2 A2P h' ⟨some p1,6,6⟩ es4:=fun hl=>LR.le zf2 (h:=h1) ⟨[⟨0,1⟩,⟨0,2⟩,⟨0,3⟩,⟨1,2⟩,⟨1,3⟩,⟨2,3⟩],zd5 (size:=2) (n:=6) c1 rfl,Nat.le_refl _,rfl,fun k k1 k2=>by
  match k,k1 with
  | 0,_=>exact ⟨rfl,rfl⟩
  | 1,_=>exact ⟨rfl,rfl⟩
  | 2,_=>exact ⟨rfl,rfl⟩
  | 3,_=>exact ⟨rfl,rfl⟩
  | 4,_=>exact ⟨rfl,rfl⟩
  | 5,_=>exact ⟨rfl,rfl⟩⟩ (Hp.le_trans hl2 hl)
 have g3:∀{h'},h2.le h'→LR a2c 2 A2P h' ⟨some p2,3,3⟩ es3:=fun hl=>LR.le zf2 (h:=h2) ⟨[⟨0,1⟩,⟨0,2⟩,⟨1,2⟩],zd5 (size:=2) (n:=3) c2 rfl,Nat.le_refl _,rfl,fun k k1 k2=>by
  match k,k1 with
  | 0,_=>exact ⟨rfl,rfl⟩
  | 1,_=>exact ⟨rfl,rfl⟩
  | 2,_=>exact ⟨rfl,rfl⟩⟩ hl
 refine ztz fun r3 h3 hl3 hr3=>?_
 refine zur (g:=⟨4,⟨some p1,6,6⟩⟩) (es:=es4) (N:=4) rfl (by decide) (g4 hl3) (by decide) hr3 fun s4 S4 h4 hl4 hx4 hd4=>?_
 have l4:=Hp.le_trans hl3 hl4
 have hle4:=Hp.le_trans hle2 l4
 have v4:VS S4:=hd4.vs dec1 (by decide)
 have ss4:sSk S4:=hd4.ss (by decide) (by decide)
 have k4:coreS S4=[0,1,2,3]:=(za1u hd4 (by decide)).unique core4
 refine zus hx4 ss4 (ht.le hle4) fun r5 h5 hl5 hr5=>?_
 obtain ⟨i1,i2⟩:IL h5 r5.1 [0,1,2,3]∧IL h5 r5.2 [0,1,2,3,4,5]:=by
  rcases hr5 with ⟨_,_,h6,h7⟩ | ⟨h6,_⟩
  · rw [k4] at h6 h7
    rw [bars4 hd4] at h7
    exact ⟨h6,h7⟩
  · rcases h6 with h6 | h6
    · exact absurd v4 h6
    · rw [k4] at h6; cases h6
 have l5:=Hp.le_trans l4 hl5
 refine zgr fun p6 h6 hl6 c6=>?_
 refine zjo (xs:=[0,1,2,3]) (ys:=[0,1,2,3]) (i1.le hl6) ⟨zd5 (size:=1) (n:=4) c6 rfl,Nat.le_refl _⟩ (by decide) fun h7 hl7=>?_
 refine zbh (decide_eq_true rfl) ?_
 refine zgr fun p8 h8 hl8 c8=>?_
 have l58:=Hp.le_trans hl6 (Hp.le_trans hl7 hl8)
 refine zjo (xs:=[0,1,2,3,4,5]) (ys:=[0,1,2,3,4,5]) (i2.le l58) ⟨zd5 (size:=1) (n:=6) c8 rfl,Nat.le_refl _⟩ (by decide) fun h9 hl9=>?_
 refine zbh (decide_eq_true rfl) ?_
 have l9:=Hp.le_trans l5 (Hp.le_trans l58 hl9)
 refine ztz fun r10 h10 hl10 hr10=>?_
 have l10:=Hp.le_trans l9 hl10
 refine zur (g:=⟨3,⟨some p2,3,3⟩⟩) (es:=es3) (N:=3) rfl (by decide) (g3 l10) (by decide) hr10 fun s11 S11 h11 hl11 hx11 hd11=>?_
 have l11:=Hp.le_trans l10 hl11
 have v11:VS S11:=hd11.vs dec1 (by decide)
 have ss11:sSk S11:=hd11.ss (by decide) (by decide)
 have k11:coreS S11=[]:=(za1u hd11 (by decide)).unique core3
 refine zpu hx11 ss11 (ht.le (Hp.le_trans hle2 l11)) fun b12 h12 hl12 hb12=>?_
 rw [hb12.2 ⟨v11,k11⟩]
 refine zbh rfl ?_
 have l12:=Hp.le_trans l11 hl12
 refine zsj (g:=⟨3,⟨some p2,3,3⟩⟩) (es:=es3) (g3 l12) (by decide) (fun _ _ hn=>absurd gv3 hn) fun y13 T13 h13 hl13 _ hi13 hc13=>?_
 have e13:T13=[]:=hc13.unique core3
 rw [e13] at hi13
 have n13:=hi13.len
 have n13:y13.len=0:=n13
 refine za8 (fun _=>?_) (fun hh=>absurd (by rw [n13]; rfl) hh)
 have l13:=Hp.le_trans l12 hl13
 refine zsj (g:=⟨4,⟨some p1,6,6⟩⟩) (es:=es4) (g4 l13) (by decide) (fun _ _ hn=>absurd gv4 hn) fun y14 T14 h14 hl14 _ hi14 hc14=>?_
 have e14:T14=[0,1,2,3]:=hc14.unique core4
 rw [e14] at hi14
 refine zgr fun p15 h15 hl15 c15=>?_
 refine zjo (xs:=[0,1,2,3]) (ys:=[0,1,2,3]) (hi14.le hl15) ⟨zd5 (size:=1) (n:=4) c15 rfl,Nat.le_refl _⟩ (by decide) fun h16 hl16=>?_
 exact hk _ _ (Hp.le_trans hle2 (Hp.le_trans l13 (Hp.le_trans hl14 (Hp.le_trans hl15 hl16)))) (decide_eq_true rfl)
theorem zzh (hx:SK h s S) (H:∀b h',h.le h'→(b=true→sSk S)→Kb b h'):callP (F.zky s) Kb h:=by
 refine za1 (fun b _=>b=true→sSk S) (fun K' hk=>?_) fun b h' hl hb=>H b h' hl hb
 unfold F.zky
 refine za2p hx fun b h1 hl1 hb=>za2 (fun h2=>?_) (fun h2=>hk _ _ hl1 fun h3=>by cases h3)
 refine za0 (fun _=>za0 (fun _=>hk _ _ hl1 fun _=>hb h2) (fun _=>hk _ _ hl1 fun h3=>by cases h3)) (fun _=>hk _ _ hl1 fun h3=>by cases h3)
end
end Den
end

section
namespace Den
open Go Iv Lx
theorem zp1 {S:PSk} {x:Int}:x∈coreS S↔x∈allS S∧x∉peelS S (allS S):=by
 unfold coreS leftL
 rw [List.mem_filter,decide_eq_true_iff]
theorem zach {S:PSk}:∀x∈allS S,x∈coreS S↔x∉peelS S (allS S):=fun x hx=>by rw [zp1]; exact ⟨fun h=>h.2,fun h=>⟨hx,h⟩⟩
theorem za4h {S:PSk} (hs:sSk S) (hv:VS S) {x:Int} (hx:x∈coreS S):prevT S x (coreS S)≠[]:=by
 have h:=zp1.1 hx
 exact fun hp=>zqb (S:=S) h.1 ((zyy hs hv zach h.2).1 hp)
section
variable {h : Hp} {s : TSketch} {S : PSk} {g : TGraph} {es : List (Int × Int)} {l : Sl} {xs : List Int} {K : Bool → Hp → Prop}
end
end Den
end

section
namespace Den
open Go Iv Lx
section
variable {h : Hp} {s : TSketch} {S : PSk} {K : Bool → Hp → Prop}
end
end Den
end

section
namespace Den
open Go Iv Lx
def ownL (its:List (List Int)) (x:Int) (l:List Int):List Int:=l.filter fun i=>decide (x∈its.getD i.toNat [])
theorem zvj {its:List (List Int)} {x i:Int} {l:List Int}:ownL its x (l++[i])=ownL its x l++(if x∈its.getD i.toNat [] then [i] else []):=by
 unfold ownL
 rw [List.filter_append,zp3]
 congr 1
 by_cases h:x∈its.getD i.toNat []
 · rw [if_pos h,if_pos (decide_eq_true h)]
 · rw [if_neg h,if_neg (by simpa using h)]
theorem za27 {its:List (List Int)} {x:Int} {T:List Int}:∀k,ownL its x (wiN its T k)=remTN its x T k
 | 0=>rfl
 | k+1=>by
   have ih:=za27 (its:=its) (x:=x) (T:=T) k
   have h1:wiN its T (k+1)=wiN its T k++(if inAll (its.getD k []) T then [(k:Int)] else []):=rfl
   have h2:remTN its x T (k+1)=remTN its x T k++(if keepT (its.getD k []) x T then [(k:Int)] else []):=rfl
   rw [h1,h2,←ih]
   by_cases ha:inAll (its.getD k []) T
   · rw [if_pos ha,zvj,show ((k:Nat):Int).toNat=k from rfl]
     congr 1
     by_cases hx:x∈its.getD k []
     · rw [if_pos hx,if_pos ⟨hx,ha⟩]
     · rw [if_neg hx,if_neg (fun hh=>hx hh.1)]
   · rw [if_neg ha,if_neg (fun hh=>ha hh.2),List.append_nil,List.append_nil]
theorem zaae {its:List (List Int)} {T:List Int}:∀{k:Nat} {j:Int},j∈wiN its T k→∃i:Nat,i<k∧j=i
 | 0,j,h=>by cases h
 | k+1,j,h=>by
   unfold wiN at h
   rcases List.mem_append.1 h with h | h
   · obtain ⟨i,hi,e⟩:=zaae h
     exact ⟨i,by omega,e⟩
   · split at h
     · exact ⟨k,by omega,List.mem_singleton.1 h⟩
     · cases h
def frozL (S:PSk):List (List Int):=(coreS S).map fun x=>prevT S x (coreS S)
theorem lo_hd {α β:Type} {c:α→List Value} {n:Nat} {P:Hp→α→β→Prop} {D h:Hp} {l:Sl} {ps:List β} (hR:Rec c n P) (hx:LO c n P D h l ps):LO c n P (HD h l) h l ps∧D.le (HD h l):=by
 obtain ⟨xs,h1,h2,h3⟩:=hx
 have:=h1.hd
 exact ⟨⟨xs,this.2,h2,fun k k1 k2=>hR.mono (h3 k k1 k2) this.1⟩,this.1⟩
theorem hd_at {h:Hp} {l:Sl} {j:Nat} (hj:∀a,l.a=some a→j≠a.block):HD h l j=h j:=by
 unfold HD
 cases ha:l.a with
 | none=>rfl
 | some a=>
   simp only
   unfold Hp.del
   rw [if_neg (hj a ha)]
theorem za80:Rec (fun z:Int=>[ic z]) 1 (fun (_:Hp) (x b:Int)=>x=b):=⟨fun _=>rfl,by decide,fun _=>rfl,fun hx _=>hx⟩
theorem lo_oi {D h:Hp} {l:Sl} {xs:List Int} (hx:LO (fun z:Int=>[ic z]) 1 (fun (_:Hp) (x b:Int)=>x=b) D h l xs):OI D h l xs:=by
 obtain ⟨ys,h1,h2,h3⟩:=hx
 have e:ys=xs:=List.ext_getElem h2 fun k k1 k2=>h3 k k1 k2
 subst e
 unfold OI
 rw [zmv]; exact h1
section
variable {h : Hp} {s : TSketch} {S : PSk} {K : Bool → Hp → Prop} {Ks : Sl → Hp → Prop}
theorem zqc (hx:SK h s S) (hs:sSk S) (H0:∀h',h.le h'→¬VS S→Ks nilS h') (H:∀y h',h.le h'→VS S→LR slc 1 ILP h' y (frozL S)→Ks y h'):callP (F.zk1 s) Ks h:=by
 refine za1 (fun y h'=>(¬VS S∧y=nilS)∨(VS S∧LR slc 1 ILP h' y (frozL S))) (fun K' hk=>?_) fun y h' hl hb=>by
  rcases hb with ⟨h1,rfl⟩ | ⟨h1,h2⟩
  · exact H0 h' hl h1
  · exact H y h' hl h1 h2
 unfold F.zk1
 refine za3l hx hs (fun h1 hl1 hn=>?_) (fun r1 h1 hl1 hv hI=>?_)
 · refine zah (fun st h'=>h'=h1∧st=(nilS,0,())) (fun _=>0) ⟨rfl,rfl⟩ ?_
   rintro _ h2 ⟨rfl,rfl⟩
   exact za0 (fun h3=>absurd h3 (by decide)) (fun _=>hk _ _ hl1 (.inl ⟨hn,rfl⟩))
 have hIl:=hI.len
 have hcl:=znf hs
 refine zbj (n:=(coreS S).length) (by omega) (fun i y h'=>∃D,h1.le D∧LO slc 1 ILP D h' y ((frozL S).take i)) ⟨h1,Hp.le_refl _,LO.nil⟩ ?_
 rintro i y h2 hi ⟨D,hD,ho⟩ k hk2
 have hle2:=Hp.le_trans hl1 (Hp.le_trans hD ho.dle)
 refine za0 (fun h3=>?_) (fun h3=>?_)
 · have hi':i<(coreS S).length:=by simp only at h3; omega
   refine (hI.le (Hp.le_trans hD ho.dle)).get i rfl hi' ?_
   have hsm:=zqs hs (zp1.1 (List.getElem_mem hi')).1
   unfold smI at hsm
   have hfl:(frozL S).length=(coreS S).length:=by simp [frozL]
   refine ho.call zcj (K1:=fun v h'=>IL h' v (prevT S (coreS S)[i] (coreS S))) (zn0 (item:=(coreS S)[i]) (hx.le (Hp.le_trans hl1 hD)) hs hv (hI.le hD) (by omega) (by omega) fun y h' hl hy=>hy) fun r6 D' h4 hl4 ho4 hr6=>?_
   refine ho4.app (x:=r6) (bytes:=24) (zero:=[.slice nilS.a nilS.len nilS.cap]) zcj rfl (by rw [List.length_take]; omega) (by rw [List.length_take]; omega) hr6 fun w h5 ho5=>hk2 _ _ hi' ⟨D',Hp.le_trans hD hl4,?_⟩
   have e:(frozL S)[i]'(by omega)=prevT S (coreS S)[i] (coreS S):=by simp [frozL]
   rw [←List.take_append_getElem (show i<(frozL S).length by omega),e]
   exact ho5
 · have:i=(coreS S).length:=by simp only at h3; omega
   subst this
   have hfl:(frozL S).length=(coreS S).length:=by simp [frozL]
   rw [←hfl,List.take_length] at ho
   exact hk _ _ hle2 (.inr ⟨hv,ho.lr zcj⟩)
theorem za02 (hx:SK h s S) (hs:sSk S) (ht:GT h) (H0:∀h',h.le h'→¬VS S→Ks nilS h') (H:∀y h',h.le h'→VS S→LR slc 1 ILP h' y (frozL S)→Ks y h'):callP (F.zkr s) Ks h:=by
 refine za1 (fun y h'=>(¬VS S∧y=nilS)∨(VS S∧LR slc 1 ILP h' y (frozL S))) (fun K' hk=>?_) fun y h' hl hb=>by
  rcases hb with ⟨h1,rfl⟩ | ⟨h1,h2⟩
  · exact H0 h' hl h1
  · exact H y h' hl h1 h2
 unfold F.zkr
 refine zus hx hs ht fun r1 h1 hl1 hr1=>?_
 by_cases hE:VS S∧coreS S≠[]
 · obtain ⟨hv,hne⟩:=hE
   obtain ⟨i1,i2⟩:IL h1 r1.1 (coreS S)∧IL h1 r1.2 (wiS S (coreS S)):=by
    rcases hr1 with ⟨_,_,h2,h3⟩ | ⟨h2,_⟩
    · exact ⟨h2,h3⟩
    · rcases h2 with h2 | h2
      · exact absurd hv h2
      · exact absurd h2 hne
   refine zux (hx.le hl1) hv hs fun r2 h2 hl2 hL=>?_
   have hle2:=Hp.le_trans hl1 hl2
   refine zlu (hx.le hle2) hs fun r3 h3 hl3 hC=>?_
   have hle3:=Hp.le_trans hle2 hl3
   have hok:=zgu hv hs
   have hal:=zhg hs
   have hcl:=znf hs
   have hcc:=zhi (S:=S)
   have s2:=hs.2.1
   have i1:=i1.le (Hp.le_trans hl2 hl3)
   have i2:=i2.le (Hp.le_trans hl2 hl3)
   have hL:=hL.le zab hl3
   have n1:=i1.len
   have n2:=i2.len
   have hfl:(frozL S).length=(coreS S).length:=by simp [frozL]
   have hwl:(wiS S (coreS S)).length≤40:=by
    have h1:=zun (its S) (coreS S) (its S).length
    rw [zcy] at h1
    unfold wiS
    rw [zcy]; omega
   refine zbj (n:=(coreS S).length) (by omega) (fun i y h'=>∃D,h3.le D∧LO slc 1 ILP D h' y ((frozL S).take i)) ⟨h3,Hp.le_refl _,LO.nil⟩ ?_
   rintro i y h4 hi ⟨D,hD,ho⟩ k hk2
   have l34:=Hp.le_trans hD ho.dle
   refine za0 (fun h5=>?_) (fun h5=>?_)
   · have hi':i<(coreS S).length:=by simp only at h5; omega
     obtain ⟨X,hX⟩:∃X,X=(coreS S)[i]:=⟨_,rfl⟩
     have hsm:=zqs hs (zp1.1 (List.getElem_mem hi')).1
     refine (i1.le l34).get i rfl hi' ?_
     rw [←hX] at hsm ⊢
     refine za3 (fun st h'=>h'=h4∧st.1=(most X:Int)) ?_ ?_
     · rintro ⟨m,_⟩ h4 ⟨rfl,hm⟩
       simp only at hm
       subst hm
       refine zah (fun st h'=>∃(q:Nat) (D':Hp),st.2.2.2.1=(q:Int)∧q≤(wiS S (coreS S)).length∧h4.le D'∧LO (fun z:Int=>[ic z]) 1 (fun (_:Hp) (x b:Int)=>x=b) D' h' st.1 (ownL (its S) X ((wiS S (coreS S)).take q)) ∧
        LO (fun z:Int=>[ic z]) 1 (fun (_:Hp) (x b:Int)=>x=b) D' h' st.2.1 (oddL (allC S) (cens S) X (ownL (its S) X ((wiS S (coreS S)).take q)))∧Apt st.1 st.2.1∧st.2.2.1=((wtL (allC S) (ownL (its S) X ((wiS S (coreS S)).take q)):Nat):Int))
        (fun st=>((wiS S (coreS S)).length-st.2.2.2.1).toNat) ⟨0,h4,rfl,by omega,Hp.le_refl _,LO.nil,LO.nil,fun a b ha=>(by cases ha),by simp [ownL,wtL]⟩ ?_
       rintro ⟨ow,bd,wt,qi,_⟩ h6 ⟨q,D',hqi,hq,hD',hown,hbad,hap,hwt⟩
       simp only at hqi hown hbad hap hwt
       subst hqi
       have l46:=Hp.le_trans hD' hown.dle
       have l36:=Hp.le_trans l34 l46
       have hol:(ownL (its S) X ((wiS S (coreS S)).take q)).length≤q:=by
        refine Nat.le_trans (List.length_filter_le _ _) ?_
        rw [List.length_take]; omega
       have hdl:(oddL (allC S) (cens S) X (ownL (its S) X ((wiS S (coreS S)).take q))).length≤q:=Nat.le_trans (List.length_filter_le _ _) hol
       refine za0 (fun h7=>?_) (fun h7=>?_)
       · have hq':q<(wiS S (coreS S)).length:=by simp only at h7; omega
         obtain ⟨j,hj1,hj2⟩:=zaae (List.getElem_mem hq')
         rw [zcy] at hj1
         have hgj:(allC S).getD j dC=(allC S)[j]:=zb7 hj1
         have hij:(its S).getD j []=itemsC (allC S)[j] (cens S):=by
          rw [zb7 (by rw [zcy]; exact hj1)]
          simp [its]
         have hst:ownL (its S) X ((wiS S (coreS S)).take (q+1))=ownL (its S) X ((wiS S (coreS S)).take q)++(if X∈itemsC (allC S)[j] (cens S) then [(j:Int)] else []):=by
          rw [←List.take_append_getElem hq',zvj,hj2,show ((j:Nat):Int).toNat=j from rfl,hij]
         have hokc:=hok _ (List.getElem_mem hj1)
         have hilen:=zm1 (cs:=cens S) hokc.2
         refine za3 (fun st h'=>∃D':Hp,h4.le D'∧LO (fun z:Int=>[ic z]) 1 (fun (_:Hp) (x b:Int)=>x=b) D' h' st.1 (ownL (its S) X ((wiS S (coreS S)).take (q+1))) ∧
          LO (fun z:Int=>[ic z]) 1 (fun (_:Hp) (x b:Int)=>x=b) D' h' st.2.1 (oddL (allC S) (cens S) X (ownL (its S) X ((wiS S (coreS S)).take (q+1))))∧Apt st.1 st.2.1∧st.2.2.1=((wtL (allC S) (ownL (its S) X ((wiS S (coreS S)).take (q+1))):Nat):Int)) ?_ ?_
         · rintro ⟨a,b,c,_⟩ h8 ⟨D2,g1,g2,g3,g4,g5⟩
           exact ⟨⟨q+1,D2,by (try simp only); rw [w64 (by omega)]; rfl,by omega,g1,g2,g3,g4,g5⟩,by (try simp only); rw [w64 (by omega)]; omega⟩
         refine (i2.le l36).get q rfl hq' ?_
         rw [show (wiS S (coreS S))[q]=((j:Nat):Int) from hj2]
         refine hL.get zab j rfl hj1 fun a16 x hxx hcx=>⟨_,Hp.cell_le l36 (hcx 0 _ rfl),_,Hp.cell_le l36 (hcx 1 _ rfl),_,Hp.cell_le l36 (hcx 2 _ rfl),_,Hp.cell_le l36 (hcx 3 _ rfl),_,Hp.cell_le l36 (hcx 4 _ rfl),?_⟩
         have hkind:x.kind=(allC S)[j].kind:=hxx.1
         refine zr8 (x:=x) (hxx.le l36) (hC.il.le l36) hokc.2 hokc.1.cirOk (by omega) fun r18 h8 hl8 ho8=>?_
         refine zdr ho8.il (by omega) fun h9 hl9=>?_
         have l69:=Hp.le_trans hl8 hl9
         have l39:=Hp.le_trans l36 l69
         refine za2 (fun h10=>?_) (fun h10=>?_)
         · have hn:X∉itemsC (allC S)[j] (cens S):=by simpa using h10
           refine ⟨D',hD',?_,?_,hap,?_⟩
           · rw [hst,if_neg hn,List.append_nil]; exact hown.le l69
           · rw [hst,if_neg hn,List.append_nil]; exact hbad.le l69
           · rw [hst,if_neg hn,List.append_nil]; exact hwt
         · have hm:X∈itemsC (allC S)[j] (cens S):=by simpa using h10
           refine zjf (kind:=x.kind) (ht.le (Hp.le_trans hle3 l39)).2.2 (fun _ _ ln ps=>?_) (fun hn=>absurd (by rw [hkind]; exact hokc.1.1) hn)
           refine za2j (x:=(j:Int)) (b:=(j:Int)) za80 (hown.le l69) (hbad.le l69) hap rfl (by omega) (by omega) rfl fun w h11 hown11 hbad11 hap11=>?_
           have l311:h3.le h11:=Hp.le_trans l34 (Hp.le_trans hD' hown11.dle)
           have hst2:=hst
           rw [if_pos hm] at hst2
           have hodd:oddL (allC S) (cens S) X (ownL (its S) X ((wiS S (coreS S)).take (q+1)))=oddL (allC S) (cens S) X (ownL (its S) X ((wiS S (coreS S)).take q))++(if suitP (allC S)[j] (cens S) X then [] else [(j:Int)]):=by
            rw [hst2,zvh,show ((j:Nat):Int).toNat=j from rfl,hgj]
           have hw1:=zu1 (L:=allC S) (ownL (its S) X ((wiS S (coreS S)).take q))
           have hw2:=zt1 (allC S)[j].kind
           have hwn:wtL (allC S) (ownL (its S) X ((wiS S (coreS S)).take (q+1)))=wtL (allC S) (ownL (its S) X ((wiS S (coreS S)).take q))+eqK (allC S)[j].kind:=by
            rw [hst2,zpj,show ((j:Nat):Int).toNat=j from rfl,hgj]
           have hwt2:IntKind.i64.wrap (wt+(((shK x.kind).2.2.2.1:Nat):Int))=((wtL (allC S) (ownL (its S) X ((wiS S (coreS S)).take (q+1))):Nat):Int):=by
            have e1:(shK x.kind).2.2.2.1=eqK (allC S)[j].kind:=by rw [hkind]; rfl
            rw [hwn,hwt,e1,w64 (by omega)]
            omega
           refine za0j (x:=x) (hxx.le l311) (hC.il.le l311) hokc.2 hokc.1.cirOk hokc.1.lenC (ht.le (Hp.le_trans hle3 l311)) hsm fun b12 h12 hl12 hb12=>?_
           have hown12:=hown11.le hl12
           have hbad12:=hbad11.le hl12
           rw [←hst2] at hown12
           refine za2 (fun h13=>?_) (fun h13=>?_)
           · have hns:¬suitP (allC S)[j] (cens S) X:=fun hh=>by rw [hb12.2 hh] at h13; cases h13
             refine za2j (x:=(j:Int)) (b:=(j:Int)) za80 hbad12 hown12 hap11.symm rfl (by omega) (by omega) rfl fun w2 h14 hbad14 hown14 hap14=>⟨D',hD',hown14,?_,hap14.symm,hwt2⟩
             rw [hodd,if_neg hns]; exact hbad14
           · have hys:suitP (allC S)[j] (cens S) X:=hb12.1 (by simpa using h13)
             refine ⟨D',hD',hown12,?_,hap11,hwt2⟩
             rw [hodd,if_pos hys,List.append_nil]; exact hbad12
       · have hqe:q=(wiS S (coreS S)).length:=by simp only at h7; omega
         subst hqe
         rw [List.take_length] at hown hbad hwt
         have hrem:ownL (its S) X (wiS S (coreS S))=remT (its S) X (coreS S):=za27 _
         rw [hrem] at hown hbad hwt
         obtain ⟨hoh,hDH⟩:=lo_hd zcj (ho.le l46)
         have hyb:∀(z:Sl) (zs:List Int),OI D' h6 z zs→IL (HD h6 y) z zs:=fun z zs hz=>⟨zsa hz fun a ha=>hd_at fun b hb hh=>(by
          have g1:=zyr hz ha
          obtain ⟨ys,g2,_,_⟩:=ho
          obtain ⟨_,_,_,g4⟩:=g2
          rw [hb] at g4
          obtain ⟨_,_,_,bl,g5,_⟩:=g4
          have g6:=hD' _ _ g5
          rw [hh,g6] at g1; cases g1),hz.2.2.1⟩
         have e:(frozL S)[i]'(by omega)=prevT S X (coreS S):=by rw [hX]; simp [frozL]
         refine za3 (fun st h'=>h'=h6∧IL (HD h6 y) st.1 (prevT S X (coreS S))) ?_ ?_
         · rintro ⟨w,_⟩ h8 ⟨rfl,hw⟩
           refine hoh.app (x:=w) (bytes:=24) (zero:=[.slice nilS.a nilS.len nilS.cap]) zcj rfl (by rw [List.length_take]; omega) (by rw [List.length_take]; omega) hw fun w2 h9 ho9=>hk2 _ _ hi' ⟨_,Hp.le_trans hD hDH,?_⟩
           rw [←List.take_append_getElem (show i<(frozL S).length by omega),e]
           exact ho9
         · unfold prevT
           refine za0 (fun h8=>⟨rfl,?_⟩) (fun h8=>⟨rfl,?_⟩)
           · rw [if_pos (by simp only at h8; omega)]
             exact hyb _ _ (lo_oi hown)
           · rw [if_neg (by simp only at h8; omega)]
             exact hyb _ _ (lo_oi hbad)
     · refine za0 (fun h6=>⟨rfl,?_⟩) (fun h6=>⟨rfl,?_⟩)
       · unfold most; rw [if_pos h6]; rfl
       · unfold most; rw [if_neg h6]; rfl
   · have:i=(coreS S).length:=by simp only at h5; omega
     subst this
     rw [←hfl,List.take_length] at ho
     exact hk _ _ (Hp.le_trans hle3 l34) (.inr ⟨hv,ho.lr zcj⟩)
 · have er:r1=(nilS,nilS):=by
    rcases hr1 with ⟨h1,h2,_,_⟩ | ⟨_,e⟩
    · exact absurd ⟨h1,h2⟩ hE
    · exact e
   subst er
   refine za2v (hx.le hl1) hs fun r2 h2 hl2=>?_
   have hle2:=Hp.le_trans hl1 hl2
   refine zlu (hx.le hle2) hs fun r3 h3 hl3 _=>?_
   refine zah (fun st h'=>h'=h3∧st=(nilS,0,())) (fun _=>0) ⟨rfl,rfl⟩ ?_
   rintro _ h4 ⟨rfl,rfl⟩
   refine za0 (fun h3=>absurd h3 (by decide)) (fun _=>hk _ _ (Hp.le_trans hle2 hl3) ?_)
   by_cases hv:VS S
   · right
     have hc:coreS S=[]:=Classical.byContradiction fun hn=>hE ⟨hv,hn⟩
     refine ⟨hv,?_⟩
     unfold frozL
     rw [hc]; exact LR.nil
   · exact .inl ⟨hv,rfl⟩
theorem za8n {S:PSk} (hs:sSk S) (x:Int) (T:List Int):(prevT S x T).length≤40:=by
 have h1:=znq (its S) x T (its S).length
 have h2:=zhg hs
 rw [zcy] at h1
 have h3:(remT (its S) x T).length≤40:=by unfold remT; rw [zcy]; omega
 unfold prevT
 split
 · exact h3
 · exact Nat.le_trans (List.length_filter_le _ _) h3
theorem zact (hx:SK h s S) (ht:GT h) (hk:∀h',h.le h'→K true h'):F.zj2 s K h:=by
 unfold F.zj2
 refine za3 (fun _ h'=>h.le h'∧sSk S) ?_ ?_
 · rintro _ h1 ⟨hl1,hs⟩
   refine za02 (hx.le hl1) hs (ht.le hl1) (fun h2 hl2 hn=>?_) (fun y h2 hl2 hv hy=>?_)
   · refine zqc (hx.le (Hp.le_trans hl1 hl2)) hs (fun h3 hl3 _=>?_) (fun _ _ _ hv _=>absurd hv hn)
     refine zbd (fun hh=>absurd rfl hh) (fun _=>?_)
     refine zah (fun st h'=>h'=h3∧st=(0,())) (fun _=>0) ⟨rfl,rfl⟩ ?_
     rintro _ h4 ⟨rfl,rfl⟩
     exact za0 (fun h3=>absurd h3 (by decide)) (fun _=>hk _ (Hp.le_trans hl1 (Hp.le_trans hl2 hl3)))
   · refine zqc (hx.le (Hp.le_trans hl1 hl2)) hs (fun h3 hl3 hn=>absurd hv hn) (fun z h3 hl3 _ hz=>?_)
     have hle3:=Hp.le_trans hl1 (Hp.le_trans hl2 hl3)
     have hy3:=hy.le zcj hl3
     have ny:=hy.len zcj
     have nz:=hz.len zcj
     have hcl:=znf hs
     have hfl:(frozL S).length=(coreS S).length:=by simp [frozL]
     refine zbd (fun hh=>absurd (by omega) hh) (fun _=>?_)
     refine zbe (n:=(frozL S).length) (by omega) (fun i h'=>h3.le h') (Hp.le_refl _) ?_
     intro i h4 hi hl4 k hk2
     refine za0 (fun h5=>?_) (fun h5=>hk _ (Hp.le_trans hle3 hl4))
     have hi':i<(frozL S).length:=by simp only at h5; omega
     refine za3 (fun _ h'=>h3.le h') (fun _ h' hh=>hk2 _ hi' hh) ?_
     have e:(frozL S)[i]=prevT S ((coreS S)[i]'(by omega)) (coreS S):=by simp [frozL]
     have hpl:=za8n hs ((coreS S)[i]'(by omega)) (coreS S)
     have hne:=za4h hs hv (List.getElem_mem (show i<(coreS S).length by omega))
     rw [←e] at hpl hne
     refine (hy3.le zcj hl4).get zcj i rfl hi' fun a x hxx hcx=>?_
     have c0:=hcx 0 _ rfl
     rw [zan] at c0
     refine ⟨_,c0,?_⟩
     refine (hz.le zcj hl4).get zcj i rfl hi' fun a2 x2 hxx2 hcx2=>?_
     have c2:=hcx2 0 _ rfl
     rw [zan] at c2
     refine ⟨_,c2,?_⟩
     refine zjo hxx hxx2 (by omega) fun h6 hl6=>zak (by rw [decide_eq_true rfl]; rfl) ?_
     have l36:=Hp.le_trans hl4 hl6
     refine (hy3.le zcj l36).get zcj i rfl hi' fun a3 x3 hxx3 hcx3=>?_
     have c3:=hcx3 0 _ rfl
     rw [zan] at c3
     refine ⟨_,c3,?_⟩
     have n3:=IL.len hxx3
     refine za8 (fun hh=>absurd (List.eq_nil_of_length_eq_zero (by omega)) hne) (fun _=>l36)
 · refine zpx ht fun h1 hl1=>zak rfl ?_
   refine zzh (hx.le hl1) fun b h2 hl2 hb=>?_
   have hle2:=Hp.le_trans hl1 hl2
   exact za2 (fun h3=>zpx (ht.le hle2) fun h3 hl3=>hk _ (Hp.le_trans hle2 hl3)) (fun h3=>⟨hle2,hb (by simpa using h3)⟩)
end
end Den
end
