/-
  Part 7 of the tools and contracts from which the statement is proved.
-/
import Derived.Test.YthifcokendanpaaGreatDoorPartb6
import Derived.Test.YthifcokendanpaaGreatDoorProg
import Derived.Laws.Externs
import Derived.Lib.Builder
import Derived.Lib.UnsafeStr
import Derived.WalkKit
import Derived.ProofKit
set_option linter.all false
section
set_option maxRecDepth 100000
namespace Den
open Go Go.Proofs.Tryz
noncomputable section
noncomputable def zln:ArgT ((Option Addr)×Unit):=(ArgT.cons (Ty.leaf .ptr) ArgT.nil)
noncomputable def zeg:Ty Unit:=Ty.unit
noncomputable def zel:FSem:=mkM zln zeg (fun a=>F.zdi a.1)
set_option maxHeartbeats 1000000 in
set_option maxRecDepth 100000 in
theorem zkt (b:Nat) (w:World) (h0:w.cell? ⟨b,0,none⟩=some (.pointer (some ⟨b,0,none⟩))) :
 Calls Go.Proofs.Tryz.prog 292 #[.pointer (some ⟨b,0,none⟩)] w fun e w'=>e=.returned (.tuple #[])∧w'=w:=by
 obtain ⟨j,hj,_⟩:=Option.map_eq_some_iff.1 (show (Go.Proofs.Tryz.prog.info? 239).map (·.size)=some 2 by kernel_rfl)
 go_enter Go.Proofs.Tryz.func292,Go.Proofs.Tryz.ntmps292
 go_wp2
 rw [Lib.run_neq_ptr_same w _ Go.Proofs.Tryz.underlying237 hj]
 go_wp2
 go_end0
 exact ⟨rfl,rfl⟩
set_option maxHeartbeats 1000000 in
set_option maxRecDepth 100000 in
theorem zks (b:Nat) (w:World) (h0:w.cell? ⟨b,0,none⟩=some (.pointer none)) (hsh:w.shape? b=some (239,2)) (hfz:w.frozen? ⟨b,0,none⟩=false) :
 Calls Go.Proofs.Tryz.prog 292 #[.pointer (some ⟨b,0,none⟩)] w fun e w'=>e=.returned (.tuple #[])∧w'=w.setCell ⟨b,0,none⟩ (.pointer (some ⟨b,0,none⟩)):=by
 obtain ⟨j,hj,hjs⟩:=Option.map_eq_some_iff.1 (show (Go.Proofs.Tryz.prog.info? 239).map (·.size)=some 2 by kernel_rfl)
 have hli:liesAt Go.Proofs.Tryz.prog Go.Proofs.Tryz.prog.depth 239 (2/Go.Proofs.Tryz.prog.cellsOf 239) 0 239 1=true:=by kernel_rfl
 go_enter Go.Proofs.Tryz.func292,Go.Proofs.Tryz.ntmps292
 go_wp2
 rw [Lib.run_to_unsafe w ⟨b,0,none⟩ Go.Proofs.Tryz.underlying237 Go.Proofs.Tryz.underlying259 hj (by rw [hjs]; decide) hsh (Nat.zero_lt_succ 1)]
 simp only [Result.andThen]
 rw [Oper.upon_value]
 go_wp2
 rw [run_callFunc_extern Go.Proofs.Tryz.func300 (by kernel_rfl) (by kernel_rfl) (by kernel_rfl) (e:=Extern.AbiNoEscape.same) (by kernel_rfl)]
 rw [Lib.run_noEscape]
 simp only [Result.andThen]
 rw [Oper.upon_value]
 go_wp2
 rw [Lib.run_from_unsafe w ⟨b,0,none⟩ Go.Proofs.Tryz.underlying259 Go.Proofs.Tryz.underlying237 hj hsh hli]
 simp only [Result.andThen]
 rw [Oper.upon_value]
 go_wp2
 go_end0
 exact ⟨rfl,rfl⟩
theorem zgi:Entry Go.Proofs.Tryz.prog 292 zel true:=
 zqp ⟨_,Go.Proofs.Tryz.func292,rfl,by decide⟩ (fun a K D w hs hk=>by
  obtain ⟨p,u⟩:=a
  obtain ⟨b,bl,hp,hb,he,hf,hl,hc⟩:=hk
  simp only at hp
  subst hp
  have hw:=hs _ _ hb
  have hlt:=zcy hw
  rw [he,hf] at hw
  rcases hc with ⟨h0,hK⟩ | ⟨h0,hK⟩
  · have c0:w.cell? ⟨b,0,none⟩=some (.pointer none):=by unfold World.cell?; simp only [hw]; simp [h0]
    refine (zks b w c0 (by simp [World.shape?,hw,hl]) (by unfold World.frozen?; simp only [hw]; simp)).mono ?_
    rintro e w' ⟨rfl,rfl⟩
    refine ⟨_,_,rfl,(zeg.cmp _ _).2 hK,?_,?_,?_⟩
    · intro k c hk
      rw [zon hw]
      by_cases hkb:k=b
      · subst hkb
        rw [Hp.ins_same] at hk; cases hk
        rw [zhd hlt]
        simp [he,hf]
      · rw [Hp.ins_ne hkb] at hk; rw [zib hkb]; exact hs k c hk
    · rw [zon hw]
      refine ⟨by rw [zix]; exact Nat.le_refl _,fun k hk1 hk2=>?_,rfl,rfl,rfl,Nat.le_refl _⟩
      exact zib fun hh=>by rw [hh,hb] at hk2; cases hk2
    · intro k hk1 hk2
      have hkb:k≠b:=fun hh=>by rw [hh,hb] at hk2; cases hk2
      rw [Hp.ins_ne hkb] at hk1; exact absurd hk2 hk1
  · have c0:w.cell? ⟨b,0,none⟩=some (.pointer (some ⟨b,0,none⟩)):=by unfold World.cell?; simp only [hw]; simp [h0]
    refine (zkt b w c0).mono ?_
    rintro e w' ⟨rfl,rfl⟩
    exact ⟨_,D,rfl,(zeg.cmp _ _).2 hK,hs,Fr.refl _ _,fun k h1 h2=>absurd h2 h1⟩)
noncomputable def e_x80:FSem:=mkM (ArgT.cons (Ty.leaf .ptr) (ArgT.cons (Ty.leaf .str) ArgT.nil)) (Ty.tup (.cons (Ty.leaf (.int .i64)) (.cons (Ty.leaf .val) .nil)) (fun x=>(x.1,x.2,())) (fun y=>(y.1,y.2.1)) (fun _=>rfl) (fun _=>rfl)) fun a=>F.zb1 a.1 a.2.1
theorem t_x80:Entry prog 278 e_x80 true:=eoM { P:=prog,n:=19,tab:=[(292,zel)],mutL:=[292],tyL:=[5] } (.seq .leaf (.seq .leaf (.seq .leaf (.seq .leaf .leaf)))) func278 ⟨zgi,trivial⟩
noncomputable def e_x81:FSem:=mkE (ArgT.cons (Ty.leaf (.int .u64)) (ArgT.cons (Ty.leaf (.int .u64)) ArgT.nil)) (Ty.tup (.cons (Ty.leaf (.int .u64)) (.cons (Ty.leaf (.int .u64)) .nil)) (fun x=>(x.1,x.2,())) (fun y=>(y.1,y.2.1)) (fun _=>rfl) (fun _=>rfl)) fun a=>F.zk4 a.1 a.2.1
theorem t_x81:Entry prog 295 e_x81 false:=eo { P:=prog,n:=51,tab:=[] } (.seq .leaf (.seq .leaf (.seq .leaf (.seq .leaf (.seq .leaf (.seq .leaf (.seq .leaf (.seq .leaf (.seq .leaf (.seq .leaf (.seq .leaf (.seq .leaf .leaf)))))))))))) func295 trivial
noncomputable def e_x82:FSem:=mkE (ArgT.cons (Ty.leaf (.int .u64)) (ArgT.cons (Ty.leaf (.int .u64)) ArgT.nil)) (Ty.tup (.cons (Ty.leaf (.int .u64)) (.cons (Ty.leaf (.int .u64)) .nil)) (fun x=>(x.1,x.2,())) (fun y=>(y.1,y.2.1)) (fun _=>rfl) (fun _=>rfl)) fun a=>F.zj6 a.1 a.2.1
theorem t_x82:Entry prog 280 e_x82 false:=eo { P:=prog,n:=30,tab:=[(295,e_x81)] } (.seq .leaf (.seq (.cond (.seq .leaf (.seq .leaf .leaf)) .leaf) (.seq .leaf (.seq .leaf .leaf)))) func280 ⟨t_x81,trivial⟩
noncomputable def e_x83:FSem:=mkE (ArgT.cons (Ty.leaf .str) (ArgT.cons (Ty.leaf .str) ArgT.nil)) (Ty.leaf .bool) fun a=>F.zdk a.1 a.2.1
theorem t_x83:Entry prog 296 e_x83 false:=eo { P:=prog,n:=18,tab:=[] } (.seq .leaf (.seq .leaf .leaf)) func296 trivial
noncomputable def e_x84:FSem:=mkE (ArgT.cons (Ty.leaf .str) (ArgT.cons (Ty.leaf .str) ArgT.nil)) (Ty.leaf .bool) fun a=>F.za8 a.1 a.2.1
theorem t_x84:Entry prog 281 e_x84 false:=eo { P:=prog,n:=8,tab:=[(296,e_x83)] } (.seq .leaf (.seq .leaf .leaf)) func281 ⟨t_x83,trivial⟩
noncomputable def e_x85:FSem:=mkE (ArgT.cons (Ty.leaf .str) (ArgT.cons (Ty.leaf (.int .i64)) ArgT.nil)) (Ty.leaf .str) fun a=>F.zf7 a.1 a.2.1
theorem t_x85:Entry prog 263 e_x85 false:=eo { P:=prog,n:=125,tab:=[(280,e_x82),(281,e_x84)],tyL:=[239] } (.seq .leaf (.seq (.seq .leaf (.block (.seq .leaf (.cond (.seq .leaf .leaf) (.seq .leaf (.cond (.seq .leaf .leaf) .leaf)))))) (.join [] (.seq .leaf (.cond .leaf .leaf)) (.seq .leaf (.join [] (.seq .leaf (.cond .leaf .leaf)) (.seq .leaf (.seq (.seq .leaf (.cond (.seq .leaf .leaf) .leaf)) (.join [] (.seq .leaf (.block (.join [(43,.leaf (.bool))] (.seq .leaf (.cond .leaf (.seq .leaf (.cond .leaf (.seq .leaf (.cond .leaf (.seq .leaf (.cond .leaf .leaf)))))))) (.cond (.block (.seq .leaf (.cond (.seq .leaf .leaf) (.seq .leaf (.cond (.seq .leaf .leaf) (.seq .leaf (.cond (.seq .leaf .leaf) (.seq .leaf (.cond (.seq .leaf .leaf) (.seq .leaf (.cond (.seq .leaf .leaf) .leaf))))))))))) .leaf)))) (.seq .leaf (.join [(8,.leaf (.int .i64))] (.seq .leaf (.cond (.seq .leaf (.seq .leaf (.cond .leaf .leaf))) .leaf)) (.seq .leaf (.seq .leaf (.seq .leaf (.seq (.block (.loop [] (.seq (.seq .leaf (.cond .leaf .leaf)) (.block (.seq .leaf .leaf))))) (.seq .leaf .leaf))))))))))))))) func263 ⟨t_x82,t_x84,trivial⟩
noncomputable def zn2:ArgT ((Option Addr)×Unit):=(ArgT.cons (Ty.leaf .ptr) ArgT.nil)
noncomputable def zf8:Ty ByteArray:=(Ty.leaf .str)
noncomputable def zhv:FSem:=mkM zn2 zf8 (fun a=>F.zef a.1)
set_option maxHeartbeats 2000000 in
set_option maxRecDepth 100000 in
theorem zmj (b:Nat) (p:Value) (w:World) (hbk:w.heap[b]?=some (.cells #[p,.slice none 0 0] 239 (0,0))) :
 Calls Go.Proofs.Tryz.prog 279 #[.pointer (some ⟨b,0,none⟩)] w fun e w'=>e=.returned (.string ⟨#[]⟩)∧w'=w.drew:=by
 have hUS:∀(W:World) (q:Option Addr),(Builtin.unsafeString_ #[252,3] 9 #[.pointer q,.int .i64 0]).run Go.Proofs.Tryz.prog W=.ok (.string .empty) W:=fun W q=>Lib.run_unsafeString_none W _ _ _ q
 have c1:w.drew.cell? ⟨b,1,none⟩=some (.slice none 0 0):=by
  have:w.drew.heap[b]?=some (.cells #[p,.slice none 0 0] 239 (0,0)):=hbk
  rw [Lib.cell_of_heap this]; rfl
 have hSD:(Builtin.unsafeSliceData_ #[44] 252 #[.slice none 0 0]).run Go.Proofs.Tryz.prog w.drew=.ok (.pointer none) w.drew:=rfl
 go_enter Go.Proofs.Tryz.func279,Go.Proofs.Tryz.ntmps279
 go_wp2
 go_region
 all_goals (go_wp2; go_ret; exact ⟨rfl,rfl⟩)
set_option maxHeartbeats 2000000 in
set_option maxRecDepth 100000 in
theorem zmk (b g cap cells:Nat) (p:Value) (l:List UInt8) (w:World) (h0:l≠[]) (hbk:w.heap[b]?=some (.cells #[p,.slice (some ⟨g,0,none⟩) l.length cap] 239 (0,0))) (hc:l.length≤cap) (hsh:w.shape? g=some (5,cells)) (hn:l.length≤cells) (h63:l.length≤140737488355328)
 (hcell:∀j x,l[j]?=some x→w.cell? ((⟨g,0,none⟩:Addr).add j)=some (.int .u8 x.toNat)) :
 Calls Go.Proofs.Tryz.prog 279 #[.pointer (some ⟨b,0,none⟩)] w fun e w'=>e=.returned (.string ⟨l.toArray⟩)∧w'=w.drew.freeze ⟨g,0,none⟩ l.length:=by
 have hl0:l.length≠0:=by simpa using h0
 have c1:w.drew.cell? ⟨b,1,none⟩=some (.slice (some ⟨g,0,none⟩) l.length cap):=by
  have:w.drew.heap[b]?=some (.cells #[p,.slice (some ⟨g,0,none⟩) l.length cap] 239 (0,0)):=hbk
  rw [Lib.cell_of_heap this]; rfl
 have hSD:(Builtin.unsafeSliceData_ #[44] 252 #[.slice (some ⟨g,0,none⟩) l.length cap]).run Go.Proofs.Tryz.prog w.drew=.ok (.pointer (some ⟨g,0,none⟩)) w.drew:=
  Lib.run_unsafeSliceData_row _ _ _ _ _ _ (by omega)
 have hUS:(Builtin.unsafeString_ #[252,3] 9 #[.pointer (some ⟨g,0,none⟩),.int .i64 l.length]).run Go.Proofs.Tryz.prog w.drew=.ok (.string ⟨l.toArray⟩) (w.drew.freeze ⟨g,0,none⟩ l.length):=
  Lib.run_unsafeString_row w.drew 252 3 9 5 Go.Proofs.Tryz.underlying252 (by kernel_rfl) g cells hsh l h0 hn (by omega) hcell
 go_enter Go.Proofs.Tryz.func279,Go.Proofs.Tryz.ntmps279
 go_wp2
 go_region
 all_goals (go_wp2; go_ret; exact ⟨rfl,rfl⟩)
theorem znr:Entry Go.Proofs.Tryz.prog 279 zhv true:=
 zqp ⟨_,Go.Proofs.Tryz.func279,rfl,by decide⟩ (fun a K D w hs hk=>by
  obtain ⟨q,u⟩:=a
  obtain ⟨b,bl,p,hp,hb,he,hf,hc⟩:=hk
  simp only at hp
  subst hp
  have hw:=hs _ _ hb
  rw [he,hf] at hw
  rcases hc with ⟨hcs,hK⟩ | ⟨g,c,l,bg,h0,hcs,hlc,hg,hge,hlg,h63,hall,hK⟩
  · rw [hcs] at hw
    refine (zmj b p w hw).mono ?_
    rintro e w' ⟨rfl,rfl⟩
    exact ⟨_,D,rfl,(zf8.cmp _ _).2 hK,hs,zou D w,fun k h1 h2=>absurd h2 h1⟩
  · rw [hcs] at hw
    have hwg:=hs _ _ hg
    rw [hge] at hwg
    have hltg:=zcy hwg
    refine (zmk b g c bg.cells.length p l w h0 hw hlc (by simp [World.shape?,hwg]) hlg h63 (fun j x hj=>?_)).mono ?_
    · rw [zft,Nat.zero_add]
      unfold World.cell?
      simp only [hwg]
      simp [hall j x hj]
    · rintro e w' ⟨rfl,rfl⟩
      have hsz:(w.drew.freeze ⟨g,0,none⟩ l.length).heap.size=w.heap.size:=by
       unfold World.freeze
       split
       · rfl
       · simp only [Array.size_modify]
         rfl
      have hne:∀k,k≠g→(w.drew.freeze ⟨g,0,none⟩ l.length).heap[k]?=w.heap[k]?:=fun k hk=>by
       unfold World.freeze
       split
       · rfl
       · simp only [Array.getElem?_modify]
         rw [if_neg (fun hh=>hk hh.symm)]
         rfl
      refine ⟨_,_,rfl,(zf8.cmp _ _).2 hK,?_,?_,?_⟩
      · intro k cb hk
        by_cases hkg:k=g
        · simp [hkg] at hk
        · simp only [if_neg hkg] at hk
          rw [hne k hkg]; exact hs k cb hk
      · refine ⟨Nat.le_of_eq hsz.symm,fun k hk1 hk2=>?_,?_,?_,?_,?_⟩
        · exact hne k fun hh=>by rw [hh,hg] at hk2; cases hk2
        · unfold World.freeze; split<;>rfl
        · unfold World.freeze; split<;>rfl
        · unfold World.freeze; split<;>rfl
        · unfold World.freeze; split<;>exact Nat.le_succ _
      · intro k hk1 hk2
        by_cases hkg:k=g
        · simp [hkg] at hk1
        · simp only [if_neg hkg] at hk1; exact absurd hk2 hk1)
noncomputable def e_x86:FSem:=mkM (ArgT.cons (Ty.leaf .ptr) (ArgT.cons (Ty.leaf (.int .u8)) ArgT.nil)) (Ty.leaf .val) fun a=>F.zho a.1 a.2.1
theorem t_x86:Entry prog 276 e_x86 true:=eoM { P:=prog,n:=17,tab:=[(292,zel)],mutL:=[292],locL:=[13],tyL:=[5] } (.seq .leaf (.seq .leaf (.seq .leaf (.seq .leaf .leaf)))) func276 ⟨zgi,trivial⟩
noncomputable def e_x87:FSem:=mkE (ArgT.cons tyTInt ArgT.nil) (Ty.leaf .str) fun a=>F.zik a.1
theorem t_x87:Entry prog 262 e_x87 false:=eo { P:=prog,n:=74,tab:=[(212,e_x5),(215,e_x7),(246,e_x9),(277,e_x79),(278,e_x80),(263,e_x85),(279,zhv),(276,e_x86)],mutL:=[278,279,276],rtL:=[(11,1),(51,1)],locL:=[1,4,49],backs:=[(257,(.leaf (.int .u32)))],tyL:=[239] } (.seq .leaf (.seq .leaf (.seq (.seq .leaf (.cond (.seq .leaf .leaf) .leaf)) (.seq .leaf (.seq (.block (.loop [(3,.leaf (.sl)),(4,.box [.sl])] (.seq (.seq .leaf (.cond .leaf .leaf)) (.block (.seq .leaf (.seq (.seq .leaf (.block (.loop [(5,.leaf (.int .u64)),(6,.leaf (.int .i64))] (.seq (.seq .leaf (.cond .leaf .leaf)) (.seq (.block (.seq .leaf (.seq .leaf .leaf))) .leaf))))) (.seq .leaf .leaf))))))) (.seq .leaf (.join [] (.seq .leaf (.cond .leaf .leaf)) (.seq (.seq .leaf (.block (.back [] (.seq .leaf .leaf) (.block (.seq .leaf (.join [] (.seq .leaf (.cond .leaf .leaf)) .leaf)))))) (.seq .leaf .leaf))))))))) func262 ⟨t_x5,t_x7,t_x9,t_x79,t_x80,t_x85,znr,t_x86,trivial⟩ ⟨za4w,trivial⟩
noncomputable def e_x88:FSem:=mkE (ArgT.cons tyTRat ArgT.nil) (Ty.tup (.cons (Ty.leaf .str) (.cons (Ty.leaf .bool) .nil)) (fun x=>(x.1,x.2,())) (fun y=>(y.1,y.2.1)) (fun _=>rfl) (fun _=>rfl)) fun a=>F.zhf a.1
theorem t_x88:Entry prog 247 e_x88 false:=eo { P:=prog,n:=65,tab:=[(258,e_x61),(259,e_x59),(260,e_x62),(261,e_x71),(262,e_x87),(263,e_x85),(116,e_x27),(120,e_x34)],rtL:=[(23,1),(31,1)],locL:=[1,4,5] } (.seq .leaf (.join [] (.seq .leaf (.cond (.seq .leaf .leaf) .leaf)) (.seq .leaf (.seq .leaf (.seq (.seq .leaf (.block (.loop [(1,.box [.bool,.sl,.bool,.sl]),(6,.leaf (.int .i64))] (.seq (.seq .leaf (.cond .leaf .leaf)) (.seq (.block (.seq (.seq .leaf (.cond (.seq .leaf .leaf) .leaf)) (.seq .leaf (.join [(7,.leaf (.str))] (.seq .leaf (.cond (.join [(7,.leaf (.str))] (.seq .leaf (.seq .leaf (.cond .leaf .leaf))) (.draw [0,1,2,3,4,5,6,7,8,9,10,11,12,13,14])) .leaf)) (.seq .leaf .leaf))))) .leaf))))) (.seq .leaf .leaf)))))) func247 ⟨t_x61,t_x59,t_x62,t_x71,t_x87,t_x85,t_x27,t_x34,trivial⟩
noncomputable def e_x89:FSem:=mkE (ArgT.cons (Ty.leaf (.int .u8)) ArgT.nil) (Ty.leaf .bool) fun a=>F.zg8 a.1
theorem t_x89:Entry prog 264 e_x89 false:=eo { P:=prog,n:=17,tab:=[] } (.seq .leaf (.seq .leaf .leaf)) func264 trivial
noncomputable def e_x90:FSem:=mkE (ArgT.cons (Ty.leaf (.int .u8)) ArgT.nil) (Ty.leaf .bool) fun a=>F.zh2 a.1
theorem t_x90:Entry prog 284 e_x90 false:=eo { P:=prog,n:=9,tab:=[] } (.seq .leaf (.seq .leaf .leaf)) func284 trivial
noncomputable def e_x91:FSem:=mkE (ArgT.cons (Ty.leaf (.int .u8)) ArgT.nil) (Ty.leaf .bool) fun a=>F.zk1 a.1
theorem t_x91:Entry prog 266 e_x91 false:=eo { P:=prog,n:=13,tab:=[(264,e_x89),(284,e_x90)] } (.seq .leaf (.seq .leaf .leaf)) func266 ⟨t_x89,t_x90,trivial⟩
noncomputable def e_x92:FSem:=mkE (ArgT.cons (Ty.leaf .str) (ArgT.fn 266 ArgT.nil)) (Ty.leaf (.int .i64)) fun a=>F.zdy a.1
theorem t_x92:Entry prog 265 e_x92 false:=eo { P:=prog,n:=20,tab:=[(266,e_x91)] } (.seq .leaf (.seq .leaf (.seq (.block (.loop [(5,.leaf (.int .i64))] (.join [] (.seq .leaf (.cond .leaf .leaf)) (.block .leaf)))) (.seq .leaf .leaf)))) func265 ⟨t_x91,trivial⟩
noncomputable def e_x93:FSem:=mkE (ArgT.cons (Ty.leaf .str) ArgT.nil) (Ty.leaf .bool) fun a=>F.zg7 a.1
theorem t_x93:Entry prog 248 e_x93 false:=eo { P:=prog,n:=22,tab:=[(264,e_x89),(265,e_x92)] } (.seq .leaf (.seq .leaf .leaf)) func248 ⟨t_x89,t_x92,trivial⟩
noncomputable def e_x94:FSem:=mkE (ArgT.cons tyTRat ArgT.nil) (Ty.leaf .bool) fun a=>F.zhw a.1
theorem t_x94:Entry prog 249 e_x94 false:=eo { P:=prog,n:=27,tab:=[],rtL:=[(3,1),(4,1),(9,1),(10,1),(16,1),(17,1),(22,1),(23,1)],locL:=[1] } (.seq .leaf (.seq .leaf .leaf)) func249 trivial
noncomputable def A_x98:ArgT (TExpr×Unit):=(ArgT.cons tyTExpr ArgT.nil)
noncomputable def R_x98:Ty Bool:=(Ty.leaf .bool)
noncomputable def A_x95:ArgT (TExpr×Unit):=(ArgT.cons tyTExpr ArgT.nil)
noncomputable def R_x95:Ty Bool:=(Ty.leaf .bool)
noncomputable def e_x95 (Q_formula_formed:TExpr→(Bool→Hp→Prop)→Hp→Prop):FSem:=mkE A_x95 R_x95 fun a=>F.zgp Q_formula_formed a.1
theorem t_x95 (Q_formula_formed:TExpr→(Bool→Hp→Prop)→Hp→Prop) (h_formula_formed:Entry prog 224 (mkE A_x98 R_x98 (fun a=>Q_formula_formed a.1)) false):Entry prog 250 (e_x95 Q_formula_formed) false:=eo { P:=prog,n:=6,tab:=[(224,mkE A_x98 R_x98 (fun a=>Q_formula_formed a.1))],locL:=[1] } (.seq .leaf (.seq .leaf .leaf)) func250 ⟨h_formula_formed,trivial⟩
noncomputable def A_x96:ArgT (Sl×Unit):=(ArgT.cons (Ty.leaf .sl) (ArgT.fn 250 ArgT.nil))
noncomputable def R_x96:Ty Int:=(Ty.leaf (.int .i64))
noncomputable def e_x96 (Q_formula_formed:TExpr→(Bool→Hp→Prop)→Hp→Prop):FSem:=mkE A_x96 R_x96 fun a=>F.zbu Q_formula_formed a.1
theorem t_x96 (Q_formula_formed:TExpr→(Bool→Hp→Prop)→Hp→Prop) (h_formula_formed:Entry prog 224 (mkE A_x98 R_x98 (fun a=>Q_formula_formed a.1)) false):Entry prog 223 (e_x96 Q_formula_formed) false:=eo { P:=prog,n:=19,tab:=[(250,(e_x95 Q_formula_formed))] } (.seq .leaf (.seq (.seq .leaf (.block (.loop [(8,.leaf (.int .i64))] (.seq .leaf (.seq (.cond .leaf .leaf) (.seq (.block (.seq .leaf (.seq .leaf (.cond (.seq .leaf .leaf) .leaf)))) .leaf)))))) (.seq .leaf .leaf))) func223 ⟨(t_x95 Q_formula_formed h_formula_formed),trivial⟩
noncomputable def A_x97:ArgT (Sl×Unit):=(ArgT.cons (Ty.leaf .sl) (ArgT.fn 250 ArgT.nil))
noncomputable def R_x97:Ty Bool:=(Ty.leaf .bool)
noncomputable def e_x97 (Q_formula_formed:TExpr→(Bool→Hp→Prop)→Hp→Prop):FSem:=mkE A_x97 R_x97 fun a=>F.zbl Q_formula_formed a.1
theorem t_x97 (Q_formula_formed:TExpr→(Bool→Hp→Prop)→Hp→Prop) (h_formula_formed:Entry prog 224 (mkE A_x98 R_x98 (fun a=>Q_formula_formed a.1)) false):Entry prog 187 (e_x97 Q_formula_formed) false:=eo { P:=prog,n:=9,tab:=[(223,(e_x96 Q_formula_formed))] } (.seq .leaf (.seq .leaf .leaf)) func187 ⟨(t_x96 Q_formula_formed h_formula_formed),trivial⟩
noncomputable def e_x98:FSem:=mkE A_x98 R_x98 fun a=>F.zii a.1
noncomputable def c_x98 (n:Nat):Cfg:={ P:=prog,n:=68,tab:=[(247,e_x88),(248,e_x93),(249,e_x94),(187,(e_x97 (F.zcr n)))],rtL:=[(5,1),(9,1),(14,1),(17,1),(23,1),(28,1),(35,1),(39,1),(46,1),(50,1),(54,1),(58,1),(63,1)],locL:=[1] }
theorem u_x98:∃fn,prog.funcs[224]?=some fn∧fn.body.isNone=false∧(fn.name == "runtime.NumGoroutine")=false:=⟨_,func224,rfl,by decide⟩
theorem v_x98:∀n a K D w,Sub D w→F.zcr n a.1 K D→Calls prog 224 (A_x98.up a).toArray w (Post (fun v h=>R_x98.dn v fun r=>K r h) D w)
 | 0,_,_,_,_,_,h=>h.elim
 | n+1,a,K,D,w,hs,h=>zjh (C:=c_x98 n) (F:=fun a=>F.zcr (n+1) a.1) (fn:=f224) (c:=bd f224) (an:=(.seq .leaf (.join [] (.seq (.draw [0,1,2,3,4,5,6,7,8,9,10,11,12,13,14,15,16,17]) (.cond (.seq .leaf .leaf) .leaf)) (.seq (.seq .leaf (.block (.seq .leaf (.cond (.seq .leaf (.seq .leaf .leaf)) (.seq .leaf (.cond (.seq .leaf .leaf) .leaf)))))) (.seq .leaf .leaf))))) ⟨t_x88,t_x93,t_x94,(t_x97 (F.zcr n) (zdf u_x98 (v_x98 n))),trivial⟩ trivial func224 rfl rfl (fun _=>rfl) (by intro a K D; kernel_rfl) a K D w hs h
theorem t_x98:Entry prog 224 e_x98 false:=zdf u_x98 (fun a K D w hs h=>h.elim fun m h=>v_x98 m a K D w hs h)
noncomputable def A_x99:ArgT (TExpr×Unit):=(ArgT.cons tyTExpr ArgT.nil)
noncomputable def R_x99:Ty Int:=(Ty.leaf (.int .i64))
noncomputable def e_x99:FSem:=mkE A_x99 R_x99 fun a=>F.zj2 a.1
noncomputable def c_x99 (n:Nat):Cfg:={ P:=prog,n:=20,tab:=[(225,mkE A_x99 R_x99 (fun a=>F.ze3 n a.1))],rtL:=[(6,1)],locL:=[1,5] }
theorem u_x99:∃fn,prog.funcs[225]?=some fn∧fn.body.isNone=false∧(fn.name == "runtime.NumGoroutine")=false:=⟨_,func225,rfl,by decide⟩
theorem v_x99:∀n a K D w,Sub D w→F.ze3 n a.1 K D→Calls prog 225 (A_x99.up a).toArray w (Post (fun v h=>R_x99.dn v fun r=>K r h) D w)
 | 0,_,_,_,_,_,h=>h.elim
 | n+1,a,K,D,w,hs,h=>zjh (C:=c_x99 n) (F:=fun a=>F.ze3 (n+1) a.1) (fn:=f225) (c:=bd f225) (an:=(.seq .leaf (.seq .leaf (.seq (.seq .leaf (.block (.loop [(3,.leaf (.int .i64)),(9,.leaf (.int .i64))] (.seq .leaf (.seq (.cond .leaf .leaf) (.seq (.block (.seq .leaf .leaf)) .leaf)))))) (.seq .leaf .leaf))))) ⟨(zdf u_x99 (v_x99 n)),trivial⟩ trivial func225 rfl rfl (fun _=>rfl) (by intro a K D; kernel_rfl) a K D w hs h
theorem t_x99:Entry prog 225 e_x99 false:=zdf u_x99 (fun a K D w hs h=>h.elim fun m h=>v_x99 m a K D w hs h)
noncomputable def za5b:FSem:=mkE (ArgT.cons tyTExpr ArgT.nil) (Ty.leaf (.int .i64)) fun a=>F.zj3 a.1
theorem zafp:Entry prog 189 za5b false:=eo { P:=prog,n:=11,tab:=[(224,e_x98),(225,e_x99)],locL:=[1] } (.seq .leaf (.seq (.block (.seq .leaf (.cond (.seq .leaf .leaf) (.seq .leaf (.cond (.seq .leaf .leaf) .leaf))))) (.seq .leaf .leaf))) func189 ⟨t_x98,t_x99,trivial⟩
noncomputable def za5c:FSem:=mkE (ArgT.cons tyTExpr ArgT.nil) (Ty.leaf .bool) fun a=>F.zfj a.1
theorem zafq:Entry prog 188 za5c false:=eo { P:=prog,n:=6,tab:=[(189,za5b)],locL:=[1] } (.seq .leaf (.seq .leaf .leaf)) func188 ⟨zafp,trivial⟩
noncomputable def za5d:FSem:=mkE (ArgT.cons (Ty.leaf .sl) (ArgT.fn 188 ArgT.nil)) (Ty.leaf (.int .i64)) fun a=>F.zbq a.1
theorem zafr:Entry prog 223 za5d false:=eo { P:=prog,n:=19,tab:=[(188,za5c)] } (.seq .leaf (.seq (.seq .leaf (.block (.loop [(8,.leaf (.int .i64))] (.seq .leaf (.seq (.cond .leaf .leaf) (.seq (.block (.seq .leaf (.seq .leaf (.cond (.seq .leaf .leaf) .leaf)))) .leaf)))))) (.seq .leaf .leaf))) func223 ⟨zafq,trivial⟩
noncomputable def za5e:FSem:=mkE (ArgT.cons (Ty.leaf .sl) (ArgT.fn 188 ArgT.nil)) (Ty.leaf .bool) fun a=>F.zaz a.1
theorem zafs:Entry prog 187 za5e false:=eo { P:=prog,n:=9,tab:=[(223,za5d)] } (.seq .leaf (.seq .leaf .leaf)) func187 ⟨zafr,trivial⟩
noncomputable def za5f:FSem:=mkE (ArgT.cons (Ty.leaf .sl) ArgT.nil) (Ty.leaf .bool) fun a=>F.zgn a.1
theorem zaft:Entry prog 190 za5f false:=eo { P:=prog,n:=49,tab:=[] } (.seq .leaf (.seq (.draw [0,1,2,3,4,5,6,7,8,9,10,11,12,13,14,15]) (.seq .leaf .leaf))) func190 trivial
noncomputable def zxq:FSem:=mkE (ArgT.cons (Ty.leaf .sl) (ArgT.cons (Ty.leaf (.int .i64)) ArgT.nil)) (Ty.leaf (.int .i64)) fun a=>F.zdt a.1 a.2.1
theorem za9t:Entry prog 162 zxq false:=eo { P:=prog,n:=19,tab:=[] } (.seq .leaf (.seq (.seq .leaf (.block (.loop [(8,.leaf (.int .i64))] (.seq .leaf (.seq (.cond .leaf .leaf) (.seq (.block (.seq .leaf (.seq .leaf (.cond (.seq .leaf .leaf) .leaf)))) .leaf)))))) (.seq .leaf .leaf))) func162 trivial
noncomputable def zit:FSem:=mkE (ArgT.cons (Ty.leaf .sl) (ArgT.cons (Ty.leaf (.int .i64)) ArgT.nil)) (Ty.leaf .bool) fun a=>F.zat a.1 a.2.1
theorem zki:Entry prog 98 zit false:=eo { P:=prog,n:=9,tab:=[(162,zxq)] } (.seq .leaf (.seq .leaf .leaf)) func98 ⟨za9t,trivial⟩
noncomputable def za5g:FSem:=mkE (ArgT.cons (Ty.leaf .sl) ArgT.nil) (Ty.leaf .bool) fun a=>F.zdj a.1
theorem zafu:Entry prog 191 za5g false:=eo { P:=prog,n:=18,tab:=[(98,zit)] } (.seq .leaf (.seq (.seq .leaf (.block (.loop [(7,.leaf (.int .i64))] (.seq .leaf (.seq (.cond .leaf .leaf) (.seq (.block (.seq .leaf (.seq .leaf (.cond (.seq .leaf .leaf) .leaf)))) .leaf)))))) (.seq .leaf .leaf))) func191 ⟨zki,trivial⟩
noncomputable def za5h:FSem:=mkE (ArgT.cons (Ty.leaf (.int .i64)) (ArgT.cons (Ty.leaf .ptr) ArgT.nil)) (Ty.leaf .bool) fun a=>F.zhe a.1 a.2.1
theorem zafv:Entry prog 222 za5h false:=eo { P:=prog,n:=11,tab:=[] } (.seq .leaf (.seq .leaf .leaf)) func222 trivial
noncomputable def za5i:FSem:=mkE (ArgT.cons (Ty.leaf .sl) (ArgT.fnc 222 1 ArgT.nil)) (Ty.leaf (.int .i64)) fun a=>F.zcd a.1 a.2.1
theorem zafw:Entry prog 135 za5i false:=eo { P:=prog,n:=19,tab:=[(222,za5h)] } (.seq .leaf (.seq (.seq .leaf (.block (.loop [(8,.leaf (.int .i64))] (.seq .leaf (.seq (.cond .leaf .leaf) (.seq (.block (.seq .leaf (.seq .leaf (.cond (.seq .leaf .leaf) .leaf)))) .leaf)))))) (.seq .leaf .leaf))) func135 ⟨zafv,trivial⟩
noncomputable def za5j:FSem:=mkE (ArgT.cons (Ty.leaf .sl) (ArgT.fnc 222 1 ArgT.nil)) (Ty.leaf .bool) fun a=>F.zc3 a.1 a.2.1
theorem zafx:Entry prog 102 za5j false:=eo { P:=prog,n:=9,tab:=[(135,za5i)] } (.seq .leaf (.seq .leaf .leaf)) func102 ⟨zafw,trivial⟩
noncomputable def za5k:FSem:=mkE (ArgT.cons (Ty.leaf .sl) (ArgT.cons (Ty.leaf (.int .i64)) (ArgT.cons (Ty.leaf (.int .i64)) ArgT.nil))) (Ty.leaf .bool) fun a=>F.zf0 a.1 a.2.1 a.2.2.1
theorem zafy:Entry prog 186 za5k false:=eo { P:=prog,n:=17,tab:=[(102,za5j)] } (.seq .leaf (.seq .leaf .leaf)) func186 ⟨zafx,trivial⟩
noncomputable def za5l:FSem:=mkE (ArgT.cons tyTConstraint (ArgT.cons (Ty.leaf (.int .i64)) (ArgT.cons (Ty.leaf (.int .i64)) ArgT.nil))) (Ty.leaf .bool) fun a=>F.zgm a.1 a.2.1 a.2.2.1
theorem zafz:Entry prog 131 za5l false:=eo { P:=prog,n:=86,tab:=[(109,e_x58),(187,za5e),(190,za5f),(191,za5g),(186,za5k)],rtL:=[(10,3),(18,3),(20,7),(27,3),(29,7),(36,3),(39,7),(43,3),(46,7),(49,3),(54,3),(59,7),(63,3),(68,3),(75,3),(78,3),(82,3)],locL:=[3,7] } (.seq .leaf (.seq .leaf (.join [] (.seq .leaf (.cond (.seq .leaf .leaf) .leaf)) (.seq (.seq .leaf (.cond (.seq .leaf .leaf) .leaf)) (.join [] (.seq .leaf (.cond (.seq .leaf .leaf) .leaf)) (.seq (.seq .leaf (.block (.join [(70,.leaf (.bool))] (.seq .leaf (.cond .leaf (.seq .leaf (.cond .leaf (.seq .leaf (.cond .leaf .leaf)))))) (.cond (.seq .leaf .leaf) .leaf)))) (.seq .leaf .leaf))))))) func131 ⟨t_x58,zafs,zaft,zafu,zafy,trivial⟩
noncomputable def za5m:FSem:=mkE (ArgT.cons tyTConstraint (ArgT.cons (Ty.leaf .ptr) (ArgT.cons (Ty.leaf .ptr) ArgT.nil))) (Ty.leaf .bool) fun a=>F.zl0 a.1 a.2.1 a.2.2.1
theorem zag0:Entry prog 130 za5m false:=eo { P:=prog,n:=9,tab:=[(131,za5l)],locL:=[3] } (.seq .leaf (.seq .leaf .leaf)) func130 ⟨zafz,trivial⟩
noncomputable def za5n:FSem:=mkE (ArgT.cons tyTConstraint (ArgT.cons (Ty.leaf .ptr) ArgT.nil)) (Ty.leaf .bool) fun a=>F.zci a.1 a.2.1
theorem zag1:Entry prog 185 za5n false:=eo { P:=prog,n:=8,tab:=[(130,za5m)],locL:=[2],fnL:=[(4,130,2)] } (.seq .leaf (.seq .leaf .leaf)) func185 ⟨zag0,trivial⟩
noncomputable def za5o:FSem:=mkE (ArgT.cons (Ty.leaf .sl) (ArgT.fnc 185 1 ArgT.nil)) (Ty.leaf (.int .i64)) fun a=>F.zai a.1 a.2.1
theorem zag2:Entry prog 221 za5o false:=eo { P:=prog,n:=19,tab:=[(185,za5n)] } (.seq .leaf (.seq (.seq .leaf (.block (.loop [(8,.leaf (.int .i64))] (.seq .leaf (.seq (.cond .leaf .leaf) (.seq (.block (.seq .leaf (.seq .leaf (.cond (.seq .leaf .leaf) .leaf)))) .leaf)))))) (.seq .leaf .leaf))) func221 ⟨zag1,trivial⟩
noncomputable def za5p:FSem:=mkE (ArgT.cons (Ty.leaf .sl) (ArgT.fnc 185 1 ArgT.nil)) (Ty.leaf .bool) fun a=>F.zah a.1 a.2.1
theorem zag3:Entry prog 184 za5p false:=eo { P:=prog,n:=9,tab:=[(221,za5o)] } (.seq .leaf (.seq .leaf .leaf)) func184 ⟨zag2,trivial⟩
noncomputable def za5q:FSem:=mkE (ArgT.cons (Ty.leaf .sl) (ArgT.fnc 130 2 ArgT.nil)) (Ty.leaf .bool) fun a=>F.zbw a.1 a.2.1
theorem zag4:Entry prog 129 za5q false:=eo { P:=prog,n:=9,tab:=[(184,za5p)] } (.seq .leaf (.seq .leaf .leaf)) func129 ⟨zag3,trivial⟩
end
end Den
end

section
set_option maxRecDepth 100000
namespace Den
open Go Go.Proofs.Tryz
noncomputable section
noncomputable def zov:FSem:=mkE (ArgT.cons tyTSketch ArgT.nil) (Ty.leaf (.int .i64)) fun a=>F.zdq a.1
theorem zr5:Entry prog 56 zov false:=eo { P:=prog,n:=49,tab:=[(113,e_x3),(114,e_x32),(117,e_x39),(121,e_x44),(123,e_x50),(126,e_x57),(129,za5q)],locL:=[3,4] } (.seq .leaf (.seq (.seq .leaf (.cond (.seq .leaf .leaf) .leaf)) (.seq (.drawP [0,1,2,3,4,5,6,7,8,9] [3,4]) (.join [(5,.leaf (.bool))] .leaf (.seq (.seq .leaf (.cond (.seq .leaf .leaf) .leaf)) (.seq .leaf .leaf)))))) func56 ⟨t_x3,t_x32,t_x39,t_x44,t_x50,t_x57,zag4,trivial⟩
noncomputable def za5r:FSem:=mkE (ArgT.cons (Ty.leaf .sl) (ArgT.cons (Ty.leaf .sl) ArgT.nil)) (Ty.leaf .bool) fun a=>F.zds a.1 a.2.1
theorem zag5:Entry prog 95 za5r false:=eo { P:=prog,n:=26,tab:=[] } (.seq .leaf (.seq (.seq .leaf (.cond (.seq .leaf .leaf) .leaf)) (.seq (.seq .leaf (.block (.loop [(13,.leaf (.int .i64))] (.seq .leaf (.seq (.cond .leaf .leaf) (.seq (.block (.seq .leaf (.seq (.draw [0,1,2,3,4,5,6,7,8]) (.cond (.seq .leaf .leaf) .leaf)))) .leaf)))))) (.seq .leaf .leaf)))) func95 trivial
noncomputable def za5s:FSem:=mkE (ArgT.cons (Ty.leaf .sl) (ArgT.cons (Ty.leaf .sl) ArgT.nil)) (Ty.leaf .bool) fun a=>F.zh3 a.1 a.2.1
theorem zag6:Entry prog 267 za5s false:=eo { P:=prog,n:=26,tab:=[] } (.seq .leaf (.seq (.seq .leaf (.cond (.seq .leaf .leaf) .leaf)) (.seq (.seq .leaf (.block (.loop [(13,.leaf (.int .i64))] (.seq .leaf (.seq (.cond .leaf .leaf) (.seq (.block (.seq .leaf (.seq (.draw [0,1,2,3,4,5,6,7,8]) (.cond (.seq .leaf .leaf) .leaf)))) .leaf)))))) (.seq .leaf .leaf)))) func267 trivial
noncomputable def za5t:FSem:=mkE (ArgT.cons tyTInt (ArgT.cons tyTInt ArgT.nil)) (Ty.leaf .bool) fun a=>F.zje a.1 a.2.1
theorem zag7:Entry prog 251 za5t false:=eo { P:=prog,n:=17,tab:=[(267,za5s)],rtL:=[(5,2),(7,3),(11,2),(13,3)],locL:=[2,3] } (.seq .leaf (.seq .leaf .leaf)) func251 ⟨zag6,trivial⟩
noncomputable def zt2:ArgT (Sl×Sl×Unit):=(ArgT.cons (Ty.leaf .sl) (ArgT.cons (Ty.leaf .sl) (ArgT.fn 227 ArgT.nil)))
noncomputable def zt5:Ty Bool:=(Ty.leaf .bool)
noncomputable def zaeb:ArgT (TExpr×TExpr×Unit):=(ArgT.cons tyTExpr (ArgT.cons tyTExpr ArgT.nil))
noncomputable def zaed:Ty Bool:=(Ty.leaf .bool)
noncomputable def za5u (Q_slices_EqualFunc_api_Expr_api_Expr_api_Expr_api_Expr_formula_Equal:Sl→Sl→(Bool→Hp→Prop)→Hp→Prop):FSem:=mkE zaeb zaed fun a=>F.zq2 Q_slices_EqualFunc_api_Expr_api_Expr_api_Expr_api_Expr_formula_Equal a.1 a.2.1
theorem zag8 (Q_slices_EqualFunc_api_Expr_api_Expr_api_Expr_api_Expr_formula_Equal:Sl→Sl→(Bool→Hp→Prop)→Hp→Prop) (h_slices_EqualFunc_api_Expr_api_Expr_api_Expr_api_Expr_formula_Equal:Entry prog 226 (mkE zt2 zt5 (fun a=>Q_slices_EqualFunc_api_Expr_api_Expr_api_Expr_api_Expr_formula_Equal a.1 a.2.1)) false):Entry prog 227 (za5u Q_slices_EqualFunc_api_Expr_api_Expr_api_Expr_api_Expr_formula_Equal) false:=eo { P:=prog,n:=42,tab:=[(251,za5t),(226,mkE zt2 zt5 (fun a=>Q_slices_EqualFunc_api_Expr_api_Expr_api_Expr_api_Expr_formula_Equal a.1 a.2.1))],rtL:=[(5,2),(7,3),(11,2),(13,3),(18,2),(19,2),(21,3),(22,3),(27,2),(28,2),(30,3),(31,3),(36,2),(38,3)],locL:=[2,3] } (.seq .leaf (.seq .leaf .leaf)) func227 ⟨zag7,h_slices_EqualFunc_api_Expr_api_Expr_api_Expr_api_Expr_formula_Equal,trivial⟩
noncomputable def za5v:FSem:=mkE zt2 zt5 fun a=>F.zb2 a.1 a.2.1
noncomputable def zaeh (n:Nat):Cfg:={ P:=prog,n:=32,tab:=[(227,(za5u (F.za9 n)))],locL:=[8,9] }
theorem zaap:∃fn,prog.funcs[226]?=some fn∧fn.body.isNone=false∧(fn.name == "runtime.NumGoroutine")=false:=⟨_,func226,rfl,by decide⟩
theorem zaav:∀n a K D w,Sub D w→F.za9 n a.1 a.2.1 K D→Calls prog 226 (zt2.up a).toArray w (Post (fun v h=>zt5.dn v fun r=>K r h) D w)
 | 0,_,_,_,_,_,h=>h.elim
 | n+1,a,K,D,w,hs,h=>zjh (C:=zaeh n) (F:=fun a=>F.za9 (n+1) a.1 a.2.1) (fn:=f226) (c:=bd f226) (an:=(.seq .leaf (.seq (.seq .leaf (.cond (.seq .leaf .leaf) .leaf)) (.seq (.seq .leaf (.block (.loop [(17,.leaf (.int .i64))] (.seq .leaf (.seq (.cond .leaf .leaf) (.seq (.block (.seq .leaf (.seq .leaf (.seq .leaf (.cond (.seq .leaf .leaf) .leaf))))) .leaf)))))) (.seq .leaf .leaf))))) ⟨(zag8 (F.za9 n) (zdf zaap (zaav n))),trivial⟩ trivial func226 rfl rfl (fun _=>rfl) (by intro a K D; kernel_rfl) a K D w hs h
theorem zag9:Entry prog 226 za5v false:=zdf zaap (fun a K D w hs h=>h.elim fun m h=>zaav m a K D w hs h)
noncomputable def za5w:FSem:=mkE (ArgT.cons tyTConstraint (ArgT.cons tyTConstraint ArgT.nil)) (Ty.leaf .bool) fun a=>F.zgl a.1 a.2.1
theorem zaga:Entry prog 194 za5w false:=eo { P:=prog,n:=38,tab:=[(95,za5r),(226,za5v)],rtL:=[(5,2),(7,3),(11,2),(13,3),(18,2),(20,3),(25,2),(27,3),(32,2),(34,3)],locL:=[2,3] } (.seq .leaf (.seq .leaf .leaf)) func194 ⟨zag5,zag9,trivial⟩
noncomputable def za5x:FSem:=mkE (ArgT.cons tyTConstraint (ArgT.cons (Ty.leaf .ptr) ArgT.nil)) (Ty.leaf .bool) fun a=>F.zgu a.1 a.2.1
theorem zagb:Entry prog 193 za5x false:=eo { P:=prog,n:=7,tab:=[(194,za5w)],locL:=[2] } (.seq .leaf (.seq .leaf .leaf)) func193 ⟨zaga,trivial⟩
noncomputable def za5y:FSem:=mkE (ArgT.cons (Ty.leaf .sl) (ArgT.fnc 193 1 ArgT.nil)) (Ty.leaf (.int .i64)) fun a=>F.zb6 a.1 a.2.1
theorem zagc:Entry prog 221 za5y false:=eo { P:=prog,n:=19,tab:=[(193,za5x)] } (.seq .leaf (.seq (.seq .leaf (.block (.loop [(8,.leaf (.int .i64))] (.seq .leaf (.seq (.cond .leaf .leaf) (.seq (.block (.seq .leaf (.seq .leaf (.cond (.seq .leaf .leaf) .leaf)))) .leaf)))))) (.seq .leaf .leaf))) func221 ⟨zagb,trivial⟩
noncomputable def za5z:FSem:=mkE (ArgT.cons (Ty.leaf .sl) (ArgT.fnc 193 1 ArgT.nil)) (Ty.leaf .bool) fun a=>F.zaa a.1 a.2.1
theorem zagd:Entry prog 184 za5z false:=eo { P:=prog,n:=9,tab:=[(221,za5y)] } (.seq .leaf (.seq .leaf .leaf)) func184 ⟨zagc,trivial⟩
noncomputable def zxr:FSem:=mkE (ArgT.cons tyTSketch ArgT.nil) (Ty.leaf .sl) fun a=>F.zge a.1
theorem za9u:Entry prog 133 zxr false:=eo { P:=prog,n:=52,tab:=[(184,za5z)],rtL:=[(10,1),(17,5),(19,5),(29,5),(34,1)],locL:=[1,5,47] } (.seq .leaf (.seq .leaf (.seq (.seq .leaf (.block (.loop [(3,.leaf (.sl)),(13,.leaf (.int .i64))] (.seq .leaf (.seq (.cond .leaf .leaf) (.seq (.block (.seq .leaf (.seq .leaf (.block (.loop [(3,.leaf (.sl)),(23,.leaf (.int .i64))] (.seq .leaf (.seq (.cond .leaf .leaf) (.join [(3,.leaf (.sl))] (.block (.seq .leaf (.seq .leaf (.seq .leaf (.seq .leaf (.cond .leaf .leaf)))))) .leaf)))))))) .leaf)))))) (.seq .leaf .leaf)))) func133 ⟨zagd,trivial⟩
noncomputable def za60:FSem:=mkE (ArgT.cons (Ty.leaf .sl) (ArgT.cons (Ty.leaf (.int .i64)) ArgT.nil)) (Ty.leaf .sl) fun a=>F.zbt a.1 a.2.1
theorem zage:Entry prog 192 za60 false:=eo { P:=prog,n:=27,tab:=[] } (.seq .leaf (.join [] (.seq .leaf (.cond .leaf .leaf)) (.seq (.seq .leaf (.seq .leaf (.cond .leaf .leaf))) (.seq .leaf .leaf)))) func192 trivial
noncomputable def za61:FSem:=mkE (ArgT.cons (Ty.leaf .sl) ArgT.nil) (Ty.leaf .sl) fun a=>F.zbp a.1
theorem zagf:Entry prog 132 za61 false:=eo { P:=prog,n:=36,tab:=[(192,za60)] } (.seq .leaf (.seq .leaf (.seq (.seq .leaf (.block (.loop [(3,.leaf (.int .i64)),(11,.leaf (.int .i64))] (.seq .leaf (.seq (.cond .leaf .leaf) (.join [(3,.leaf (.int .i64))] (.block (.seq .leaf (.seq .leaf (.seq .leaf (.cond .leaf .leaf))))) .leaf)))))) (.seq .leaf (.seq (.seq .leaf (.block (.loop [(6,.leaf (.sl)),(27,.leaf (.int .i64))] (.seq .leaf (.seq (.cond .leaf .leaf) (.seq (.block (.seq .leaf .leaf)) .leaf)))))) (.seq .leaf .leaf)))))) func132 ⟨zage,trivial⟩
noncomputable def zxs:FSem:=mkE (ArgT.cons (Ty.leaf .sl) ArgT.nil) (Ty.leaf .sl) fun a=>F.zdr a.1
theorem za9v:Entry prog 134 zxs false:=eo { P:=prog,n:=8,tab:=[] } (.seq .leaf (.seq (.seq .leaf (.cond (.seq .leaf .leaf) .leaf)) (.seq .leaf .leaf))) func134 trivial
noncomputable def zxt:FSem:=mkE (ArgT.cons tyTSketch ArgT.nil) (Ty.leaf .ptr) fun a=>F.zf1 a.1
theorem za9w:Entry prog 57 zxt false:=eo { P:=prog,n:=99,tab:=[(133,zxr),(132,za61),(134,zxs)],rtL:=[(12,1),(20,1),(32,5),(48,7),(51,7),(63,7),(67,7),(72,7)],locL:=[1,5,7,34,61,84,93] } (.seq .leaf (.seq (.draw [0,1,2,3,4,5,6,7,8,9]) (.seq (.seq .leaf (.block (.loop [(23,.leaf (.int .i64))] (.seq .leaf (.seq (.cond .leaf .leaf) (.seq (.block (.seq .leaf (.draw [0,1,2,3,4,5,6,7,8,9,10,11]))) .leaf)))))) (.seq (.seq .leaf (.block (.loop [(44,.leaf (.int .i64))] (.seq .leaf (.seq (.cond .leaf .leaf) (.seq (.block (.seq .leaf (.seq .leaf (.seq (.seq .leaf (.block (.loop [(8,.leaf (.sl)),(54,.leaf (.int .i64))] (.seq .leaf (.seq (.cond .leaf .leaf) (.join [(8,.leaf (.sl))] (.block (.seq .leaf (.seq .leaf (.seq .leaf (.cond .leaf .leaf))))) .leaf)))))) .leaf)))) .leaf)))))) (.seq .leaf .leaf))))) func57 ⟨za9u,zagf,za9v,trivial⟩
noncomputable def za62:FSem:=mkE (ArgT.cons (Ty.leaf .ptr) ArgT.nil) (Ty.leaf .sl) fun a=>F.y_henneberg_peeler_all a.1
theorem zagg:Entry prog 136 za62 false:=eo { P:=prog,n:=36,tab:=[],locL:=[17,32] } (.seq .leaf (.seq .leaf (.seq (.seq .leaf (.block (.loop [(3,.leaf (.sl)),(12,.leaf (.int .i64))] (.seq .leaf (.seq (.cond .leaf .leaf) (.seq (.block (.seq .leaf .leaf)) .leaf)))))) (.seq (.seq .leaf (.block (.loop [(3,.leaf (.sl)),(26,.leaf (.int .i64))] (.seq .leaf (.seq (.cond .leaf .leaf) (.seq (.block (.seq .leaf .leaf)) .leaf)))))) (.seq .leaf .leaf))))) func136 trivial
noncomputable def za63:FSem:=mkE (ArgT.cons (Ty.leaf (.int .i64)) (ArgT.cons (Ty.leaf .ptr) ArgT.nil)) (Ty.leaf .bool) fun a=>F.y_henneberg_peeler_remaining_1 a.1 a.2.1
theorem zagh:Entry prog 141 za63 false:=eo { P:=prog,n:=7,tab:=[(98,zit)] } (.seq .leaf (.seq .leaf .leaf)) func141 ⟨zki,trivial⟩
noncomputable def za64:FSem:=mkE (ArgT.cons (Ty.leaf .sl) (ArgT.fnc 141 1 ArgT.nil)) (Ty.leaf (.int .i64)) fun a=>F.zbm a.1 a.2.1
theorem zagi:Entry prog 135 za64 false:=eo { P:=prog,n:=19,tab:=[(141,za63)] } (.seq .leaf (.seq (.seq .leaf (.block (.loop [(8,.leaf (.int .i64))] (.seq .leaf (.seq (.cond .leaf .leaf) (.seq (.block (.seq .leaf (.seq .leaf (.cond (.seq .leaf .leaf) .leaf)))) .leaf)))))) (.seq .leaf .leaf))) func135 ⟨zagh,trivial⟩
noncomputable def za65:FSem:=mkE (ArgT.cons (Ty.leaf .sl) (ArgT.fnc 141 1 ArgT.nil)) (Ty.leaf .bool) fun a=>F.zbh a.1 a.2.1
theorem zagj:Entry prog 102 za65 false:=eo { P:=prog,n:=9,tab:=[(135,za64)] } (.seq .leaf (.seq .leaf .leaf)) func102 ⟨zagi,trivial⟩
noncomputable def za66:FSem:=mkE (ArgT.cons (Ty.leaf .ptr) (ArgT.cons (Ty.leaf (.int .i64)) (ArgT.cons (Ty.leaf .sl) ArgT.nil))) (Ty.leaf .sl) fun a=>F.y_henneberg_peeler_remaining a.1 a.2.1 a.2.2.1
theorem zagk:Entry prog 60 za66 false:=eo { P:=prog,n:=35,tab:=[(98,zit),(102,za65)],locL:=[31] } (.seq .leaf (.seq .leaf (.seq (.seq .leaf (.block (.loop [(7,.leaf (.sl)),(15,.leaf (.int .i64))] (.seq .leaf (.seq (.cond .leaf .leaf) (.join [(7,.leaf (.sl))] (.block (.seq .leaf (.seq .leaf (.cond .leaf .leaf)))) .leaf)))))) (.seq .leaf .leaf)))) func60 ⟨zki,zagj,trivial⟩
noncomputable def zxu:FSem:=mkE (ArgT.cons (Ty.leaf .ptr) (ArgT.cons (Ty.leaf (.int .i64)) ArgT.nil)) (Ty.leaf (.int .i64)) fun a=>F.y_henneberg_peeler_equations a.1 a.2.1
theorem za9x:Entry prog 140 zxu false:=eo { P:=prog,n:=21,tab:=[(109,e_x58)],rtL:=[(19,5)],locL:=[5] } (.seq .leaf (.seq .leaf (.seq .leaf .leaf))) func140 ⟨t_x58,trivial⟩
noncomputable def za67:FSem:=mkE (ArgT.cons (Ty.leaf .ptr) (ArgT.cons (Ty.leaf .sl) ArgT.nil)) (Ty.leaf (.int .i64)) fun a=>F.y_henneberg_peeler_weight a.1 a.2.1
theorem zagl:Entry prog 76 za67 false:=eo { P:=prog,n:=21,tab:=[(140,zxu)] } (.seq .leaf (.seq .leaf (.seq (.seq .leaf (.block (.loop [(5,.leaf (.int .i64)),(10,.leaf (.int .i64))] (.seq .leaf (.seq (.cond .leaf .leaf) (.seq (.block (.seq .leaf .leaf)) .leaf)))))) (.seq .leaf .leaf)))) func76 ⟨za9x,trivial⟩
noncomputable def za68:FSem:=mkE (ArgT.cons tyTConstraint (ArgT.cons (Ty.leaf .sl) (ArgT.cons (Ty.leaf (.int .i64)) ArgT.nil))) (Ty.leaf .bool) fun a=>F.zl9 a.1 a.2.1 a.2.2.1
theorem zagm:Entry prog 154 za68 false:=eo { P:=prog,n:=52,tab:=[(162,zxq),(98,zit)],rtL:=[(8,3),(14,3),(22,3),(32,3),(37,3),(44,3)],locL:=[3] } (.seq .leaf (.seq .leaf (.seq (.seq .leaf (.cond (.seq .leaf .leaf) .leaf)) (.seq (.seq .leaf (.block (.join [(16,.leaf (.bool))] (.seq .leaf (.cond .leaf .leaf)) (.cond (.seq .leaf .leaf) (.join [(19,.leaf (.bool))] (.seq .leaf (.cond .leaf .leaf)) (.cond (.seq (.draw [0,1,2,3,4,5,6,7,8]) .leaf) (.seq .leaf (.cond (.seq (.draw [0,1,2,3,4,5,6,7,8,9,10,11,12,13,14,15,16,17,18,19,20]) .leaf) .leaf)))))))) (.seq .leaf .leaf))))) func154 ⟨za9t,zki,trivial⟩
noncomputable def za69:FSem:=mkE (ArgT.cons (Ty.leaf (.int .i64)) (ArgT.cons (Ty.leaf .ptr) (ArgT.cons (Ty.leaf .ptr) ArgT.nil))) (Ty.leaf .bool) fun a=>F.y_henneberg_peeler_removable_1 a.1 a.2.1 a.2.2.1
theorem zagn:Entry prog 153 za69 false:=eo { P:=prog,n:=20,tab:=[(154,za68)] } (.seq .leaf (.seq (.draw [0,1,2,3,4,5,6,7,8,9,10,11,12,13,14,15]) .leaf)) func153 ⟨zagm,trivial⟩
noncomputable def za6a:FSem:=mkE (ArgT.cons (Ty.leaf .sl) (ArgT.fnc 153 2 ArgT.nil)) (Ty.leaf (.int .i64)) fun a=>F.zbn a.1 a.2.1
theorem zago:Entry prog 135 za6a false:=eo { P:=prog,n:=19,tab:=[(153,za69)] } (.seq .leaf (.seq (.seq .leaf (.block (.loop [(8,.leaf (.int .i64))] (.seq .leaf (.seq (.cond .leaf .leaf) (.seq (.block (.seq .leaf (.seq .leaf (.cond (.seq .leaf .leaf) .leaf)))) .leaf)))))) (.seq .leaf .leaf))) func135 ⟨zagn,trivial⟩
noncomputable def za6b:FSem:=mkE (ArgT.cons (Ty.leaf .sl) (ArgT.fnc 153 2 ArgT.nil)) (Ty.leaf .bool) fun a=>F.zbi a.1 a.2.1
theorem zagp:Entry prog 102 za6b false:=eo { P:=prog,n:=9,tab:=[(135,za6a)] } (.seq .leaf (.seq .leaf .leaf)) func102 ⟨zago,trivial⟩
noncomputable def za6c:FSem:=mkE (ArgT.cons tyTConstraint (ArgT.cons (Ty.leaf (.int .i64)) ArgT.nil)) (Ty.leaf .sl) fun a=>F.zk2 a.1 a.2.1
theorem zagq:Entry prog 207 za6c false:=eo { P:=prog,n:=25,tab:=[],rtL:=[(8,2)],locL:=[2,21] } (.seq .leaf (.seq .leaf (.seq (.seq .leaf (.block (.loop [(5,.leaf (.sl)),(11,.leaf (.int .i64))] (.seq .leaf (.seq (.cond .leaf .leaf) (.join [(5,.leaf (.sl))] (.block (.seq .leaf (.seq .leaf (.cond .leaf .leaf)))) .leaf)))))) (.seq .leaf .leaf)))) func207 trivial
noncomputable def za6d:FSem:=mkE (ArgT.cons (Ty.leaf (.int .i64)) (ArgT.cons (Ty.leaf .ptr) (ArgT.cons (Ty.leaf .ptr) (ArgT.cons (Ty.leaf .ptr) ArgT.nil)))) (Ty.leaf .bool) fun a=>F.zfc a.1 a.2.1 a.2.2.1 a.2.2.2.1
theorem zagr:Entry prog 208 za6d false:=eo { P:=prog,n:=16,tab:=[] } (.seq .leaf (.seq (.draw [0,1,2,3,4,5,6,7,8,9,10]) .leaf)) func208 trivial
noncomputable def za6e:FSem:=mkE (ArgT.cons tyTConstraint (ArgT.cons (Ty.leaf .sl) (ArgT.cons (Ty.leaf (.int .i64)) ArgT.nil))) (Ty.leaf (.int .i64)) fun a=>F.zmf a.1 a.2.1 a.2.2.1
theorem zags:Entry prog 161 za6e false:=eo { P:=prog,n:=77,tab:=[(207,za6c),(208,za6d)] } (.seq .leaf (.seq .leaf (.seq .leaf (.seq (.seq .leaf (.block (.seq .leaf (.cond (.seq (.seq .leaf (.cond (.seq .leaf .leaf) .leaf)) (.seq .leaf .leaf)) (.seq .leaf (.cond (.seq (.seq .leaf (.cond (.seq .leaf .leaf) .leaf)) (.seq .leaf .leaf)) (.seq .leaf (.cond (.seq (.seq .leaf (.cond (.seq .leaf .leaf) .leaf)) (.seq .leaf .leaf)) .leaf)))))))) (.seq (.seq .leaf (.cond (.seq .leaf .leaf) .leaf)) (.seq (.seq .leaf (.block (.join [(44,.leaf (.bool))] (.seq .leaf (.cond .leaf .leaf)) (.cond (.seq .leaf .leaf) (.seq .leaf (.cond (.seq .leaf .leaf) (.join [(49,.leaf (.bool))] (.seq .leaf (.cond .leaf (.seq .leaf (.cond .leaf (.seq .leaf (.cond .leaf .leaf)))))) (.cond (.seq .leaf .leaf) (.seq .leaf (.cond (.seq .leaf (.cond (.seq .leaf .leaf) .leaf)) (.seq .leaf (.cond (.seq .leaf (.cond (.seq .leaf .leaf) .leaf)) (.join [(66,.leaf (.bool))] (.seq .leaf (.cond .leaf .leaf)) (.cond (.seq (.seq .leaf (.cond (.seq .leaf .leaf) .leaf)) (.seq .leaf .leaf)) (.seq .leaf (.cond (.seq (.seq .leaf (.cond (.seq .leaf .leaf) .leaf)) (.seq .leaf .leaf)) .leaf)))))))))))))))) (.seq .leaf .leaf))))))) func161 ⟨zagq,zagr,trivial⟩
noncomputable def za6f:FSem:=mkE (ArgT.cons (Ty.leaf .ptr) (ArgT.cons (Ty.leaf (.int .i64)) (ArgT.cons (Ty.leaf (.int .i64)) ArgT.nil))) (Ty.leaf (.int .i64)) fun a=>F.y_henneberg_peeler_kind a.1 a.2.1 a.2.2.1
theorem zagt:Entry prog 139 za6f false:=eo { P:=prog,n:=20,tab:=[(161,za6e)] } (.seq .leaf (.seq (.draw [0,1,2,3,4,5,6,7,8,9,10,11,12,13]) .leaf)) func139 ⟨zags,trivial⟩
noncomputable def zxv:FSem:=mkE (ArgT.cons (Ty.leaf .ptr) (ArgT.cons (Ty.leaf (.int .i64)) (ArgT.cons (Ty.leaf .sl) ArgT.nil))) (Ty.leaf .bool) fun a=>F.y_henneberg_peeler_removable a.1 a.2.1 a.2.2.1
theorem za9y:Entry prog 71 zxv false:=eo { P:=prog,n:=60,tab:=[(98,zit),(60,za66),(76,za67),(102,za6b),(139,za6f),(140,zxu)] } (.seq .leaf (.seq (.seq .leaf (.cond (.seq .leaf .leaf) .leaf)) (.seq .leaf (.seq (.seq .leaf (.cond (.seq .leaf .leaf) .leaf)) (.seq (.seq .leaf (.cond (.seq .leaf .leaf) .leaf)) (.seq (.seq .leaf (.block (.loop [(37,.leaf (.int .i64))] (.seq .leaf (.seq (.cond .leaf .leaf) (.seq (.block (.seq .leaf (.seq .leaf (.join [(11,.leaf (.bool))] .leaf (.join [(11,.leaf (.bool))] (.seq .leaf (.cond .leaf .leaf)) (.seq .leaf (.cond (.seq .leaf .leaf) .leaf))))))) .leaf)))))) (.seq .leaf .leaf))))))) func71 ⟨zki,zagk,zagl,zagp,zagt,za9x,trivial⟩
noncomputable def za6g:FSem:=mkE (ArgT.cons (Ty.leaf (.int .i64)) (ArgT.cons (Ty.leaf .ptr) (ArgT.cons (Ty.leaf .ptr) ArgT.nil))) (Ty.leaf .bool) fun a=>F.y_henneberg_peeler_peel_1 a.1 a.2.1 a.2.2.1
theorem zagu:Entry prog 137 za6g false:=eo { P:=prog,n:=9,tab:=[(71,zxv)] } (.seq .leaf (.seq .leaf .leaf)) func137 ⟨za9y,trivial⟩
noncomputable def za6h:FSem:=mkE (ArgT.cons (Ty.leaf .sl) (ArgT.fnc 137 2 ArgT.nil)) (Ty.leaf (.int .i64)) fun a=>F.zba a.1 a.2.1
theorem zagv:Entry prog 135 za6h false:=eo { P:=prog,n:=19,tab:=[(137,za6g)] } (.seq .leaf (.seq (.seq .leaf (.block (.loop [(8,.leaf (.int .i64))] (.seq .leaf (.seq (.cond .leaf .leaf) (.seq (.block (.seq .leaf (.seq .leaf (.cond (.seq .leaf .leaf) .leaf)))) .leaf)))))) (.seq .leaf .leaf))) func135 ⟨zagu,trivial⟩
noncomputable def zxw:FSem:=mkE (ArgT.cons (Ty.leaf (.int .i64)) (ArgT.cons (Ty.leaf .ptr) ArgT.nil)) (Ty.leaf .bool) fun a=>F.y_henneberg_peeler_peel_2 a.1 a.2.1
theorem za9z:Entry prog 138 zxw false:=eo { P:=prog,n:=7,tab:=[(98,zit)] } (.seq .leaf (.seq .leaf .leaf)) func138 ⟨zki,trivial⟩
noncomputable def za6i:FSem:=mkE (ArgT.cons (Ty.leaf .sl) (ArgT.fnc 138 1 ArgT.nil)) (Ty.leaf (.int .i64)) fun a=>F.zby a.1 a.2.1
theorem zagw:Entry prog 135 za6i false:=eo { P:=prog,n:=19,tab:=[(138,zxw)] } (.seq .leaf (.seq (.seq .leaf (.block (.loop [(8,.leaf (.int .i64))] (.seq .leaf (.seq (.cond .leaf .leaf) (.seq (.block (.seq .leaf (.seq .leaf (.cond (.seq .leaf .leaf) .leaf)))) .leaf)))))) (.seq .leaf .leaf))) func135 ⟨za9z,trivial⟩
noncomputable def za6j:FSem:=mkM (ArgT.cons (Ty.leaf .sl) (ArgT.fnc 138 1 ArgT.nil)) (Ty.leaf .sl) fun a=>F.zb7 a.1 a.2.1
theorem zagx:Entry prog 100 za6j true:=eoM { P:=prog,n:=42,tab:=[(135,za6i),(138,zxw)] } (.seq .leaf (.seq .leaf (.seq (.seq .leaf (.cond (.seq .leaf .leaf) .leaf)) (.seq (.seq .leaf (.block (.loop [(5,.leaf (.int .i64)),(6,.leaf (.int .i64))] (.seq (.seq .leaf (.cond .leaf .leaf)) (.join [(5,.leaf (.int .i64))] (.block (.seq .leaf (.seq .leaf (.cond (.seq .leaf .leaf) .leaf)))) .leaf))))) (.seq .leaf (.seq .leaf .leaf)))))) func100 ⟨zagw,za9z,trivial⟩
noncomputable def za6k:FSem:=mkE (ArgT.cons (Ty.leaf .ptr) ArgT.nil) (Ty.tup (.cons (Ty.leaf .sl) (.cons (Ty.leaf .sl) .nil)) (fun x=>(x.1,x.2,())) (fun y=>(y.1,y.2.1)) (fun _=>rfl) (fun _=>rfl)) fun a=>F.y_henneberg_peeler_peel a.1
theorem zagy:Entry prog 58 za6k false:=eo { P:=prog,n:=27,tab:=[(136,za62),(135,za6h),(100,za6j)],mutL:=[100],locL:=[19] } (.seq .leaf (.seq .leaf (.seq (.block (.loop [(4,.leaf (.ptr))] (.block (.seq .leaf (.seq (.seq .leaf (.cond .leaf .leaf)) (.draw [0,1,3,2,4,5,6,7,8])))))) (.seq .leaf (.seq .leaf .leaf))))) func58 ⟨zagg,zagv,zagx,trivial⟩
noncomputable def zxx:FSem:=mkE (ArgT.cons tyTSketch ArgT.nil) (Ty.tup (.cons (Ty.leaf .sl) (.cons (Ty.leaf .sl) .nil)) (fun x=>(x.1,x.2,())) (fun y=>(y.1,y.2.1)) (fun _=>rfl) (fun _=>rfl)) fun a=>F.zg6 a.1
theorem zaa0:Entry prog 19 zxx false:=eo { P:=prog,n:=12,tab:=[(56,zov),(57,zxt),(58,za6k)],locL:=[1] } (.seq .leaf (.seq (.seq .leaf (.cond (.seq .leaf .leaf) .leaf)) (.seq .leaf .leaf))) func19 ⟨zr5,za9w,zagy,trivial⟩
noncomputable def za6l:FSem:=mkE (ArgT.cons tyTSketch ArgT.nil) (Ty.leaf .bool) fun a=>F.zmp a.1
theorem zagz:Entry prog 63 za6l false:=eo { P:=prog,n:=52,tab:=[],rtL:=[(5,1),(11,1),(18,1),(23,1),(29,1),(35,1),(41,1),(47,1)],locL:=[1] } (.seq .leaf (.seq (.seq .leaf (.block (.loop [(3,.leaf (.int .i64))] (.seq (.seq .leaf (.cond .leaf .leaf)) (.seq (.block (.seq .leaf (.cond (.seq .leaf .leaf) .leaf))) .leaf))))) (.seq .leaf .leaf))) func63 trivial
end
end Den
end

section
set_option maxRecDepth 100000
namespace Den
open Go Go.Proofs.Tryz
noncomputable section
noncomputable def zgx:FSem:=mkE (ArgT.cons (Ty.leaf .sl) ArgT.nil) (Ty.leaf .sl) fun a=>F.zbf a.1
theorem zie:Entry prog 196 zgx false:=eo { P:=prog,n:=21,tab:=[] } (.seq .leaf (.seq (.block (.loop [(0,.leaf (.sl))] (.join [] (.seq .leaf (.cond .leaf .leaf)) (.block .leaf)))) (.seq .leaf .leaf))) func196 trivial
noncomputable def za6m:FSem:=mkE (ArgT.cons tyTInt ArgT.nil) (Ty.leaf .bool) fun a=>F.ziv a.1
theorem zah0:Entry prog 144 za6m false:=eo { P:=prog,n:=22,tab:=[(196,zgx)],rtL:=[(3,1),(7,1),(12,1),(16,1)],locL:=[1] } (.seq .leaf (.seq (.draw [0,1,4,5,6,2,3,7,8,9,10,11,12,13,14,15,16,17,18,19]) .leaf)) func144 ⟨zie,trivial⟩
noncomputable def zlr:FSem:=mkE (ArgT.cons (Ty.leaf .bool) (ArgT.cons (Ty.leaf .sl) ArgT.nil)) tyTInt fun a=>F.zc0 a.1 a.2.1
theorem zns:Entry prog 199 zlr false:=eo { P:=prog,n:=15,tab:=[(196,zgx)],locL:=[4] } (.seq .leaf (.seq .leaf (.seq .leaf .leaf))) func199 ⟨zie,trivial⟩
noncomputable def zow:FSem:=mkE (ArgT.cons tyTInt ArgT.nil) tyTInt fun a=>F.zd9 a.1
theorem zr6:Entry prog 197 zow false:=eo { P:=prog,n:=8,tab:=[(199,zlr)],rtL:=[(3,1),(5,1)],locL:=[1,2] } (.seq .leaf (.seq .leaf .leaf)) func197 ⟨zns,trivial⟩
noncomputable def ztf:FSem:=mkE (ArgT.cons tyTInt ArgT.nil) (Ty.leaf (.int .i64)) fun a=>F.zfq a.1
theorem za02:Entry prog 145 ztf false:=eo { P:=prog,n:=11,tab:=[(197,zow)],rtL:=[(5,1),(9,1)],locL:=[1] } (.seq .leaf (.seq .leaf (.seq (.seq .leaf (.cond (.seq .leaf .leaf) .leaf)) (.seq (.seq .leaf (.cond (.seq .leaf .leaf) .leaf)) (.seq .leaf .leaf))))) func145 ⟨zr6,trivial⟩
noncomputable def zqk:FSem:=mkE (ArgT.cons (Ty.leaf .sl) (ArgT.cons (Ty.leaf .sl) ArgT.nil)) (Ty.leaf (.int .i64)) fun a=>F.zdx a.1 a.2.1
theorem zuj:Entry prog 230 zqk false:=eo { P:=prog,n:=41,tab:=[] } (.seq .leaf (.seq (.seq .leaf (.cond (.seq (.seq .leaf (.cond (.seq .leaf .leaf) .leaf)) (.seq .leaf .leaf)) .leaf)) (.seq (.seq .leaf (.block (.loop [(5,.leaf (.int .i64))] (.seq (.seq .leaf (.cond .leaf .leaf)) (.seq (.block (.seq (.seq (.draw [0,1,2,3,4,5,6,7,8]) (.cond (.seq .leaf .leaf) .leaf)) (.seq (.draw [0,1,2,3,4,5,6,7,8]) (.cond (.seq .leaf .leaf) .leaf)))) .leaf))))) (.seq .leaf .leaf)))) func230 trivial
noncomputable def za6n:FSem:=mkE (ArgT.cons (Ty.leaf .sl) ArgT.nil) (Ty.leaf (.int .u64)) fun a=>F.zhc a.1
theorem zah1:Entry prog 231 za6n false:=eo { P:=prog,n:=21,tab:=[] } (.seq .leaf (.seq .leaf (.seq (.seq .leaf (.block (.loop [(3,.leaf (.int .u64)),(4,.leaf (.int .i64))] (.seq (.seq .leaf (.cond .leaf .leaf)) (.seq (.block .leaf) .leaf))))) (.seq .leaf .leaf)))) func231 trivial
noncomputable def zxy:FSem:=mkE (ArgT.cons (Ty.leaf (.int .u64)) ArgT.nil) (Ty.leaf .sl) fun a=>F.zeb a.1
theorem zaa1:Entry prog 206 zxy false:=eo { P:=prog,n:=10,tab:=[(196,zgx)] } (.seq .leaf (.seq .leaf .leaf)) func206 ⟨zie,trivial⟩
noncomputable def zxz:FSem:=mkE (ArgT.cons (Ty.leaf .sl) (ArgT.cons (Ty.leaf (.int .u32)) ArgT.nil)) (Ty.tup (.cons (Ty.leaf .sl) (.cons (Ty.leaf (.int .u32)) .nil)) (fun x=>(x.1,x.2,())) (fun y=>(y.1,y.2.1)) (fun _=>rfl) (fun _=>rfl)) fun a=>F.zni a.1 a.2.1
theorem zaa2:Entry prog 232 zxz false:=eo { P:=prog,n:=43,tab:=[(196,zgx)] } (.seq .leaf (.seq .leaf (.seq .leaf (.seq (.seq .leaf (.block (.loop [(7,.leaf (.int .u64)),(8,.leaf (.int .i64))] (.seq (.seq .leaf (.cond .leaf .leaf)) (.seq (.block (.seq .leaf (.seq .leaf .leaf))) .leaf))))) (.seq .leaf .leaf))))) func232 ⟨zie,trivial⟩
noncomputable def za6o:FSem:=mkE (ArgT.cons (Ty.leaf .sl) ArgT.nil) (Ty.leaf (.int .i64)) fun a=>F.zi7 a.1
theorem zah2:Entry prog 233 za6o false:=eo { P:=prog,n:=26,tab:=[] } (.seq .leaf (.seq (.seq .leaf (.cond (.seq .leaf .leaf) .leaf)) (.seq .leaf (.seq (.seq .leaf (.block (.loop [(3,.leaf (.int .i64)),(4,.leaf (.int .u32))] (.seq (.seq .leaf (.cond .leaf .leaf)) (.seq (.block .leaf) .leaf))))) (.seq .leaf .leaf))))) func233 trivial
noncomputable def za6p:FSem:=mkE (ArgT.cons (Ty.leaf .sl) (ArgT.cons (Ty.leaf (.int .i64)) ArgT.nil)) (Ty.leaf .sl) fun a=>F.zj9 a.1 a.2.1
theorem zah3:Entry prog 234 za6p false:=eo { P:=prog,n:=43,tab:=[] } (.seq .leaf (.seq .leaf (.seq (.seq .leaf (.block (.loop [(6,.leaf (.int .i64))] (.seq (.seq .leaf (.cond .leaf .leaf)) (.seq (.block (.seq .leaf (.seq .leaf .leaf))) .leaf))))) (.seq .leaf .leaf)))) func234 trivial
noncomputable def zy0:FSem:=mkE (ArgT.cons (Ty.leaf .sl) (ArgT.cons (Ty.leaf .sl) ArgT.nil)) (Ty.leaf .sl) fun a=>F.zfz a.1 a.2.1
theorem zaa3:Entry prog 252 zy0 false:=eo { P:=prog,n:=67,tab:=[(196,zgx)] } (.seq .leaf (.seq .leaf (.seq (.seq .leaf (.block (.loop [(6,.leaf (.int .i64))] (.seq (.seq .leaf (.cond .leaf .leaf)) (.seq (.block (.seq .leaf (.seq (.seq .leaf (.block (.loop [(7,.leaf (.int .u64)),(8,.leaf (.int .i64))] (.seq (.seq .leaf (.cond .leaf .leaf)) (.seq (.block (.seq (.draw [0,1,2,3,4,5,6,7,8,9,10,11,12,13,14,15,16,17,18,19,20,21]) (.seq .leaf .leaf))) .leaf))))) .leaf))) .leaf))))) (.seq .leaf .leaf)))) func252 ⟨zie,trivial⟩
noncomputable def ztg:FSem:=mkE (ArgT.cons (Ty.leaf .sl) (ArgT.cons (Ty.leaf .sl) ArgT.nil)) (Ty.leaf .sl) fun a=>F.zea a.1 a.2.1
theorem za03:Entry prog 236 ztg false:=eo { P:=prog,n:=48,tab:=[(196,zgx)] } (.seq .leaf (.seq .leaf (.seq .leaf (.seq (.seq .leaf (.block (.loop [(6,.leaf (.int .u64)),(7,.leaf (.int .i64))] (.seq (.seq .leaf (.cond .leaf .leaf)) (.seq (.block (.seq .leaf (.join [(8,.leaf (.int .u64))] (.seq .leaf (.cond .leaf .leaf)) (.seq .leaf (.seq .leaf .leaf))))) .leaf))))) (.seq .leaf .leaf))))) func236 ⟨zie,trivial⟩
noncomputable def za6q:FSem:=mkE (ArgT.cons (Ty.leaf .sl) (ArgT.cons (Ty.leaf .sl) ArgT.nil)) (Ty.tup (.cons (Ty.leaf (.int .u32)) (.cons (Ty.leaf .sl) .nil)) (fun x=>(x.1,x.2,())) (fun y=>(y.1,y.2.1)) (fun _=>rfl) (fun _=>rfl)) fun a=>F.zla a.1 a.2.1
theorem zah4:Entry prog 235 za6q false:=eo { P:=prog,n:=51,tab:=[(252,zy0),(196,zgx),(230,zqk),(236,ztg)] } (.seq .leaf (.seq .leaf (.seq (.draw [0,1,2,3,4,5,6,7,8,9,10,11,12,13,14,15,16,17,18,19,20]) (.join [(7,.leaf (.int .u64))] (.seq .leaf (.cond .leaf .leaf)) (.seq .leaf (.seq (.block (.loop [(7,.leaf (.int .u64)),(8,.leaf (.sl))] (.seq (.seq .leaf (.cond .leaf .leaf)) (.block (.seq .leaf .leaf))))) (.seq .leaf .leaf))))))) func235 ⟨zaa3,zie,zuj,za03,trivial⟩
noncomputable def za6r:FSem:=mkE (ArgT.cons (Ty.leaf .sl) (ArgT.cons (Ty.leaf (.int .i64)) ArgT.nil)) (Ty.leaf .sl) fun a=>F.zmm a.1 a.2.1
theorem zah5:Entry prog 237 za6r false:=eo { P:=prog,n:=45,tab:=[(196,zgx)] } (.seq .leaf (.seq .leaf (.seq (.seq .leaf (.block (.loop [(6,.leaf (.int .i64))] (.seq (.seq .leaf (.cond .leaf .leaf)) (.seq (.block (.seq .leaf (.join [(7,.leaf (.int .u64))] (.seq .leaf (.cond .leaf .leaf)) .leaf))) .leaf))))) (.seq .leaf .leaf)))) func237 ⟨zie,trivial⟩
noncomputable def zy1:FSem:=mkE (ArgT.cons (Ty.leaf .sl) (ArgT.cons (Ty.leaf .sl) ArgT.nil)) (Ty.tup (.cons (Ty.leaf .sl) (.cons (Ty.leaf .sl) .nil)) (fun x=>(x.1,x.2,())) (fun y=>(y.1,y.2.1)) (fun _=>rfl) (fun _=>rfl)) fun a=>F.zga a.1 a.2.1
theorem zaa4:Entry prog 198 zy1 false:=eo { P:=prog,n:=128,tab:=[(230,zqk),(231,za6n),(206,zxy),(232,zxz),(233,za6o),(234,za6p),(196,zgx),(235,za6q),(236,ztg),(237,za6r)] } (.seq .leaf (.seq (.seq .leaf (.cond (.seq .leaf .leaf) .leaf)) (.seq (.seq .leaf (.cond (.seq .leaf (.seq (.draw [0,1,2,4,5,6,3,7,8,9]) .leaf)) .leaf)) (.seq (.seq .leaf (.cond (.seq .leaf (.seq .leaf .leaf)) .leaf)) (.seq .leaf (.seq .leaf (.seq .leaf (.seq (.seq .leaf (.block (.loop [(14,.leaf (.int .i64))] (.seq (.seq .leaf (.cond .leaf .leaf)) (.seq (.block (.seq .leaf (.seq .leaf (.seq .leaf (.seq .leaf (.seq .leaf (.block (.loop [(19,.leaf (.int .i64))] (.seq (.seq .leaf (.cond .leaf .leaf)) (.join [] (.block (.seq .leaf (.seq .leaf (.cond .leaf .leaf)))) .leaf)))))))))) .leaf))))) (.seq .leaf .leaf))))))))) func198 ⟨zuj,zah1,zaa1,zaa2,zah2,zah3,zie,zah4,za03,zah5,trivial⟩
noncomputable def zy2:FSem:=mkE (ArgT.cons tyTInt (ArgT.cons tyTInt ArgT.nil)) tyTInt fun a=>F.zi5 a.1 a.2.1
theorem zaa5:Entry prog 147 zy2 false:=eo { P:=prog,n:=28,tab:=[(196,zgx),(198,zy1),(199,zlr)],rtL:=[(9,2),(12,3)],locL:=[2,3,4] } (.seq .leaf (.seq (.draw [0,1,3,4,2,5,6,7]) (.seq (.block (.loop [(5,.leaf (.sl)),(6,.leaf (.sl))] (.seq (.seq .leaf (.cond .leaf .leaf)) (.block (.seq .leaf .leaf))))) (.seq .leaf .leaf)))) func147 ⟨zie,zaa4,zns,trivial⟩
noncomputable def zy3:FSem:=mkE (ArgT.cons tyTInt ArgT.nil) (Ty.leaf .bool) fun a=>F.zjq a.1
theorem zaa6:Entry prog 146 zy3 false:=eo { P:=prog,n:=19,tab:=[],rtL:=[(3,1),(8,1),(15,1)],locL:=[1] } (.seq .leaf (.seq .leaf .leaf)) func146 trivial
noncomputable def zth:FSem:=mkE (ArgT.cons tyTRat ArgT.nil) (Ty.leaf .bool) fun a=>F.zec a.1
theorem za04:Entry prog 64 zth false:=eo { P:=prog,n:=25,tab:=[(144,za6m),(145,ztf),(147,zy2),(146,zy3)],rtL:=[(3,1),(7,1),(12,1),(18,1),(20,1)],locL:=[1] } (.seq .leaf (.seq .leaf .leaf)) func64 ⟨zah0,za02,zaa5,zaa6,trivial⟩
noncomputable def zy4:FSem:=mkE (ArgT.cons (Ty.leaf (.int .i64)) (ArgT.cons (Ty.leaf (.int .i64)) ArgT.nil)) (Ty.leaf .bool) fun a=>F.zep a.1 a.2.1
theorem zaa7:Entry prog 65 zy4 false:=eo { P:=prog,n:=12,tab:=[] } (.seq .leaf (.seq .leaf .leaf)) func65 trivial
noncomputable def zy5:FSem:=mkE (ArgT.cons tyTRat ArgT.nil) (Ty.leaf (.int .i64)) fun a=>F.zim a.1
theorem zaa8:Entry prog 66 zy5 false:=eo { P:=prog,n:=6,tab:=[(145,ztf)],rtL:=[(3,1)],locL:=[1] } (.seq .leaf (.seq .leaf .leaf)) func66 ⟨za02,trivial⟩
noncomputable def za6s:FSem:=mkE (ArgT.cons tyTSketch (ArgT.cons tyTPiece ArgT.nil)) (Ty.tup (.cons (Ty.leaf (.int .i64)) (.cons (Ty.leaf (.int .i64)) .nil)) (fun x=>(x.1,x.2,())) (fun y=>(y.1,y.2.1)) (fun _=>rfl) (fun _=>rfl)) fun a=>F.zmo a.1 a.2.1
theorem zah6:Entry prog 148 za6s false:=eo { P:=prog,n:=44,tab:=[],rtL:=[(8,3),(10,2),(12,3),(17,2),(19,3),(24,2),(26,3),(31,2),(33,3),(38,3)],locL:=[2,3] } (.seq .leaf (.seq .leaf (.join [(6,.leaf (.int .i64)),(7,.leaf (.int .i64))] (.seq .leaf (.cond (.draw [0,1,2,3,4,5,6,7,8,9,10,11,12,13,14,15]) (.draw [0,1,2,3,4,5,6,7,8,9,10,11,12,13,14,15]))) (.seq (.seq .leaf (.cond (.seq .leaf .leaf) .leaf)) (.seq .leaf .leaf))))) func148 trivial
noncomputable def za6t:FSem:=mkE (ArgT.cons tyTSketch (ArgT.cons (Ty.leaf .sl) ArgT.nil)) (Ty.leaf .bool) fun a=>F.zlg a.1 a.2.1
theorem zah7:Entry prog 67 za6t false:=eo { P:=prog,n:=80,tab:=[(148,za6s),(65,zy4)],rtL:=[(22,2),(41,2)],locL:=[2] } (.seq .leaf (.seq (.seq .leaf (.block (.loop [(5,.leaf (.int .i64))] (.seq (.seq .leaf (.cond .leaf .leaf)) (.join [] (.block (.join [] (.seq (.draw [0,1,2,3,4,5,6,7,8,9,10,11,12,13,14,15,16,17,18,19,20,21,22,23,24,25,26,27,28,29,30,31,32,33,34,35,36]) (.cond (.seq .leaf .leaf) .leaf)) (.seq .leaf (.cond (.seq (.draw [0,1,2,3,4,5,6,7,8,9,10,11]) (.seq (.draw [0,1,2,3,4,5,6,7,8,9,10]) (.seq .leaf (.cond (.seq .leaf .leaf) .leaf)))) .leaf)))) .leaf))))) (.seq .leaf .leaf))) func67 ⟨zah6,zaa7,trivial⟩
noncomputable def za6u:FSem:=mkE ArgT.nil (Ty.leaf .sl) fun a=>F.zkd
theorem zah8:Entry prog 200 za6u false:=eo { P:=prog,n:=19,tab:=[] } (.seq .leaf (.seq .leaf .leaf)) func200 trivial
noncomputable def zy6:FSem:=mkE (ArgT.cons (Ty.leaf (.int .i64)) ArgT.nil) (Ty.tup (.cons zpa (.cons (Ty.leaf .bool) .nil)) (fun x=>(x.1,x.2,())) (fun y=>(y.1,y.2.1)) (fun _=>rfl) (fun _=>rfl)) fun a=>F.zku a.1
theorem zaa9:Entry prog 149 zy6 false:=eo { P:=prog,n:=18,tab:=[(200,za6u)],locL:=[2] } (.seq .leaf (.join [(2,.box [.str,.int .i64,.int .i64,.int .i64,.int .i64,.int .i64,.bool])] (.seq .leaf (.cond (.seq .leaf .leaf) .leaf)) (.seq .leaf .leaf))) func149 ⟨zah8,trivial⟩
noncomputable def zti:FSem:=mkE (ArgT.cons (Ty.leaf (.int .i64)) ArgT.nil) tyTInt fun a=>F.zex a.1
theorem za05:Entry prog 160 zti false:=eo { P:=prog,n:=14,tab:=[(206,zxy),(199,zlr)],locL:=[2] } (.seq .leaf (.seq (.seq .leaf (.cond (.seq .leaf .leaf) .leaf)) (.seq .leaf .leaf))) func160 ⟨zaa1,zns,trivial⟩
noncomputable def ztj:FSem:=mkE (ArgT.cons (Ty.leaf (.int .i64)) ArgT.nil) tyTRat fun a=>F.zey a.1
theorem za06:Entry prog 86 ztj false:=eo { P:=prog,n:=7,tab:=[(160,zti)],locL:=[2] } (.seq .leaf (.seq .leaf .leaf)) func86 ⟨za05,trivial⟩
noncomputable def za6v:FSem:=mkE (ArgT.cons tyTInt (ArgT.cons tyTInt ArgT.nil)) (Ty.leaf .bool) fun a=>F.zml a.1 a.2.1
theorem zah9:Entry prog 268 za6v false:=eo { P:=prog,n:=18,tab:=[(230,zqk)],rtL:=[(5,2),(7,3),(11,2),(13,3)],locL:=[2,3] } (.seq .leaf (.seq .leaf .leaf)) func268 ⟨zuj,trivial⟩
noncomputable def za6w:FSem:=mkE (ArgT.cons tyTInt ArgT.nil) (Ty.leaf .str) fun a=>F.zk9 a.1
theorem zaha:Entry prog 269 za6w false:=eo { P:=prog,n:=34,tab:=[(197,zow),(232,zxz)],rtL:=[(9,1),(29,1)],locL:=[1] } (.seq .leaf (.seq .leaf (.seq .leaf (.seq .leaf (.seq (.block (.loop [(3,.leaf (.str)),(4,.leaf (.sl))] (.seq (.seq .leaf (.cond .leaf .leaf)) (.block (.seq .leaf (.seq .leaf .leaf)))))) (.seq (.seq .leaf (.cond (.seq .leaf .leaf) .leaf)) (.seq (.seq .leaf (.cond (.seq .leaf .leaf) .leaf)) (.seq .leaf .leaf)))))))) func269 ⟨zr6,zaa2,trivial⟩
noncomputable def zy7:FSem:=mkE (ArgT.cons tyTInt (ArgT.cons tyTInt ArgT.nil)) tyTInt fun a=>F.zi6 a.1 a.2.1
theorem zaaa:Entry prog 285 zy7 false:=eo { P:=prog,n:=20,tab:=[(197,zow),(252,zy0),(199,zlr)],rtL:=[(9,2),(11,3),(14,2),(16,3)],locL:=[2,3,4] } (.seq .leaf (.seq (.draw [0,2,1,3,4,5]) (.seq (.draw [0,1,2,3,4,5,6,7,8,9,10,11]) .leaf))) func285 ⟨zr6,zaa3,zns,trivial⟩
noncomputable def za6x:FSem:=mkE (ArgT.cons tyTInt ArgT.nil) tyTInt fun a=>F.zo4 a.1
theorem zahb:Entry prog 315 za6x false:=eo { P:=prog,n:=9,tab:=[(199,zlr)],rtL:=[(3,1),(6,1)],locL:=[1,2] } (.seq .leaf (.seq .leaf .leaf)) func315 ⟨zns,trivial⟩
noncomputable def za6y:FSem:=mkE (ArgT.cons (Ty.leaf .sl) (ArgT.cons (Ty.leaf .sl) ArgT.nil)) (Ty.leaf .sl) fun a=>F.zka a.1 a.2.1
theorem zahc:Entry prog 316 za6y false:=eo { P:=prog,n:=58,tab:=[(196,zgx)] } (.seq .leaf (.join [(0,.leaf (.sl)),(1,.leaf (.sl))] (.seq .leaf (.cond .leaf .leaf)) (.seq .leaf (.seq .leaf (.seq (.seq .leaf (.block (.loop [(6,.leaf (.int .u64)),(7,.leaf (.int .i64))] (.seq (.seq .leaf (.cond .leaf .leaf)) (.seq (.block (.seq .leaf (.join [(6,.leaf (.int .u64))] (.seq .leaf (.cond .leaf .leaf)) (.seq .leaf .leaf)))) .leaf))))) (.seq .leaf (.seq .leaf .leaf))))))) func316 ⟨zie,trivial⟩
noncomputable def zy8:FSem:=mkE (ArgT.cons tyTInt (ArgT.cons tyTInt ArgT.nil)) tyTInt fun a=>F.zlz a.1 a.2.1
theorem zaab:Entry prog 307 zy8 false:=eo { P:=prog,n:=44,tab:=[(197,zow),(316,za6y),(199,zlr),(230,zqk),(236,ztg)],rtL:=[(9,2),(11,3),(14,2),(16,2),(18,3),(22,2),(24,3),(28,2),(30,2),(32,3),(36,3),(38,3),(40,2)],locL:=[2,3,4] } (.seq .leaf (.seq (.draw [0,2,1,3,4,5]) (.seq (.seq .leaf (.cond (.seq (.draw [0,1,2,3,4,5,6,7,8]) .leaf) .leaf)) (.seq (.seq .leaf (.cond (.seq (.draw [0,1,2,3,4,5,6,7,8]) .leaf) .leaf)) (.seq (.draw [0,1,2,3,4,5,6,7,8]) .leaf))))) func307 ⟨zr6,zahc,zns,zuj,za03,trivial⟩
noncomputable def za6z:FSem:=mkE (ArgT.cons tyTInt (ArgT.cons tyTInt ArgT.nil)) tyTInt fun a=>F.zm0 a.1 a.2.1
theorem zahd:Entry prog 306 za6z false:=eo { P:=prog,n:=9,tab:=[(315,za6x),(307,zy8)],locL:=[2,3,4] } (.seq .leaf (.seq (.draw [0,1,2,3,4]) .leaf)) func306 ⟨zahb,zaab,trivial⟩
noncomputable def za70:FSem:=mkE (ArgT.cons tyTInt (ArgT.cons tyTInt ArgT.nil)) (Ty.tup (.cons tyTInt (.cons tyTInt (.cons (Ty.leaf (.int .i64)) .nil))) (fun x=>(x.1,x.2.1,x.2.2,())) (fun y=>(y.1,y.2.1,y.2.2.1)) (fun _=>rfl) (fun _=>rfl)) fun a=>F.zk8 a.1 a.2.1
theorem zahe:Entry prog 298 za70 false:=eo { P:=prog,n:=55,tab:=[(197,zow),(198,zy1),(199,zlr),(285,zy7),(306,za6z),(145,ztf),(160,zti),(307,zy8)],rtL:=[(15,3),(22,2),(24,3),(29,2),(31,3)],locL:=[2,3,4,5,9,10] } (.seq .leaf (.seq (.draw [0,2,1,3,4,5]) (.seq (.seq .leaf (.cond (.seq .leaf .leaf) .leaf)) (.seq .leaf (.seq .leaf (.seq (.draw [0,1,2,5,3,4,6]) (.join [(9,.box [.bool,.sl]),(10,.box [.bool,.sl])] (.seq (.draw [0,2,1,3,4,5]) (.cond (.seq (.draw [0,1,2,3]) .leaf) .leaf)) (.seq (.draw [0,1,2,3,4]) .leaf)))))))) func298 ⟨zr6,zaa4,zns,zaaa,zahd,za02,za05,zaab,trivial⟩
noncomputable def za71:FSem:=mkE (ArgT.cons tyTInt (ArgT.cons tyTInt ArgT.nil)) tyTInt fun a=>F.zi8 a.1 a.2.1
theorem zahf:Entry prog 286 za71 false:=eo { P:=prog,n:=16,tab:=[(298,za70)],locL:=[2,3,4,5,6] } (.seq .leaf (.seq .leaf (.seq .leaf .leaf))) func286 ⟨zahe,trivial⟩
noncomputable def za72:FSem:=mkE (ArgT.cons tyTRat (ArgT.cons tyTRat ArgT.nil)) tyTRat fun a=>F.zo5 a.1 a.2.1
theorem zahg:Entry prog 270 za72 false:=eo { P:=prog,n:=65,tab:=[(147,zy2),(286,za71),(285,zy7),(146,zy3),(86,ztj)],rtL:=[(7,2),(8,2),(13,3),(14,3),(20,2),(24,3),(28,2),(30,3),(33,2),(36,2),(38,3),(41,3),(43,2),(46,2),(50,3),(55,2),(59,3)],locL:=[2,3,4,5,6] } (.seq .leaf (.join [(4,.box [.bool,.sl,.bool,.sl])] (.seq .leaf (.cond (.seq .leaf .leaf) .leaf)) (.join [(4,.box [.bool,.sl,.bool,.sl])] (.seq .leaf (.cond (.seq (.draw [0,1,2,3,5,6,4,7,8]) .leaf) .leaf)) (.seq (.draw [0,1,2,3,5,6,7,8,10,11,4,9,12,13]) (.seq (.draw [0,1,2,4,5,6,9,10,11,13,14,15,3,7,8,12,16,17,18,19]) .leaf))))) func270 ⟨zaa5,zahf,zaaa,zaa6,za06,trivial⟩
noncomputable def za73:FSem:=mkE (ArgT.cons tyTRat ArgT.nil) (Ty.tup (.cons (Ty.leaf .str) (.cons (Ty.leaf .bool) .nil)) (fun x=>(x.1,x.2,())) (fun y=>(y.1,y.2.1)) (fun _=>rfl) (fun _=>rfl)) fun a=>F.zja a.1
theorem zahh:Entry prog 253 za73 false:=eo { P:=prog,n:=60,tab:=[(86,ztj),(160,zti),(268,za6v),(269,za6w),(270,za72),(64,zth),(66,zy5)],rtL:=[(24,6),(28,6)],locL:=[1,4,5,6] } (.seq .leaf (.join [] (.seq .leaf (.cond (.seq .leaf .leaf) .leaf)) (.seq .leaf (.seq .leaf (.seq .leaf (.seq (.seq .leaf (.block (.loop [(6,.box [.bool,.sl,.bool,.sl]),(7,.leaf (.int .i64))] (.seq (.seq .leaf (.cond .leaf .leaf)) (.seq (.block (.seq (.seq .leaf (.cond (.seq .leaf (.seq (.block (.loop [(8,.leaf (.str))] (.seq (.seq .leaf (.cond .leaf .leaf)) (.block .leaf)))) (.join [(8,.leaf (.str))] (.seq .leaf (.cond (.draw [0,1,2,3,4,5,6,7,8,9,10,11,12,13,14]) .leaf)) (.seq .leaf .leaf)))) .leaf)) .leaf)) .leaf))))) (.seq .leaf .leaf))))))) func253 ⟨za06,za05,zah9,zaha,zahg,za04,zaa8,trivial⟩
noncomputable def za74:FSem:=mkE (ArgT.cons (Ty.leaf (.int .u8)) ArgT.nil) (Ty.leaf .bool) fun a=>F.zkb a.1
theorem zahi:Entry prog 287 za74 false:=eo { P:=prog,n:=17,tab:=[] } (.seq .leaf (.seq .leaf .leaf)) func287 trivial
noncomputable def za75:FSem:=mkE (ArgT.cons (Ty.leaf (.int .u8)) ArgT.nil) (Ty.leaf .bool) fun a=>F.zoi a.1
theorem zahj:Entry prog 288 za75 false:=eo { P:=prog,n:=9,tab:=[] } (.seq .leaf (.seq .leaf .leaf)) func288 trivial
end
end Den
end

section
set_option maxRecDepth 100000
namespace Den
open Go Go.Proofs.Tryz
noncomputable section
noncomputable def za76:FSem:=mkE (ArgT.cons (Ty.leaf .str) (ArgT.cons (Ty.leaf (.int .i64)) ArgT.nil)) (Ty.leaf (.int .i64)) fun a=>F.zmn a.1 a.2.1
theorem zahk:Entry prog 271 za76 false:=eo { P:=prog,n:=42,tab:=[(287,za74),(288,za75)] } (.seq .leaf (.join [] (.seq .leaf (.cond (.seq .leaf .leaf) .leaf)) (.seq (.block (.loop [(1,.leaf (.int .i64))] (.join [] (.seq .leaf (.cond .leaf .leaf)) (.block .leaf)))) (.seq .leaf .leaf)))) func271 ⟨zahi,zahj,trivial⟩
noncomputable def za77:FSem:=mkE (ArgT.cons (Ty.leaf .str) ArgT.nil) (Ty.leaf .bool) fun a=>F.zgb a.1
theorem zahl:Entry prog 254 za77 false:=eo { P:=prog,n:=17,tab:=[(271,za76)] } (.seq .leaf (.seq .leaf .leaf)) func254 ⟨zahk,trivial⟩
noncomputable def za78:FSem:=mkE (ArgT.cons tyTExpr ArgT.nil) (Ty.leaf .bool) fun a=>F.zld a.1
theorem zahm:Entry prog 238 za78 false:=eo { P:=prog,n:=106,tab:=[(253,za73),(254,za77)],rtL:=[(6,1),(7,1),(8,1),(12,1),(13,1),(14,1),(19,1),(20,1),(21,1),(27,1),(28,1),(29,1),(34,1),(39,1),(46,1),(50,1),(56,1),(65,1),(70,1),(79,1),(84,1),(96,1),(101,1)],locL:=[1] } (.seq .leaf (.join [(3,.leaf (.bool))] .leaf (.seq (.seq .leaf (.block (.seq .leaf (.cond (.seq .leaf (.seq .leaf .leaf)) (.seq .leaf (.cond (.seq .leaf .leaf) (.seq .leaf (.cond (.seq .leaf .leaf) (.join [(89,.leaf (.bool))] (.seq .leaf (.cond .leaf (.seq .leaf (.cond .leaf (.seq .leaf (.cond .leaf .leaf)))))) (.cond (.seq .leaf .leaf) .leaf)))))))))) (.seq .leaf .leaf)))) func238 ⟨zahh,zahl,trivial⟩
noncomputable def zx0:ArgT (TExpr×Unit):=(ArgT.cons tyTExpr ArgT.nil)
noncomputable def zx5:Ty Bool:=(Ty.leaf .bool)
noncomputable def za79:FSem:=mkE zx0 zx5 fun a=>F.zkc a.1
noncomputable def zaei (n:Nat):Cfg:={ P:=prog,n:=21,tab:=[(238,za78),(201,mkE zx0 zx5 (fun a=>F.zez n a.1))],rtL:=[(8,1),(14,1)],locL:=[1] }
theorem zaaq:∃fn,prog.funcs[201]?=some fn∧fn.body.isNone=false∧(fn.name == "runtime.NumGoroutine")=false:=⟨_,func201,rfl,by decide⟩
theorem zaaw:∀n a K D w,Sub D w→F.zez n a.1 K D→Calls prog 201 (zx0.up a).toArray w (Post (fun v h=>zx5.dn v fun r=>K r h) D w)
 | 0,_,_,_,_,_,h=>h.elim
 | n+1,a,K,D,w,hs,h=>zjh (C:=zaei n) (F:=fun a=>F.zez (n+1) a.1) (fn:=f201) (c:=bd f201) (an:=(.seq .leaf (.seq (.seq .leaf (.cond (.seq .leaf .leaf) .leaf)) (.seq (.seq .leaf (.block (.loop [(3,.leaf (.int .i64))] (.seq (.seq .leaf (.cond .leaf .leaf)) (.seq (.block (.seq .leaf (.cond (.seq .leaf .leaf) .leaf))) .leaf))))) (.seq .leaf .leaf))))) ⟨zahm,(zdf zaaq (zaaw n)),trivial⟩ trivial func201 rfl rfl (fun _=>rfl) (by intro a K D; kernel_rfl) a K D w hs h
theorem zahn:Entry prog 201 za79 false:=zdf zaaq (fun a K D w hs h=>h.elim fun m h=>zaaw m a K D w hs h)
noncomputable def zx1:ArgT (TExpr×Unit):=(ArgT.cons tyTExpr ArgT.nil)
noncomputable def zx6:Ty Int:=(Ty.leaf (.int .i64))
noncomputable def za7a:FSem:=mkE zx1 zx6 fun a=>F.zlb a.1
noncomputable def zaej (n:Nat):Cfg:={ P:=prog,n:=22,tab:=[(202,mkE zx1 zx6 (fun a=>F.zdo n a.1))],rtL:=[(6,1),(13,1)],locL:=[1] }
theorem zaar:∃fn,prog.funcs[202]?=some fn∧fn.body.isNone=false∧(fn.name == "runtime.NumGoroutine")=false:=⟨_,func202,rfl,by decide⟩
theorem zaax:∀n a K D w,Sub D w→F.zdo n a.1 K D→Calls prog 202 (zx1.up a).toArray w (Post (fun v h=>zx6.dn v fun r=>K r h) D w)
 | 0,_,_,_,_,_,h=>h.elim
 | n+1,a,K,D,w,hs,h=>zjh (C:=zaej n) (F:=fun a=>F.zdo (n+1) a.1) (fn:=f202) (c:=bd f202) (an:=(.seq .leaf (.seq .leaf (.seq (.seq .leaf (.block (.loop [(3,.leaf (.int .i64)),(4,.leaf (.int .i64))] (.seq (.seq .leaf (.cond .leaf .leaf)) (.seq (.block .leaf) .leaf))))) (.seq .leaf .leaf))))) ⟨(zdf zaar (zaax n)),trivial⟩ trivial func202 rfl rfl (fun _=>rfl) (by intro a K D; kernel_rfl) a K D w hs h
theorem zaho:Entry prog 202 za7a false:=zdf zaar (fun a K D w hs h=>h.elim fun m h=>zaax m a K D w hs h)
noncomputable def za7b:FSem:=mkE (ArgT.cons tyTExpr ArgT.nil) (Ty.leaf (.int .i64)) fun a=>F.zlc a.1
theorem zahp:Entry prog 151 za7b false:=eo { P:=prog,n:=9,tab:=[(201,za79),(202,za7a)],locL:=[1] } (.seq .leaf (.seq (.seq .leaf (.cond (.seq .leaf .leaf) .leaf)) (.seq (.seq .leaf (.cond (.seq .leaf .leaf) .leaf)) (.seq .leaf .leaf)))) func151 ⟨zahn,zaho,trivial⟩
noncomputable def za7c:FSem:=mkE (ArgT.cons (Ty.leaf .sl) ArgT.nil) (Ty.leaf .bool) fun a=>F.zfr a.1
theorem zahq:Entry prog 152 za7c false:=eo { P:=prog,n:=25,tab:=[] } (.seq .leaf (.seq (.seq .leaf (.block (.loop [(3,.leaf (.int .i64))] (.seq (.seq .leaf (.cond .leaf .leaf)) (.seq (.block (.seq .leaf (.block (.loop [(4,.leaf (.int .i64))] (.seq (.seq .leaf (.cond .leaf .leaf)) (.seq (.block (.seq (.draw [0,1,2,3,4,5,6,7,8]) (.cond (.seq .leaf .leaf) .leaf))) .leaf)))))) .leaf))))) (.seq .leaf .leaf))) func152 trivial
noncomputable def za7d:FSem:=mkE (ArgT.cons (Ty.leaf .sl) (ArgT.cons (Ty.leaf (.int .i64)) ArgT.nil)) (Ty.leaf .bool) fun a=>F.zi9 a.1 a.2.1
theorem zahr:Entry prog 150 za7d false:=eo { P:=prog,n:=25,tab:=[] } (.seq .leaf (.seq (.seq .leaf (.block (.loop [(5,.leaf (.int .i64))] (.seq (.seq .leaf (.cond .leaf .leaf)) (.join [] (.block (.seq .leaf (.cond (.seq .leaf .leaf) .leaf))) .leaf))))) (.seq .leaf .leaf))) func150 trivial
noncomputable def za7e:FSem:=mkE (ArgT.cons tyTConstraint (ArgT.cons (Ty.leaf (.int .i64)) (ArgT.cons (Ty.leaf (.int .i64)) ArgT.nil))) (Ty.leaf .bool) fun a=>F.zle a.1 a.2.1 a.2.2.1
theorem zahs:Entry prog 68 za7e false:=eo { P:=prog,n:=164,tab:=[(149,zy6),(151,za7b),(152,za7c),(150,za7d)],rtL:=[(13,3),(21,3),(24,7),(29,3),(32,7),(37,3),(40,7),(45,3),(52,3),(59,3),(65,3),(72,7),(75,3),(80,3),(85,7),(89,3),(94,3),(96,3),(160,3)],locL:=[3,7] } (.seq .leaf (.seq .leaf (.join [] (.seq .leaf (.cond (.seq .leaf .leaf) .leaf)) (.seq (.seq .leaf (.block (.loop [(9,.leaf (.int .i64))] (.seq (.seq .leaf (.cond .leaf .leaf)) (.seq (.block (.seq .leaf (.cond (.seq .leaf .leaf) .leaf))) .leaf))))) (.join [] (.seq .leaf (.cond (.seq .leaf .leaf) .leaf)) (.seq .leaf (.seq (.seq .leaf (.block (.join [(98,.leaf (.bool))] (.seq .leaf (.cond .leaf (.seq .leaf (.cond .leaf (.seq .leaf (.cond .leaf .leaf)))))) (.cond (.join [(11,.leaf (.bool))] (.draw [0,1,2,3,4,5,6,7,8,9,10,11,12,13,14,15,16,17,18,19,20,21,22,23,24,25,26,27,28,29,30,31,32,33,34]) (.seq (.draw [0,1,2,3,4,5,6,7,8,9,10,11,12,13,14,15,16,17,18,19,20]) .leaf)) .leaf)))) (.seq .leaf .leaf)))))))) func68 ⟨zaa9,zahp,zahq,zahr,trivial⟩
noncomputable def zql:FSem:=mkE (ArgT.cons tyTSketch ArgT.nil) (Ty.leaf (.int .i64)) fun a=>F.zf3 a.1
theorem zuk:Entry prog 25 zql false:=eo { P:=prog,n:=191,tab:=[(63,za6l),(64,zth),(65,zy4),(66,zy5),(67,za6t),(68,za7e)],rtL:=[(15,1),(23,1),(32,1),(42,1),(48,1),(54,6),(59,6),(65,6),(71,1),(77,1),(83,8),(89,8),(95,8),(97,8),(102,1),(108,1),(113,1),(116,10),(122,10),(129,10),(135,10),(137,1),(139,10),(147,10),(149,1),(151,10),(159,1),(166,1),(174,1),(180,1),(186,1)],locL:=[1,6,8,10] } (.seq .leaf (.seq (.seq .leaf (.cond (.seq .leaf .leaf) .leaf)) (.seq .leaf (.seq (.seq .leaf (.block (.loop [(4,.leaf (.int .i64))] (.seq (.seq .leaf (.cond .leaf .leaf)) (.join [] (.block (.seq .leaf (.cond (.seq .leaf .leaf) .leaf))) .leaf))))) (.seq (.seq .leaf (.block (.loop [(5,.leaf (.int .i64))] (.seq (.seq .leaf (.cond .leaf .leaf)) (.join [] (.block (.seq .leaf (.seq .leaf (.cond (.seq .leaf .leaf) .leaf)))) .leaf))))) (.seq (.seq .leaf (.block (.loop [(7,.leaf (.int .i64))] (.seq (.seq .leaf (.cond .leaf .leaf)) (.join [] (.block (.seq .leaf (.seq .leaf (.cond (.seq .leaf .leaf) .leaf)))) .leaf))))) (.seq (.seq .leaf (.block (.loop [(9,.leaf (.int .i64))] (.seq (.seq .leaf (.cond .leaf .leaf)) (.join [] (.block (.seq .leaf (.seq (.draw [0,1,2,3,4,5,6,7,8,9,10,11,12,13,14,15,16,17,18,19,20,21,22,23,24,25,26,27,28,29,30,31,32,33,34,35,36,37,38,39,40,41,42,43,44]) (.cond (.seq .leaf .leaf) .leaf)))) .leaf))))) (.seq (.seq .leaf (.block (.loop [(11,.leaf (.int .i64))] (.seq (.seq .leaf (.cond .leaf .leaf)) (.seq (.block (.seq (.draw [0,1,2,3,4,5,6,7]) (.cond (.seq .leaf .leaf) .leaf))) .leaf))))) (.seq (.seq .leaf (.block (.loop [(12,.leaf (.int .i64))] (.seq (.seq .leaf (.cond .leaf .leaf)) (.seq (.block (.seq (.draw [0,1,2,3,4,5,6,7,8,9,10]) (.cond (.seq .leaf .leaf) .leaf))) .leaf))))) (.seq .leaf .leaf)))))))))) func25 ⟨zagz,za04,zaa7,zaa8,zah7,zahs,trivial⟩
noncomputable def za7f:FSem:=mkE (ArgT.cons tyTConstraint (ArgT.cons (Ty.leaf (.int .i64)) (ArgT.cons (Ty.leaf (.int .i64)) ArgT.nil))) (Ty.leaf .bool) fun a=>F.znj a.1 a.2.1 a.2.2.1
theorem zaht:Entry prog 96 za7f false:=eo { P:=prog,n:=26,tab:=[],rtL:=[(7,3),(11,3),(19,3)],locL:=[3] } (.seq .leaf (.seq .leaf .leaf)) func96 trivial
noncomputable def za7g:FSem:=mkE (ArgT.cons tyTSketch ArgT.nil) (Ty.leaf .sl) fun a=>F.zjb a.1
theorem zahu:Entry prog 46 za7g false:=eo { P:=prog,n:=74,tab:=[(96,za7f)],rtL:=[(11,1),(15,1),(21,1),(26,5),(28,5),(51,5),(63,5),(70,1)],locL:=[1,5,67] } (.seq .leaf (.seq .leaf (.seq (.seq .leaf (.block (.loop [(3,.leaf (.sl)),(4,.leaf (.int .i64))] (.seq (.seq .leaf (.cond .leaf .leaf)) (.seq (.block (.seq .leaf (.seq .leaf (.seq .leaf (.block (.loop [(3,.leaf (.sl)),(7,.leaf (.int .i64))] (.seq (.seq .leaf (.cond .leaf .leaf)) (.join [(3,.leaf (.sl))] (.block (.seq .leaf (.seq (.seq .leaf (.block (.loop [(8,.leaf (.bool)),(9,.leaf (.int .i64))] (.seq (.seq .leaf (.cond .leaf .leaf)) (.join [(8,.leaf (.bool))] (.block (.draw [0,1,2,3,4,5,6,7,8,9,10,11,12,13,14])) .leaf))))) (.seq .leaf (.cond (.draw [0,1,2,3,4,6,7,5,8,9,10,11,12]) .leaf))))) .leaf)))))))) .leaf))))) (.seq .leaf .leaf)))) func46 ⟨zaht,trivial⟩
noncomputable def ztk:FSem:=mkE (ArgT.cons tyTSketch ArgT.nil) (Ty.leaf .sl) fun a=>F.zjr a.1
theorem za07:Entry prog 72 ztk false:=eo { P:=prog,n:=10,tab:=[(46,za7g)],rtL:=[(4,1)],locL:=[1] } (.seq .leaf (.seq (.draw [1,2,4,0,3,5,6,7]) .leaf)) func72 ⟨zahu,trivial⟩
noncomputable def ztl:FSem:=mkE (ArgT.cons tyTSketch ArgT.nil) (Ty.leaf .sl) fun a=>F.zfh a.1
theorem za08:Entry prog 73 ztl false:=eo { P:=prog,n:=22,tab:=[],rtL:=[(6,1),(13,1)],locL:=[1,19] } (.seq .leaf (.seq .leaf (.seq (.seq .leaf (.block (.loop [(3,.leaf (.sl)),(4,.leaf (.int .i64))] (.seq (.seq .leaf (.cond .leaf .leaf)) (.seq (.block .leaf) .leaf))))) (.seq .leaf .leaf)))) func73 trivial
noncomputable def zy9:FSem:=mkE (ArgT.cons tyTConstraint (ArgT.cons (Ty.leaf .sl) (ArgT.cons (Ty.leaf (.int .i64)) ArgT.nil))) (Ty.leaf (.int .i64)) fun a=>F.zd5 a.1 a.2.1 a.2.2.1
theorem zaac:Entry prog 204 zy9 false:=eo { P:=prog,n:=15,tab:=[],rtL:=[(8,3)],locL:=[3] } (.seq .leaf (.seq .leaf .leaf)) func204 trivial
noncomputable def zya:FSem:=mkE (ArgT.cons tyTConstraint (ArgT.cons (Ty.leaf (.int .i64)) ArgT.nil)) (Ty.leaf .bool) fun a=>F.znk a.1 a.2.1
theorem zaad:Entry prog 203 zya false:=eo { P:=prog,n:=20,tab:=[],rtL:=[(7,2),(13,2)],locL:=[2] } (.seq .leaf (.seq (.seq .leaf (.block (.loop [(5,.leaf (.int .i64))] (.seq (.seq .leaf (.cond .leaf .leaf)) (.seq (.block (.seq .leaf (.cond (.seq .leaf .leaf) .leaf))) .leaf))))) (.seq .leaf .leaf))) func203 trivial
noncomputable def za7h:FSem:=mkE (ArgT.cons tyTConstraint (ArgT.cons (Ty.leaf .sl) (ArgT.cons (Ty.leaf (.int .i64)) ArgT.nil))) (Ty.leaf .bool) fun a=>F.zlh a.1 a.2.1 a.2.2.1
theorem zahv:Entry prog 155 za7h false:=eo { P:=prog,n:=53,tab:=[(204,zy9),(203,zya)],rtL:=[(10,3),(18,3),(28,3),(41,3)],locL:=[3] } (.seq .leaf (.seq .leaf (.seq (.seq .leaf (.block (.loop [(7,.leaf (.bool)),(8,.leaf (.int .i64))] (.seq (.seq .leaf (.cond .leaf .leaf)) (.join [(7,.leaf (.bool))] (.block .leaf) .leaf))))) (.seq (.seq .leaf (.cond (.seq .leaf .leaf) .leaf)) (.seq (.seq .leaf (.block (.join [(30,.leaf (.bool))] (.seq .leaf (.cond .leaf .leaf)) (.cond (.seq (.draw [0,1,2,3,4,5,6]) .leaf) (.seq .leaf (.cond (.seq (.draw [0,1,2,3,4,5,7,8,6,9,10,11,12]) .leaf) .leaf)))))) (.seq .leaf .leaf)))))) func155 ⟨zaac,zaad,trivial⟩
noncomputable def zyb:FSem:=mkE (ArgT.cons tyTConstraint (ArgT.cons (Ty.leaf (.int .i64)) (ArgT.cons (Ty.leaf (.int .i64)) ArgT.nil))) (Ty.leaf .bool) fun a=>F.zjs a.1 a.2.1 a.2.2.1
theorem zaae:Entry prog 229 zyb false:=eo { P:=prog,n:=24,tab:=[],rtL:=[(7,3),(15,3)],locL:=[3] } (.seq .leaf (.seq .leaf .leaf)) func229 trivial
noncomputable def za7i:FSem:=mkE (ArgT.cons tyTConstraint (ArgT.cons (Ty.leaf (.int .i64)) (ArgT.cons (Ty.leaf (.int .i64)) (ArgT.cons (Ty.leaf (.int .i64)) ArgT.nil)))) (Ty.leaf (.int .i64)) fun a=>F.zg1 a.1 a.2.1 a.2.2.1 a.2.2.2.1
theorem zahw:Entry prog 228 za7i false:=eo { P:=prog,n:=27,tab:=[(229,zyb)],locL:=[4] } (.seq .leaf (.seq (.draw [0,1,3,4,2,5,6,7]) (.join [] (.seq .leaf (.cond (.seq .leaf .leaf) .leaf)) (.seq (.seq .leaf (.cond (.seq .leaf .leaf) .leaf)) (.seq .leaf .leaf))))) func228 ⟨zaae,trivial⟩
noncomputable def za7j:FSem:=mkE (ArgT.cons tyTConstraint (ArgT.cons (Ty.leaf .sl) (ArgT.cons (Ty.leaf (.int .i64)) ArgT.nil))) (Ty.leaf (.int .i64)) fun a=>F.zms a.1 a.2.1 a.2.2.1
theorem zahx:Entry prog 195 za7j false:=eo { P:=prog,n:=87,tab:=[(203,zya),(228,za7i),(229,zyb),(204,zy9)],rtL:=[(11,3),(27,3)],locL:=[3] } (.seq .leaf (.seq .leaf (.seq (.seq .leaf (.block (.join [(13,.leaf (.bool))] (.seq .leaf (.cond .leaf .leaf)) (.cond (.seq .leaf (.cond (.seq .leaf .leaf) .leaf)) (.seq .leaf (.cond (.seq .leaf (.cond (.seq .leaf .leaf) .leaf)) (.join [(20,.leaf (.bool))] (.seq .leaf (.cond .leaf (.seq .leaf (.cond .leaf .leaf)))) (.cond (.seq .leaf (.cond (.seq .leaf .leaf) .leaf)) (.seq .leaf (.cond (.seq .leaf (.cond (.seq .leaf .leaf) .leaf)) (.join [(33,.leaf (.bool))] (.seq .leaf (.cond .leaf .leaf)) (.cond (.seq .leaf .leaf) (.seq .leaf (.cond (.seq .leaf .leaf) (.seq .leaf (.cond (.seq .leaf .leaf) (.seq .leaf (.cond (.seq .leaf (.cond (.seq .leaf .leaf) .leaf)) (.seq .leaf (.cond (.seq .leaf (.cond (.seq .leaf .leaf) .leaf)) (.seq .leaf (.cond (.seq .leaf (.cond (.seq .leaf .leaf) .leaf)) (.seq .leaf (.cond (.seq (.draw [0,1,3,5,6,8,2,4,7,9,10]) (.cond (.seq .leaf .leaf) .leaf)) .leaf)))))))))))))))))))))))) (.seq .leaf .leaf)))) func195 ⟨zaad,zahw,zaae,zaac,trivial⟩
noncomputable def za7k:FSem:=mkE (ArgT.cons tyTConstraint (ArgT.cons (Ty.leaf .sl) (ArgT.cons (Ty.leaf (.int .i64)) ArgT.nil))) (Ty.leaf (.int .i64)) fun a=>F.zmr a.1 a.2.1 a.2.2.1
theorem zahy:Entry prog 142 za7k false:=eo { P:=prog,n:=16,tab:=[(195,za7j)],locL:=[3] } (.seq .leaf (.seq .leaf (.seq .leaf .leaf))) func142 ⟨zahx,trivial⟩
noncomputable def za7l:FSem:=mkE (ArgT.cons tyTRat (ArgT.cons (Ty.leaf (.int .i64)) ArgT.nil)) (Ty.leaf .bool) fun a=>F.zjp a.1 a.2.1
theorem zahz:Entry prog 111 za7l false:=eo { P:=prog,n:=23,tab:=[(64,zth)],rtL:=[(5,2),(6,2),(12,2),(13,2)],locL:=[2] } (.seq .leaf (.seq .leaf .leaf)) func111 ⟨za04,trivial⟩
noncomputable def zx2:ArgT (TExpr×Int×Unit):=(ArgT.cons tyTExpr (ArgT.cons (Ty.leaf (.int .i64)) ArgT.nil))
noncomputable def zx7:Ty Int:=(Ty.leaf (.int .i64))
noncomputable def za7m:FSem:=mkE zx2 zx7 fun a=>F.zmq a.1 a.2.1
noncomputable def zaek (n:Nat):Cfg:={ P:=prog,n:=59,tab:=[(112,mkE zx2 zx7 (fun a=>F.zg0 n a.1 a.2.1))],rtL:=[(10,2),(16,2),(22,2),(23,2),(24,2),(30,2),(31,2),(32,2),(38,2),(49,2)],locL:=[2] }
theorem zaas:∃fn,prog.funcs[112]?=some fn∧fn.body.isNone=false∧(fn.name == "runtime.NumGoroutine")=false:=⟨_,func112,rfl,by decide⟩
theorem zaay:∀n a K D w,Sub D w→F.zg0 n a.1 a.2.1 K D→Calls prog 112 (zx2.up a).toArray w (Post (fun v h=>zx7.dn v fun r=>K r h) D w)
 | 0,_,_,_,_,_,h=>h.elim
 | n+1,a,K,D,w,hs,h=>zjh (C:=zaek n) (F:=fun a=>F.zg0 (n+1) a.1 a.2.1) (fn:=f112) (c:=bd f112) (an:=(.seq .leaf (.join [] (.seq .leaf (.cond (.seq .leaf .leaf) .leaf)) (.seq .leaf (.seq (.seq .leaf (.block (.loop [(5,.leaf (.int .i64)),(6,.leaf (.int .i64))] (.join [] (.seq .leaf (.cond .leaf .leaf)) (.seq (.block .leaf) .leaf))))) (.seq .leaf .leaf)))))) ⟨(zdf zaas (zaay n)),trivial⟩ trivial func112 rfl rfl (fun _=>rfl) (by intro a K D; kernel_rfl) a K D w hs h
theorem zai0:Entry prog 112 za7m false:=zdf zaas (fun a K D w hs h=>h.elim fun m h=>zaay m a K D w hs h)
noncomputable def za7n:FSem:=mkE (ArgT.cons tyTSketch ArgT.nil) (Ty.leaf .bool) fun a=>F.zlf a.1
theorem zai1:Entry prog 55 za7n false:=eo { P:=prog,n:=139,tab:=[(111,za7l),(112,za7m)],rtL:=[(9,1),(14,1),(20,1),(26,1),(32,1),(38,1),(44,1),(50,1),(59,1),(69,1),(75,1),(84,1),(90,1),(98,1),(104,1),(109,7),(114,7),(120,7),(126,7),(132,7)],locL:=[1,7] } (.seq .leaf (.join [] (.seq .leaf (.cond (.seq .leaf .leaf) .leaf)) (.seq (.seq .leaf (.block (.loop [(3,.leaf (.int .i64))] (.seq (.seq .leaf (.cond .leaf .leaf)) (.join [] (.block (.seq .leaf (.cond (.seq .leaf .leaf) .leaf))) .leaf))))) (.seq (.seq .leaf (.block (.loop [(4,.leaf (.int .i64))] (.seq (.seq .leaf (.cond .leaf .leaf)) (.seq (.block (.seq .leaf (.cond (.seq .leaf .leaf) .leaf))) .leaf))))) (.seq (.seq .leaf (.block (.loop [(5,.leaf (.int .i64))] (.seq (.seq .leaf (.cond .leaf .leaf)) (.seq (.block (.seq .leaf (.cond (.seq .leaf .leaf) .leaf))) .leaf))))) (.seq (.seq .leaf (.block (.loop [(6,.leaf (.int .i64))] (.seq (.seq .leaf (.cond .leaf .leaf)) (.seq (.block (.seq .leaf (.join [] (.seq .leaf (.cond (.seq .leaf .leaf) .leaf)) (.seq .leaf (.block (.loop [(8,.leaf (.int .i64))] (.seq (.seq .leaf (.cond .leaf .leaf)) (.seq (.block (.seq .leaf (.cond (.seq .leaf .leaf) .leaf))) .leaf)))))))) .leaf))))) (.seq .leaf .leaf))))))) func55 ⟨zahz,zai0,trivial⟩
end
end Den
end

section
set_option maxRecDepth 100000
namespace Den
open Go Go.Proofs.Tryz
noncomputable section
noncomputable def za7o:FSem:=mkE (ArgT.cons (Ty.leaf .ptr) (ArgT.cons (Ty.leaf (.int .i64)) ArgT.nil)) (Ty.leaf .bool) fun a=>F.y_henneberg_peeler_exists a.1 a.2.1
theorem zai2:Entry prog 70 za7o false:=eo { P:=prog,n:=32,tab:=[] } (.seq .leaf (.seq .leaf .leaf)) func70 trivial
noncomputable def za7p:FSem:=mkE (ArgT.cons tyTSketch (ArgT.cons (Ty.leaf (.int .i64)) (ArgT.cons (Ty.leaf .sl) ArgT.nil))) (Ty.leaf .bool) fun a=>F.zff a.1 a.2.1 a.2.2.1
theorem zai3:Entry prog 28 za7p false:=eo { P:=prog,n:=22,tab:=[(56,zov),(57,zxt),(70,za7o),(71,zxv)],locL:=[3] } (.seq .leaf (.seq (.seq .leaf (.cond (.seq .leaf .leaf) .leaf)) (.seq .leaf (.seq .leaf .leaf)))) func28 ⟨zr5,za9w,zai2,za9y,trivial⟩
noncomputable def za7q:FSem:=mkE (ArgT.cons tyTSketch ArgT.nil) (Ty.leaf .sl) fun a=>F.zjv a.1
theorem zai4:Entry prog 107 za7q false:=eo { P:=prog,n:=20,tab:=[],rtL:=[(6,1),(14,5)],locL:=[1,5,16] } (.seq .leaf (.seq .leaf (.seq (.seq .leaf (.block (.loop [(3,.leaf (.sl)),(9,.leaf (.int .i64))] (.seq .leaf (.seq (.cond .leaf .leaf) (.seq (.block (.seq .leaf .leaf)) .leaf)))))) (.seq .leaf .leaf)))) func107 trivial
noncomputable def za7r:FSem:=mkE (ArgT.cons (Ty.leaf .sl) ArgT.nil) (Ty.leaf .sl) fun a=>F.zbs a.1
theorem zai5:Entry prog 167 za7r false:=eo { P:=prog,n:=8,tab:=[] } (.seq .leaf (.seq (.seq .leaf (.cond (.seq .leaf .leaf) .leaf)) (.seq .leaf .leaf))) func167 trivial
noncomputable def za7s:FSem:=mkE (ArgT.cons tyTSketch ArgT.nil) (Ty.leaf .sl) fun a=>F.zpi a.1
theorem zai6:Entry prog 106 za7s false:=eo { P:=prog,n:=9,tab:=[(167,za7r),(133,zxr)],rtL:=[(3,1)],locL:=[1] } (.seq .leaf (.seq (.draw [0,1,3,2,4,5,6]) .leaf)) func106 ⟨zai5,za9u,trivial⟩
noncomputable def za7t:FSem:=mkE (ArgT.cons tyTConstraint (ArgT.cons (Ty.leaf .sl) ArgT.nil)) (Ty.leaf .sl) fun a=>F.zmc a.1 a.2.1
theorem zai7:Entry prog 108 za7t false:=eo { P:=prog,n:=38,tab:=[(134,zxs)],rtL:=[(8,2),(11,2),(23,2)],locL:=[2,21,34] } (.seq .leaf (.seq .leaf (.seq (.seq .leaf (.block (.loop [(5,.leaf (.sl)),(14,.leaf (.int .i64))] (.seq .leaf (.seq (.cond .leaf .leaf) (.join [(5,.leaf (.sl))] (.block (.seq .leaf (.seq .leaf (.seq .leaf (.block (.join [(25,.leaf (.bool))] (.seq .leaf (.cond .leaf (.seq .leaf (.cond .leaf .leaf)))) (.cond .leaf .leaf))))))) .leaf)))))) (.seq .leaf .leaf)))) func108 ⟨za9v,trivial⟩
noncomputable def za7u:FSem:=mkE (ArgT.cons (Ty.leaf (.int .i64)) (ArgT.cons (Ty.leaf .ptr) ArgT.nil)) (Ty.leaf .bool) fun a=>F.zm5 a.1 a.2.1
theorem zai8:Entry prog 156 za7u false:=eo { P:=prog,n:=8,tab:=[(98,zit)] } (.seq .leaf (.seq .leaf .leaf)) func156 ⟨zki,trivial⟩
noncomputable def za7v:FSem:=mkE (ArgT.cons (Ty.leaf .sl) (ArgT.fnc 156 1 ArgT.nil)) (Ty.leaf (.int .i64)) fun a=>F.zcq a.1 a.2.1
theorem zai9:Entry prog 135 za7v false:=eo { P:=prog,n:=19,tab:=[(156,za7u)] } (.seq .leaf (.seq (.seq .leaf (.block (.loop [(8,.leaf (.int .i64))] (.seq .leaf (.seq (.cond .leaf .leaf) (.seq (.block (.seq .leaf (.seq .leaf (.cond (.seq .leaf .leaf) .leaf)))) .leaf)))))) (.seq .leaf .leaf))) func135 ⟨zai8,trivial⟩
noncomputable def za7w:FSem:=mkE (ArgT.cons (Ty.leaf .sl) (ArgT.fnc 156 1 ArgT.nil)) (Ty.leaf .bool) fun a=>F.zcl a.1 a.2.1
theorem zaia:Entry prog 102 za7w false:=eo { P:=prog,n:=9,tab:=[(135,za7v)] } (.seq .leaf (.seq .leaf .leaf)) func102 ⟨zai9,trivial⟩
noncomputable def za7x:FSem:=mkE (ArgT.cons tyTSketch (ArgT.cons (Ty.leaf .sl) ArgT.nil)) (Ty.leaf .sl) fun a=>F.zl4 a.1 a.2.1
theorem zaib:Entry prog 77 za7x false:=eo { P:=prog,n:=33,tab:=[(107,za7q),(106,za7s),(108,za7t),(102,za7w)],locL:=[2,8,29] } (.seq .leaf (.seq .leaf (.seq .leaf (.seq (.seq .leaf (.block (.loop [(5,.leaf (.sl)),(15,.leaf (.int .i64))] (.seq .leaf (.seq (.cond .leaf .leaf) (.join [(5,.leaf (.sl))] (.block (.seq .leaf (.seq .leaf (.seq .leaf (.cond .leaf .leaf))))) .leaf)))))) (.seq .leaf .leaf))))) func77 ⟨zai4,zai6,zai7,zaia,trivial⟩
noncomputable def ztm:FSem:=mkE (ArgT.cons tyTSketch ArgT.nil) (Ty.tup (.cons (Ty.leaf .sl) (.cons (Ty.leaf .sl) .nil)) (fun x=>(x.1,x.2,())) (fun y=>(y.1,y.2.1)) (fun _=>rfl) (fun _=>rfl)) fun a=>F.zht a.1
theorem za09:Entry prog 34 ztm false:=eo { P:=prog,n:=21,tab:=[(56,zov),(19,zxx),(77,za7x)],locL:=[1] } (.seq .leaf (.seq (.seq .leaf (.cond (.seq .leaf .leaf) .leaf)) (.seq .leaf (.seq (.seq .leaf (.cond (.seq .leaf .leaf) .leaf)) (.seq .leaf .leaf))))) func34 ⟨zr5,zaa0,zaib,trivial⟩
noncomputable def zyc:FSem:=mkE (ArgT.cons tyTSketch ArgT.nil) (Ty.leaf .sl) fun a=>F.zo7 a.1
theorem zaaf:Entry prog 157 zyc false:=eo { P:=prog,n:=30,tab:=[],rtL:=[(7,1),(18,1)],locL:=[1,15,27] } (.seq .leaf (.seq .leaf (.seq (.seq .leaf (.block (.loop [(3,.leaf (.sl)),(4,.leaf (.int .i64))] (.seq (.seq .leaf (.cond .leaf .leaf)) (.seq (.block .leaf) .leaf))))) (.seq (.seq .leaf (.block (.loop [(3,.leaf (.sl)),(5,.leaf (.int .i64))] (.seq (.seq .leaf (.cond .leaf .leaf)) (.seq (.block .leaf) .leaf))))) (.seq .leaf .leaf))))) func157 trivial
noncomputable def zyd:FSem:=mkE (ArgT.cons tyTConstraint (ArgT.cons (Ty.leaf .sl) ArgT.nil)) (Ty.leaf .sl) fun a=>F.zli a.1 a.2.1
theorem zaag:Entry prog 80 zyd false:=eo { P:=prog,n:=52,tab:=[],rtL:=[(8,2),(12,2),(19,2),(27,2),(31,2),(36,2),(42,2)],locL:=[2,25,49] } (.seq .leaf (.seq .leaf (.seq (.seq .leaf (.block (.loop [(5,.leaf (.sl)),(6,.leaf (.int .i64))] (.seq (.seq .leaf (.cond .leaf .leaf)) (.join [(5,.leaf (.sl))] (.block (.seq .leaf (.seq .leaf (.cond .leaf .leaf)))) .leaf))))) (.seq .leaf .leaf)))) func80 trivial
noncomputable def zye:FSem:=mkE (ArgT.cons (Ty.leaf .sl) (ArgT.cons (Ty.leaf (.int .i64)) ArgT.nil)) (Ty.leaf .bool) fun a=>F.zpv a.1 a.2.1
theorem zaah:Entry prog 83 zye false:=eo { P:=prog,n:=18,tab:=[] } (.seq .leaf (.seq (.seq .leaf (.block (.loop [(5,.leaf (.int .i64))] (.seq (.seq .leaf (.cond .leaf .leaf)) (.seq (.block (.seq .leaf (.cond (.seq .leaf .leaf) .leaf))) .leaf))))) (.seq .leaf .leaf))) func83 trivial
noncomputable def zyf:FSem:=mkE (ArgT.cons (Ty.leaf .sl) (ArgT.cons (Ty.leaf .sl) ArgT.nil)) (Ty.leaf .bool) fun a=>F.zia a.1 a.2.1
theorem zaai:Entry prog 79 zyf false:=eo { P:=prog,n:=19,tab:=[(83,zye)] } (.seq .leaf (.seq (.seq .leaf (.block (.loop [(5,.leaf (.int .i64))] (.seq (.seq .leaf (.cond .leaf .leaf)) (.seq (.block (.seq .leaf (.cond (.seq .leaf .leaf) .leaf))) .leaf))))) (.seq .leaf .leaf))) func79 ⟨zaah,trivial⟩
noncomputable def za7y:FSem:=mkE (ArgT.cons tyTSketch (ArgT.cons (Ty.leaf (.int .i64)) (ArgT.cons (Ty.leaf .sl) ArgT.nil))) (Ty.leaf .sl) fun a=>F.zhl a.1 a.2.1 a.2.2.1
theorem zaic:Entry prog 164 za7y false:=eo { P:=prog,n:=39,tab:=[(72,ztk),(73,ztl),(80,zyd),(83,zye),(79,zyf)],locL:=[3,36] } (.seq .leaf (.seq .leaf (.seq .leaf (.seq (.seq .leaf (.block (.loop [(7,.leaf (.sl)),(9,.leaf (.int .i64))] (.seq (.seq .leaf (.cond .leaf .leaf)) (.join [(7,.leaf (.sl))] (.block (.seq (.draw [0,1,2,3,4,5,6,7]) (.seq .leaf (.cond .leaf .leaf)))) .leaf))))) (.seq .leaf .leaf))))) func164 ⟨za07,za08,zaag,zaah,zaai,trivial⟩
noncomputable def zyg:FSem:=mkE (ArgT.cons tyTConstraint ArgT.nil) (Ty.leaf (.int .i64)) fun a=>F.zhm a.1
theorem zaaj:Entry prog 165 zyg false:=eo { P:=prog,n:=13,tab:=[(149,zy6)],rtL:=[(6,1),(11,3)],locL:=[1,3] } (.seq .leaf (.seq .leaf (.seq .leaf .leaf))) func165 ⟨zaa9,trivial⟩
noncomputable def za7z:FSem:=mkE (ArgT.cons tyTSketch (ArgT.cons tyTConstraint (ArgT.cons (Ty.leaf (.int .i64)) ArgT.nil))) (Ty.leaf .bool) fun a=>F.zlj a.1 a.2.1 a.2.2.1
theorem zaid:Entry prog 166 za7z false:=eo { P:=prog,n:=33,tab:=[(73,ztl),(155,za7h),(142,za7k),(165,zyg)],locL:=[3,4] } (.seq .leaf (.seq .leaf (.seq (.seq .leaf (.cond (.seq .leaf .leaf) .leaf)) (.seq .leaf (.seq (.seq .leaf (.cond (.seq .leaf .leaf) .leaf)) (.seq .leaf .leaf)))))) func166 ⟨za08,zahv,zahy,zaaj,trivial⟩
noncomputable def zyh:FSem:=mkE (ArgT.cons tyTSketch (ArgT.cons (Ty.leaf (.int .i64)) (ArgT.cons (Ty.leaf .sl) ArgT.nil))) (Ty.leaf .sl) fun a=>F.zdb a.1 a.2.1 a.2.2.1
theorem zaak:Entry prog 105 zyh false:=eo { P:=prog,n:=68,tab:=[(72,ztk),(164,za7y),(165,zyg),(166,za7z)],locL:=[3,50] } (.seq .leaf (.seq .leaf (.seq .leaf (.seq .leaf (.seq .leaf (.seq (.seq .leaf (.block (.loop [(9,.leaf (.int .i64)),(10,.leaf (.sl)),(11,.leaf (.int .i64))] (.seq (.seq .leaf (.cond .leaf .leaf)) (.join [(9,.leaf (.int .i64)),(10,.leaf (.sl))] (.block (.seq .leaf (.seq (.draw [0,1,2,3,4,5,6,7,8,9,10]) (.cond .leaf .leaf)))) .leaf))))) (.seq (.seq .leaf (.cond (.seq .leaf .leaf) .leaf)) (.seq .leaf .leaf)))))))) func105 ⟨za07,zaic,zaaj,zaid,trivial⟩
noncomputable def za80:FSem:=mkE (ArgT.cons (Ty.leaf .sl) (ArgT.cons (Ty.leaf (.int .i64)) ArgT.nil)) (Ty.leaf .sl) fun a=>F.zjc a.1 a.2.1
theorem zaie:Entry prog 84 za80 false:=eo { P:=prog,n:=27,tab:=[],locL:=[24] } (.seq .leaf (.seq .leaf (.seq (.seq .leaf (.block (.loop [(5,.leaf (.sl)),(6,.leaf (.int .i64))] (.seq (.seq .leaf (.cond .leaf .leaf)) (.join [(5,.leaf (.sl))] (.block (.seq .leaf (.cond .leaf .leaf))) .leaf))))) (.seq .leaf .leaf)))) func84 trivial
noncomputable def za81:FSem:=mkE (ArgT.cons tyTSketch ArgT.nil) (Ty.leaf .sl) fun a=>F.zmu a.1
theorem zaif:Entry prog 78 za81 false:=eo { P:=prog,n:=35,tab:=[(25,zql),(157,zyc),(105,zyh),(84,za80)],locL:=[1] } (.seq .leaf (.seq (.seq .leaf (.cond (.seq .leaf .leaf) .leaf)) (.seq .leaf (.seq (.seq .leaf (.block (.loop [(3,.leaf (.sl)),(4,.leaf (.int .i64))] (.seq (.seq .leaf (.cond .leaf .leaf)) (.join [(3,.leaf (.sl)),(4,.leaf (.int .i64))] (.block (.seq (.draw [0,1,2,3,4,5,6,7,8]) (.cond (.seq .leaf .leaf) .leaf))) .leaf))))) (.seq .leaf .leaf))))) func78 ⟨zuk,zaaf,zaak,zaie,trivial⟩
noncomputable def za82:FSem:=mkE (ArgT.cons tyTSketch ArgT.nil) (Ty.tup (.cons (Ty.leaf .sl) (.cons (Ty.leaf .sl) .nil)) (fun x=>(x.1,x.2,())) (fun y=>(y.1,y.2.1)) (fun _=>rfl) (fun _=>rfl)) fun a=>F.zmt a.1
theorem zaig:Entry prog 35 za82 false:=eo { P:=prog,n:=36,tab:=[(78,za81),(72,ztk),(73,ztl),(80,zyd),(79,zyf)],locL:=[1,32] } (.seq .leaf (.seq .leaf (.seq .leaf (.seq (.seq .leaf (.cond (.seq .leaf .leaf) .leaf)) (.seq .leaf (.seq (.seq .leaf (.block (.loop [(5,.leaf (.sl)),(7,.leaf (.int .i64))] (.seq (.seq .leaf (.cond .leaf .leaf)) (.join [(5,.leaf (.sl))] (.block (.seq (.draw [0,1,2,3,4,7,5,6,8]) (.cond .leaf .leaf))) .leaf))))) (.seq .leaf .leaf))))))) func35 ⟨zaif,za07,za08,zaag,zaai,trivial⟩
noncomputable def za83:FSem:=mkE (ArgT.cons (Ty.leaf .sl) (ArgT.cons (Ty.leaf .sl) ArgT.nil)) (Ty.leaf .bool) fun a=>F.zpu a.1 a.2.1
theorem zaih:Entry prog 81 za83 false:=eo { P:=prog,n:=26,tab:=[] } (.seq .leaf (.seq (.seq .leaf (.cond (.seq .leaf .leaf) .leaf)) (.seq (.seq .leaf (.block (.loop [(5,.leaf (.int .i64))] (.seq (.seq .leaf (.cond .leaf .leaf)) (.seq (.block (.seq (.draw [0,1,2,3,4,5,6,7,8]) (.cond (.seq .leaf .leaf) .leaf))) .leaf))))) (.seq .leaf .leaf)))) func81 trivial
noncomputable def zn8:FSem:=mkE (ArgT.cons (Ty.leaf .sl) (ArgT.cons (Ty.leaf .sl) ArgT.nil)) (Ty.leaf .bool) fun a=>F.zfn a.1 a.2.1
theorem zr4:Entry prog 36 zn8 false:=eo { P:=prog,n:=8,tab:=[(81,za83)] } (.seq .leaf (.seq .leaf .leaf)) func36 ⟨zaih,trivial⟩
noncomputable def zyi:FSem:=mkE (ArgT.cons tyTSketch ArgT.nil) (Ty.leaf .bool) fun a=>F.zej a.1
theorem zaal:Entry prog 37 zyi false:=eo { P:=prog,n:=16,tab:=[(56,zov),(19,zxx)],locL:=[1] } (.seq .leaf (.seq (.seq .leaf (.cond (.seq .leaf .leaf) .leaf)) (.seq .leaf (.seq .leaf .leaf)))) func37 ⟨zr5,zaa0,trivial⟩
noncomputable def zq0:FSem:=mkE ArgT.nil tyTExpr fun a=>F.ziu
theorem zwy:Entry prog 43 zq0 false:=eo { P:=prog,n:=3,tab:=[(86,ztj)],locL:=[0] } (.seq .leaf (.seq .leaf .leaf)) func43 ⟨za06,trivial⟩
noncomputable def za84:FSem:=mkE (ArgT.cons tyTGraph (ArgT.cons tyTExpr ArgT.nil)) tyTSketch fun a=>F.zke a.1 a.2.1
theorem zaii:Entry prog 42 za84 false:=eo { P:=prog,n:=53,tab:=[],rtL:=[(9,2),(14,5),(16,3),(18,3),(23,5),(25,2),(31,5),(33,2),(39,2),(51,5)],locL:=[2,3,4,5,21,49] } (.seq .leaf (.seq .leaf (.seq (.seq .leaf (.block (.loop [(5,.box [.sl,.sl,.sl,.sl,.sl,.sl]),(6,.leaf (.int .i64))] (.seq (.seq .leaf (.cond .leaf .leaf)) (.seq (.block .leaf) .leaf))))) (.seq (.seq .leaf (.block (.loop [(5,.box [.sl,.sl,.sl,.sl,.sl,.sl]),(7,.leaf (.int .i64))] (.seq (.seq .leaf (.cond .leaf .leaf)) (.seq (.block (.draw [0,1,2,3,4,5,6,7,8,9,10,11,12,13,15,14,16,17,18,19,20,21])) .leaf))))) (.seq .leaf .leaf))))) func42 trivial
noncomputable def za85:FSem:=mkE (ArgT.cons (Ty.leaf (.int .i64)) (ArgT.cons (Ty.leaf (.int .i64)) ArgT.nil)) (Ty.leaf .bool) fun a=>F.zlt a.1 a.2.1
theorem zaij:Entry prog 158 za85 false:=eo { P:=prog,n:=12,tab:=[] } (.seq .leaf (.seq .leaf .leaf)) func158 trivial
noncomputable def za86:FSem:=mkE (ArgT.cons (Ty.leaf .sl) ArgT.nil) (Ty.leaf (.int .i64)) fun a=>F.zpg a.1
theorem zaik:Entry prog 205 za86 false:=eo { P:=prog,n:=18,tab:=[] } (.seq .leaf (.seq .leaf (.seq (.seq .leaf (.block (.loop [(8,.leaf (.int .i64))] (.seq .leaf (.seq (.cond .leaf .leaf) (.seq (.block (.seq .leaf (.seq .leaf (.cond (.seq .leaf .leaf) .leaf)))) .leaf)))))) (.seq .leaf .leaf)))) func205 trivial
noncomputable def za87:FSem:=mkE (ArgT.cons za0d (ArgT.cons za0d ArgT.nil)) (Ty.leaf (.int .i64)) fun a=>F.zj4 a.1 a.2.1
theorem zail:Entry prog 159 za87 false:=eo { P:=prog,n:=17,tab:=[(163,e_x13),(205,za86)],rtL:=[(5,2),(7,3),(10,2),(12,3)],locL:=[2,3] } (.seq .leaf (.seq (.draw [0,1,2,3,5,6,7,8,4,9,10,11,12]) .leaf)) func159 ⟨t_x13,zaik,trivial⟩
end
end Den
end

section
set_option maxRecDepth 100000
namespace Den
open Go Go.Proofs.Tryz
noncomputable section
noncomputable def za88:FSem:=mkE (ArgT.cons tyTGraph ArgT.nil) (Ty.leaf .bool) fun a=>F.zl6 a.1
theorem zaim:Entry prog 82 za88 false:=eo { P:=prog,n:=58,tab:=[(158,za85),(159,za87)],rtL:=[(5,1),(9,1),(13,1),(21,1),(23,4),(28,1),(30,4),(36,4),(38,4),(46,1)],locL:=[1,4] } (.seq .leaf (.join [] (.seq .leaf (.cond (.seq .leaf .leaf) .leaf)) (.seq (.seq .leaf (.block (.loop [(16,.leaf (.int .i64))] (.seq .leaf (.seq (.cond .leaf .leaf) (.join [] (.block (.seq .leaf (.seq (.draw [0,1,2,3,4,5,6,7,8,9,10,11,12,13,14,15,16,17,18,19,20,21,22,23,24,25,26,27,28,29,30,31,32,33,34,35]) (.cond (.seq .leaf .leaf) .leaf)))) .leaf)))))) (.seq .leaf .leaf)))) func82 ⟨zaij,zail,trivial⟩
noncomputable def za89:FSem:=mkE (ArgT.cons tyTGraph ArgT.nil) (Ty.leaf .sl) fun a=>F.zju a.1
theorem zain:Entry prog 39 za89 false:=eo { P:=prog,n:=94,tab:=[(82,za88)],rtL:=[(14,1),(18,1),(21,1),(29,7),(36,7),(43,7),(50,7)],locL:=[1,7,90] } (.seq .leaf (.seq (.seq .leaf (.cond (.seq .leaf .leaf) .leaf)) (.seq .leaf (.seq (.seq .leaf (.block (.loop [(4,.leaf (.bool))] (.seq (.seq .leaf (.cond .leaf .leaf)) (.block (.seq .leaf (.seq .leaf (.seq (.seq .leaf (.block (.loop [(24,.leaf (.int .i64))] (.seq .leaf (.seq (.cond .leaf .leaf) (.join [] (.block (.seq .leaf (.seq .leaf (.cond (.seq .leaf .leaf) .leaf)))) .leaf)))))) (.seq .leaf (.block (.loop [(4,.leaf (.bool)),(59,.leaf (.int .i64))] (.seq .leaf (.seq (.cond .leaf .leaf) (.join [(4,.leaf (.bool))] (.block (.seq .leaf (.seq .leaf (.cond .leaf .leaf)))) .leaf)))))))))))))) (.seq .leaf (.seq (.seq .leaf (.block (.loop [(9,.leaf (.sl)),(80,.leaf (.int .i64))] (.seq .leaf (.seq (.cond .leaf .leaf) (.join [(9,.leaf (.sl))] (.block (.seq .leaf (.seq .leaf (.cond .leaf .leaf)))) .leaf)))))) (.seq .leaf .leaf))))))) func39 ⟨zaim,trivial⟩
noncomputable def zj0:FSem:=mkE ArgT.nil (Ty.leaf .bool) fun a=>F.zc4
theorem zm7:Entry prog 32 zj0 false:=eo { P:=prog,n:=51,tab:=[(43,zq0),(42,za84),(34,ztm),(36,zn8),(37,zyi),(39,za89)],locL:=[1,2] } (.seq .leaf (.seq .leaf (.seq .leaf (.seq (.draw [0,1,2,3,4,5,6,7,8]) (.seq (.draw [0,1,2,3,4,5,6,7,8,9,10,11,12,13,14,15,16,17,18,19,20,21,22,23,24,25,26]) .leaf))))) func32 ⟨zwy,zaii,za09,zr4,zaal,zain,trivial⟩
noncomputable def zj1:FSem:=mkE (ArgT.cons tyTSketch ArgT.nil) (Ty.leaf .bool) fun a=>F.zh9 a.1
theorem zm8:Entry prog 33 zj1 false:=eo { P:=prog,n:=23,tab:=[(55,za7n)],rtL:=[(6,1),(12,1),(18,1)],locL:=[1] } (.seq .leaf (.seq .leaf .leaf)) func33 ⟨zai1,trivial⟩
noncomputable def zro:FSem:=mkE (ArgT.cons tyTSketch ArgT.nil) (Ty.leaf .bool) fun a=>F.zjz a.1
theorem zab5:Entry prog 9 zro false:=eo { P:=prog,n:=46,tab:=[(34,ztm),(35,za82),(36,zn8),(37,zyi),(25,zql),(32,zj0),(33,zj1)],locL:=[1] } (.seq .leaf (.join [] (.seq .leaf (.cond (.seq .leaf .leaf) .leaf)) (.seq .leaf (.seq .leaf (.seq (.draw [0,1,2,3,4,5,6,7,8,9,11,10,12,13,14,15,16,17,18,19,20,21]) .leaf))))) func9 ⟨za09,zaig,zr4,zaal,zuk,zm7,zm8,trivial⟩
noncomputable def zq9:FSem:=mkE (ArgT.cons tyTSketch (ArgT.cons (Ty.leaf (.int .u8)) ArgT.nil)) (Ty.leaf .bool) fun a=>F.zrq a.1 a.2.1
theorem za4o:Entry prog 10 zq9 false:=eo { P:=prog,n:=93,tab:=[(34,ztm),(32,zj0),(33,zj1),(25,zql)],rtL:=[(29,2),(35,2),(44,2),(49,2),(54,2),(60,5)],locL:=[2,5] } (.seq .leaf (.join [] (.seq .leaf (.cond (.seq .leaf .leaf) .leaf)) (.seq .leaf (.seq .leaf (.seq (.draw [1,2,3,4,6,7,8,9,10,0,5,11,12,13]) (.seq .leaf (.seq .leaf (.seq (.seq .leaf (.block (.loop [(73,.leaf (.int .i64))] (.seq .leaf (.seq (.cond .leaf .leaf) (.seq (.block (.seq .leaf (.seq .leaf (.seq (.seq .leaf (.block (.loop [(13,.leaf (.bool)),(79,.leaf (.int .i64))] (.seq .leaf (.seq (.cond .leaf .leaf) (.join [(13,.leaf (.bool))] (.block (.seq .leaf .leaf)) .leaf)))))) (.seq .leaf (.cond (.seq .leaf .leaf) .leaf)))))) .leaf)))))) (.seq .leaf .leaf))))))))) func10 ⟨za09,zm7,zm8,zuk,trivial⟩
noncomputable def za8a:FSem:=mkE (ArgT.cons (Ty.leaf (.int .i64)) (ArgT.cons (Ty.leaf (.int .i64)) ArgT.nil)) (Ty.leaf (.int .i64)) fun a=>F.zjw a.1 a.2.1
theorem zaio:Entry prog 99 za8a false:=eo { P:=prog,n:=21,tab:=[(163,e_x13)] } (.seq .leaf (.seq (.seq .leaf (.cond (.seq .leaf .leaf) .leaf)) (.seq (.seq .leaf (.cond (.seq .leaf .leaf) .leaf)) (.seq .leaf .leaf)))) func99 ⟨t_x13,trivial⟩
noncomputable def zyj:FSem:=mkE (ArgT.cons (Ty.leaf (.int .i64)) (ArgT.cons (Ty.leaf .ptr) ArgT.nil)) (Ty.leaf .bool) fun a=>F.zg4 a.1 a.2.1
theorem zaam:Entry prog 101 zyj false:=eo { P:=prog,n:=7,tab:=[(98,zit)] } (.seq .leaf (.seq .leaf .leaf)) func101 ⟨zki,trivial⟩
noncomputable def za8b:FSem:=mkE (ArgT.cons (Ty.leaf .sl) (ArgT.fnc 101 1 ArgT.nil)) (Ty.leaf (.int .i64)) fun a=>F.zcv a.1 a.2.1
theorem zaip:Entry prog 135 za8b false:=eo { P:=prog,n:=19,tab:=[(101,zyj)] } (.seq .leaf (.seq (.seq .leaf (.block (.loop [(8,.leaf (.int .i64))] (.seq .leaf (.seq (.cond .leaf .leaf) (.seq (.block (.seq .leaf (.seq .leaf (.cond (.seq .leaf .leaf) .leaf)))) .leaf)))))) (.seq .leaf .leaf))) func135 ⟨zaam,trivial⟩
noncomputable def za8c:FSem:=mkM (ArgT.cons (Ty.leaf .sl) (ArgT.fnc 101 1 ArgT.nil)) (Ty.leaf .sl) fun a=>F.zc1 a.1 a.2.1
theorem zaiq:Entry prog 100 za8c true:=eoM { P:=prog,n:=42,tab:=[(135,za8b),(101,zyj)] } (.seq .leaf (.seq .leaf (.seq (.seq .leaf (.cond (.seq .leaf .leaf) .leaf)) (.seq (.seq .leaf (.block (.loop [(5,.leaf (.int .i64)),(6,.leaf (.int .i64))] (.seq (.seq .leaf (.cond .leaf .leaf)) (.join [(5,.leaf (.int .i64))] (.block (.seq .leaf (.seq .leaf (.cond (.seq .leaf .leaf) .leaf)))) .leaf))))) (.seq .leaf (.seq .leaf .leaf)))))) func100 ⟨zaip,zaam,trivial⟩
noncomputable def za8d:FSem:=mkE (ArgT.cons (Ty.leaf (.int .i64)) (ArgT.cons (Ty.leaf .ptr) (ArgT.cons (Ty.leaf .ptr) ArgT.nil))) (Ty.leaf .bool) fun a=>F.zn7 a.1 a.2.1 a.2.2.1
theorem zair:Entry prog 103 za8d false:=eo { P:=prog,n:=9,tab:=[(28,za7p)] } (.seq .leaf (.seq .leaf .leaf)) func103 ⟨zai3,trivial⟩
noncomputable def za8e:FSem:=mkE (ArgT.cons (Ty.leaf .sl) (ArgT.fnc 103 2 ArgT.nil)) (Ty.leaf (.int .i64)) fun a=>F.zcw a.1 a.2.1
theorem zais:Entry prog 135 za8e false:=eo { P:=prog,n:=19,tab:=[(103,za8d)] } (.seq .leaf (.seq (.seq .leaf (.block (.loop [(8,.leaf (.int .i64))] (.seq .leaf (.seq (.cond .leaf .leaf) (.seq (.block (.seq .leaf (.seq .leaf (.cond (.seq .leaf .leaf) .leaf)))) .leaf)))))) (.seq .leaf .leaf))) func135 ⟨zair,trivial⟩
noncomputable def za8f:FSem:=mkE (ArgT.cons (Ty.leaf .sl) (ArgT.fnc 103 2 ArgT.nil)) (Ty.leaf .bool) fun a=>F.zbd a.1 a.2.1
theorem zait:Entry prog 102 za8f false:=eo { P:=prog,n:=9,tab:=[(135,za8e)] } (.seq .leaf (.seq .leaf .leaf)) func102 ⟨zais,trivial⟩
noncomputable def za8g:FSem:=mkE (ArgT.cons tyTSketch (ArgT.cons (Ty.leaf .sl) ArgT.nil)) (Ty.leaf .bool) fun a=>F.zmb a.1 a.2.1
theorem zaiu:Entry prog 50 za8g false:=eo { P:=prog,n:=74,tab:=[(98,zit),(99,za8a),(100,za8c),(102,za8f),(56,zov)],mutL:=[100],locL:=[26,38] } (.seq .leaf (.join [] (.seq .leaf (.cond (.seq .leaf .leaf) .leaf)) (.seq .leaf (.seq (.seq .leaf (.block (.loop [(5,.leaf (.ptr)),(21,.leaf (.int .i64))] (.seq .leaf (.seq (.cond .leaf .leaf) (.seq (.block (.seq .leaf .leaf)) .leaf)))))) (.seq (.seq .leaf (.block (.loop [(5,.leaf (.ptr)),(32,.leaf (.int .i64))] (.seq .leaf (.seq (.cond .leaf .leaf) (.seq (.block (.seq .leaf .leaf)) .leaf)))))) (.seq (.seq .leaf (.block (.loop [(43,.leaf (.int .i64))] (.seq .leaf (.seq (.cond .leaf .leaf) (.join [] (.block (.seq .leaf (.seq .leaf (.cond (.seq .leaf .leaf) .leaf)))) .leaf)))))) (.seq .leaf (.seq .leaf .leaf)))))))) func50 ⟨zki,zaio,zaiq,zait,zr5,trivial⟩
noncomputable def za8h:FSem:=mkE (ArgT.cons tyTSketch (ArgT.cons (Ty.leaf (.int .i64)) ArgT.nil)) (Ty.leaf (.int .i64)) fun a=>F.zgc a.1 a.2.1
theorem zaiv:Entry prog 104 za8h false:=eo { P:=prog,n:=22,tab:=[(157,zyc)],locL:=[2] } (.seq .leaf (.seq .leaf (.seq (.seq .leaf (.block (.loop [(6,.leaf (.int .i64))] (.seq (.seq .leaf (.cond .leaf .leaf)) (.seq (.block (.seq .leaf (.cond (.seq .leaf .leaf) .leaf))) .leaf))))) (.seq .leaf .leaf)))) func104 ⟨zaaf,trivial⟩
noncomputable def za8i:FSem:=mkE (ArgT.cons tyTSketch (ArgT.cons (Ty.leaf .sl) ArgT.nil)) (Ty.leaf .bool) fun a=>F.zlk a.1 a.2.1
theorem zaiw:Entry prog 51 za8i false:=eo { P:=prog,n:=53,tab:=[(25,zql),(104,za8h),(105,zyh)],locL:=[2] } (.seq .leaf (.seq (.seq .leaf (.cond (.seq .leaf .leaf) .leaf)) (.seq (.seq .leaf (.block (.loop [(5,.leaf (.int .i64))] (.seq (.seq .leaf (.cond .leaf .leaf)) (.join [] (.block (.seq (.draw [0,1,2,3,4,5,6]) (.seq (.draw [0,1,2,3,4,5,6,7,8,9,10,11,13,12,14,15,16,17,18,19,20,21,22,23,24,25,26,27]) (.cond (.seq .leaf .leaf) .leaf)))) .leaf))))) (.seq .leaf .leaf)))) func51 ⟨zuk,zaiv,zaak,trivial⟩
noncomputable def zrp:FSem:=mkE (ArgT.cons tyTSketch (ArgT.cons (Ty.leaf .sl) ArgT.nil)) (Ty.leaf .bool) fun a=>F.zk0 a.1 a.2.1
theorem zab6:Entry prog 14 zrp false:=eo { P:=prog,n:=27,tab:=[(50,za8g),(51,za8i),(32,zj0),(33,zj1)],locL:=[2] } (.seq .leaf (.join [] (.seq .leaf (.cond (.seq .leaf .leaf) .leaf)) (.seq (.draw [0,2,5,6,1,3,4,7,8,9]) .leaf))) func14 ⟨zaiu,zaiw,zm7,zm8,trivial⟩
end
end Den
end

section
set_option maxRecDepth 100000
namespace Den
open Go Go.Proofs.Tryz
noncomputable section
end
end Den
end

section
namespace Den
open Go Iv Lx
def bc (b:Bool):Value:=.bool b
theorem zpn {α:Type} {f:α→Value}:∀ys:List α,ys.map f=ys.flatMap fun z=>[f z]
 | []=>rfl
 | a :: r=>by rw [List.map_cons,List.flatMap_cons,zpn r]; rfl
def gl (gn:List Bool):List Int:=((List.range gn.length).filter fun i=>!(gn.getD i true)).map fun i:Nat=>(i:Int)
theorem zp2 {gn:List Bool} {x:Int}:x∈gl gn↔∃i:Nat,x=i∧∃h:i<gn.length,gn[i]=false:=by
 unfold gl
 rw [List.mem_map]
 constructor
 · rintro ⟨i,hi,rfl⟩
   rw [List.mem_filter,List.mem_range] at hi
   refine ⟨i,rfl,hi.1,?_⟩
   have:=hi.2
   rw [zb9 hi.1] at this
   simpa using this
 · rintro ⟨i,rfl,hi,hg⟩
   refine ⟨i,List.mem_filter.2 ⟨List.mem_range.2 hi,?_⟩,rfl⟩
   rw [zb9 hi,hg]; rfl
theorem zfo {gn:List Bool} {i:Nat} (hi:i<gn.length):(i:Int)∈gl gn↔gn[i]=false:=by
 rw [zp2]
 constructor
 · rintro ⟨j,hj,h1,h2⟩
   have:j=i:=by omega
   subst this; exact h2
 · intro h; exact ⟨i,rfl,hi,h⟩
theorem zafc {gn:List Bool} {N:Nat} (hN:gn.length=N):gl gn=(rngI N).filter fun x=>decide (x∈gl gn):=by
 conv=>lhs; unfold gl
 unfold rngI
 rw [List.filter_map,hN]
 congr 1
 refine List.filter_congr fun i hi=>?_
 have hi':i<gn.length:=by rw [hN]; exact List.mem_range.1 hi
 rw [Bool.eq_iff_iff,Function.comp_apply,decide_eq_true_iff,zfo hi',zb9 hi']
 simp
def cntF (gn:List Bool):Nat:=gn.countP fun b=>!b
theorem zabg {gn:List Bool}:∀{i:Nat} (hi:i<gn.length),gn[i]=false→cntF (gn.set i true)+1=cntF gn:=by
 induction gn with
 | nil=>intro i hi; simp at hi
 | cons a r ih=>
   intro i hi hg
   cases i with
   | zero=>
     simp only [List.getElem_cons_zero] at hg
     subst hg
     simp [cntF]
   | succ i=>
     have:=ih (i:=i) (by simpa using hi) (by simpa using hg)
     unfold cntF at this ⊢
     simp only [List.set_cons_succ,List.countP_cons]
     omega
section
variable {h D : Hp} {g : TGraph} {es : List (Int × Int)} {l m : Sl} {gn : List Bool} {ds : List Int} {Kb : Bool → Hp → Prop} {Ki : Int → Hp → Prop} {Ks : Sl → Hp → Prop}
def OB (D h:Hp) (l:Sl) (gn:List Bool):Prop:=Own D h 1 l (gn.map bc)
theorem OB.len (ho:OB D h l gn):l.len=gn.length:=by have:=ho.2.1; simp at this; omega
theorem OB.get {i:Int} {K:Bool→Prop} (ho:OB D h l gn) (k:Nat) (hi:i=k) (hk:k<gn.length) (H:K gn[k]):idxP l i 1 fun a=>ldL .bool a K h:=by
 have hr:Rd h 1 l (gn.flatMap fun z=>[bc z]):=by rw [←zpn]; exact ho.rd
 refine rd_el (c:=fun z:Bool=>[bc z]) (n:=1) (fun _=>rfl) (by decide) hr k hi hk fun a ha=>?_
 have:=ha 0 _ (by decide) rfl
 rw [zas] at this
 exact ⟨_,this,H⟩
theorem OB.set {i:Int} {v:Bool} {K:Hp→Prop} (k:Nat) (ho:OB D h l gn) (hi:i=k) (hk:k<gn.length) (H:∀h',OB D h' l (gn.set k v)→(∀j,(∀a,l.a=some a→j≠a.block)→h' j=h j)→K h'):idxP l i 1 fun a=>stP a [.bool v] K h:=by
 unfold OB at ho
 rw [zpn] at ho
 refine za2x (c:=fun z:Bool=>[bc z]) (n:=1) (fun _=>rfl) (by decide) k ho hi hk rfl fun h' h1 h2=>H h' ?_ h2
 unfold OB
 rw [zpn]; exact h1
theorem zsy {α:Type} {f:α→Value} {x:α}:∀n,repl n [f x]=(List.replicate n x).map f
 | 0=>rfl
 | n+1=>by
   have:=zsy (f:=f) (x:=x) n
   unfold repl at this ⊢
   rw [List.replicate_succ,List.flatten_cons,this,List.replicate_succ,List.map_cons]
   rfl
theorem zado {h':Hp} {n1 n2:Nat} {cs1 cs2:List Value} (h1:Own D h n1 l cs1) (h2:Own h h' n2 m cs2):Apt l m:=fun a b ha hb hh=>by
 have h3:=zzb h2 hb
 obtain ⟨_,_,_,g4⟩:=h1
 rw [ha] at g4
 obtain ⟨_,_,_,x,g5,_⟩:=g4
 rw [←hh,g5] at h3; cases h3
def degs (es:List (Int×Int)) (T:List Int) (N:Nat):List Int:=(List.range N).map fun i:Nat=>((degL es T (i:Int):Nat):Int)
theorem zpj {es:List (Int×Int)} {T:List Int} {N i:Nat} (hi:i<N):(degs es T N)[i]?=some ((degL es T (i:Int):Nat):Int):=by
 unfold degs
 rw [List.getElem?_map,List.getElem?_range hi]
 rfl
theorem ze1 {es:List (Int×Int)} {T:List Int} {N:Nat}:(degs es T N).length=N:=by simp [degs]
theorem zabo {es:List (Int×Int)} {T:List Int} {N:Nat} {e:Int×Int} (hn:¬(e.1∈T∧e.2∈T)):degs (es++[e]) T N=degs es T N:=by
 unfold degs
 refine List.map_congr_left fun i _=>?_
 rw [zqh,if_neg (fun hh=>hn ⟨hh.1,hh.2.1⟩)]
 rfl
theorem zad9 {es:List (Int×Int)} {T:List Int} {N a b:Nat} (ha:a<N) (hb:b<N) (hab:a≠b) (hT:(a:Int)∈T∧(b:Int)∈T) :
 ((degs es T N).set a (((degL es T (a:Int):Nat):Int)+1)).set b (((degL es T (b:Int):Nat):Int)+1)=degs (es++[((a:Int),(b:Int))]) T N:=by
 refine List.ext_getElem? fun i=>?_
 rcases Nat.lt_or_ge i N with h1 | h1
 · rw [zpj h1,zqh]
   simp only [hT.1,hT.2,true_and]
   rw [List.getElem?_set]
   by_cases hib:b=i
   · subst hib
     rw [if_pos rfl,if_pos (by simp [ze1]; exact h1),if_pos (.inr rfl)]
     rfl
   · rw [if_neg hib,List.getElem?_set]
     by_cases hia:a=i
     · subst hia
       rw [if_pos rfl,if_pos (by simp [ze1]; exact h1),if_pos (.inl rfl)]
       rfl
     · rw [if_neg hia,zpj h1,if_neg (by omega)]
       rfl
 · rw [List.getElem?_eq_none (by simp [ze1]; exact h1),List.getElem?_eq_none (by rw [ze1]; exact h1)]
theorem zt4 (hg:LR a2c 2 A2P h g.edges es) (hlen:es.length≤1000000) (H0:∀h',h.le h'→¬GV g.n es→Ks nilS h') (H:∀y T h',h.le h'→GV g.n es→IL h' y T→IsCore g.n.toNat es T→Ks y h'):callP (F.zju g) Ks h:=by
 refine za1 (fun y h'=>(¬GV g.n es∧y=nilS)∨(GV g.n es∧∃T,IL h' y T∧IsCore g.n.toNat es T)) (fun K' hk=>?_) fun y h' hl hb=>by
  rcases hb with ⟨h1,rfl⟩ | ⟨h1,T,h2,h3⟩
  · exact H0 h' hl h1
  · exact H y T h' hl h1 h2 h3
 unfold F.zju
 refine za1b hg (by omega) fun b h1 hl1 hb=>?_
 refine za2 (fun h2=>hk _ _ hl1 (.inl ⟨fun hv=>(by rw [hb.2 hv] at h2; cases h2),rfl⟩)) (fun h2=>?_)
 have hv:=hb.1 (by simpa using h2)
 obtain ⟨N,hN⟩:∃N:Nat,g.n=N:=⟨g.n.toNat,by have:=hv.1.1; omega⟩
 have hN60:N≤60:=by have:=hv.1.2; omega
 rw [hN,show ((N:Nat):Int).toNat=N from rfl] at hk
 rw [hN] at hv
 rw [hN]
 have hgl:=hg.len zf9
 have hes:=hv.2.1
 refine zz0 (size:=1) N N rfl rfl (Nat.le_refl _) (by omega) (by omega) rfl fun m2 h3 hm2 _ ho3=>?_
 have ho3:OB h1 h3 m2 (List.replicate N false):=by unfold OB; rw [←zsy]; exact ho3
 refine zp1 (fun f st h'=>∃gn:List Bool,OB h1 h' m2 gn∧gn.length=N∧(∀C:List Int,(∀x∈C,0≤x∧x<N)→(∀x∈C,3≤degL es C x)→∀x∈C,x∈gl gn) ∧
  (st.1=false→∀x∈gl gn,3≤degL es (gl gn) x)∧cntF gn*2+(if st.1=true then 1 else 0)≤f) (n0:=cntF (List.replicate N false)*2+1)
  ⟨_,ho3,by simp,fun C hC _ x hx=>?_,fun hh=>(by cases hh),by simp⟩ ?_
 · obtain ⟨c1,c2⟩:=hC x hx
   obtain ⟨i,rfl⟩:∃i:Nat,x=i:=⟨x.toNat,by omega⟩
   rw [zfo (by simp; omega)]
   simp
 rintro f ⟨ch,_⟩ h4 ⟨gn,ho,hgn,hgr,hst,hf⟩ K2 hK2
 simp only at hst hf
 have hle4:=Hp.le_trans hl1 ho.1
 have hml:=ho.len
 refine za2 (fun h5=>?_) (fun h5=>?_)
 ·
  simp only at h5
  rw [if_pos h5] at hf
  refine zz0 (size:=1) N N rfl rfl (Nat.le_refl _) (by omega) (by omega) rfl fun m5 h6 hm5 _ ho6=>?_
  have ho6:OI h4 h6 m5 (degs [] (gl gn) N):=by
   have e:degs [] (gl gn) N=List.replicate N 0:=by
    unfold degs
    refine List.ext_getElem (by simp) fun i h1 h2=>?_
    simp [degL]
   unfold OI
   rw [e,←zsy]; exact ho6
  refine zbe (n:=es.length) (by omega) (fun i h'=>OI h4 h' m5 (degs (es.take i) (gl gn) N)) (by simpa using ho6) ?_
  intro q h7 hq ho7 k hk2
  have hle7:=Hp.le_trans hle4 ho7.dle
  have hob7:OB h1 h7 m2 gn:=Own.le ho ho7.dle
  refine za0 (fun h8=>?_) (fun h8=>?_)
  · have hq':q<es.length:=by simp only at h8; omega
    have heq:=hes _ (List.getElem_mem hq')
    obtain ⟨a,ha⟩:∃a:Nat,es[q].1=a:=⟨es[q].1.toNat,by omega⟩
    obtain ⟨b,hb'⟩:∃b:Nat,es[q].2=b:=⟨es[q].2.toNat,by omega⟩
    have haN:a<N:=by omega
    have hbN:b<N:=by omega
    have hst:es.take (q+1)=es.take q++[es[q]]:=(List.take_append_getElem hq').symm
    refine za3 (fun _ h'=>OI h4 h' m5 (degs (es.take (q+1)) (gl gn) N)) (fun _ h' hh=>hk2 _ hq' hh) ?_
    refine (hg.le zf9 hle7).get zf9 q rfl hq' fun a10 x hxx hcx=>⟨_,hcx 0 _ rfl,_,hcx 1 _ rfl,?_⟩
    obtain ⟨x1,x2⟩:=hxx
    rw [x1,x2,ha,hb']
    have same:¬(es[q].1∈gl gn∧es[q].2∈gl gn)→OI h4 h7 m5 (degs (es.take (q+1)) (gl gn) N):=fun hn=>by rw [hst,zabo hn]; exact ho7
    refine hob7.get a rfl (by omega) ?_
    refine za2 (fun h9=>?_) (fun h9=>same fun hh=>?_)
    · refine hob7.get b rfl (by omega) ?_
      refine za2 (fun h10=>?_) (fun h10=>same fun hh=>?_)
      · have hT:(a:Int)∈gl gn∧(b:Int)∈gl gn:=⟨(zfo (by omega)).2 (by simpa using h9),(zfo (by omega)).2 (by simpa using h10)⟩
        have hdl:∀i,degL (es.take q) (gl gn) i≤es.length:=fun i=>Nat.le_trans zad8 (by rw [List.length_take]; omega)
        have hga:∀{i:Nat} (hi:i<N) (hh:i<(degs (es.take q) (gl gn) N).length),(degs (es.take q) (gl gn) N)[i]=((degL (es.take q) (gl gn) (i:Int):Nat):Int):=fun hi hh=>by
         have:=zpj (es:=es.take q) (T:=gl gn) hi
         rw [List.getElem?_eq_getElem hh] at this
         exact Option.some.inj this
        refine ho7.il.get a rfl (by rw [ze1]; exact haN) ?_
        rw [hga haN (by rw [ze1]; exact haN)]
        have d1:=hdl (a:Int)
        have d2:=hdl (b:Int)
        rw [w64 (by omega)]
        refine ho7.set a rfl (by rw [ze1]; exact haN) fun h11 ho11=>?_
        refine ho11.il.get b rfl (by rw [List.length_set,ze1]; exact hbN) ?_
        have hab:a≠b:=by omega
        rw [List.getElem_set_ne hab,hga hbN (by rw [ze1]; exact hbN),w64 (by omega)]
        refine ho11.set b rfl (by rw [List.length_set,ze1]; exact hbN) fun h12 ho12=>?_
        show OI _ _ _ _
        rw [hst]
        have he2:es[q]=((a:Int),(b:Int)):=Prod.ext ha hb'
        rw [he2,←zad9 haN hbN hab hT]
        exact ho12
      · rw [hb',zfo (by omega)] at hh
        rw [hh.2] at h10; cases h10
    · rw [ha,zfo (by omega)] at hh
      rw [hh.1] at h9; cases h9
  · have:q=es.length:=by simp only at h8; omega
    subst this
    rw [List.take_length] at ho7
    have hap:Apt m2 m5:=zado ho ho7
    have hod:OI h1 h7 m5 (degs es (gl gn) N):=OI.base ho7 ho.1
    have hml7:=hob7.len
    refine zaj (fun st h'=>∃(i:Nat) (gn':List Bool),st.2.1=(i:Int)∧i≤N∧OB h1 h' m2 gn'∧OI h1 h' m5 (degs es (gl gn) N)∧gn'.length=N ∧
     (∀j (hj:j<N),i≤j→gn'.getD j true=gn.getD j true)∧(∀j (hj:j<N),gn'.getD j true=true→gn.getD j true=true∨degL es (gl gn) (j:Int)≤2)∧(∀j (hj:j<N),gn.getD j true=true→gn'.getD j true=true) ∧
     (∀j (hj:j<N),j<i→gn'.getD j true=false→3≤degL es (gl gn) (j:Int))∧(st.1=false→gn'=gn)∧(st.1=true→cntF gn'<cntF gn)∧cntF gn'≤cntF gn) (fun st=>(N-st.2.1).toNat)
     ⟨0,gn,rfl,by omega,hob7,hod,hgn,fun j hj _=>rfl,fun j hj hh=>.inl hh,fun j hj hh=>hh,fun j hj hji=>by omega,fun _=>rfl,fun hh=>(by cases hh),Nat.le_refl _⟩ ?_
    clear hob7 hod ho7 hk2
    rintro ⟨c9,i9,_⟩ h9 ⟨i,gn',hi9,hi,hob,hod,hgn',r1,r2,r3,r4,r5,r6,r7⟩
    simp only at hi9
    subst hi9
    have hobl:=hob.len
    refine za0 (fun h10=>?_) (fun h10=>?_)
    · have hi':i<N:=by simp only at h10; omega
      have hcur:=r1 i hi' (Nat.le_refl _)
      rw [zb9 (by omega)] at hcur
      refine za3 (fun s h'=>∃gn'':List Bool,OB h1 h' m2 gn''∧OI h1 h' m5 (degs es (gl gn) N)∧gn''.length=N ∧
       (∀j (hj:j<N),i+1≤j→gn''.getD j true=gn.getD j true)∧(∀j (hj:j<N),gn''.getD j true=true→gn.getD j true=true∨degL es (gl gn) (j:Int)≤2)∧(∀j (hj:j<N),gn.getD j true=true→gn''.getD j true=true) ∧
       (∀j (hj:j<N),j<i+1→gn''.getD j true=false→3≤degL es (gl gn) (j:Int))∧(s.1=false→gn''=gn)∧(s.1=true→cntF gn''<cntF gn)∧cntF gn''≤cntF gn) ?_ ?_
      · rintro ⟨c,_⟩ h11 ⟨gn'',q1,q2,q3,q4,q5,q6,q7,q8,q9,q10⟩
        exact ⟨⟨i+1,gn'',by (try simp only); rw [w64 (by omega)]; rfl,by omega,q1,q2,q3,q4,q5,q6,q7,q8,q9,q10⟩,by (try simp only); rw [w64 (by omega)]; omega⟩
      · refine hob.get i rfl (by omega) ?_
        have hd3:∀j (hj:j<N),j<i+1→gn'.getD j true=false→(j=i→3≤degL es (gl gn) (i:Int))→3≤degL es (gl gn) (j:Int):=fun j hj hji hh hc=>by
         rcases Nat.lt_or_ge j i with h1 | h1
         · exact r4 j hj h1 hh
         · have:j=i:=by omega
           subst this; exact hc rfl
        refine za2 (fun h11=>?_) (fun h11=>⟨gn',hob,hod,hgn',fun j hj hij=>r1 j hj (by omega),r2,r3,fun j hj hji hh=>hd3 j hj hji hh fun e=>?_,r5,r6,r7⟩)
        · refine hod.il.get i rfl (by rw [ze1]; exact hi') ?_
          have hgi:(degs es (gl gn) N)[i]'(by rw [ze1]; exact hi')=((degL es (gl gn) (i:Int):Nat):Int):=by
           have:=zpj (es:=es) (T:=gl gn) hi'
           rw [List.getElem?_eq_getElem (by rw [ze1]; exact hi')] at this
           exact Option.some.inj this
          rw [hgi]
          have hfal:gn'[i]'(by omega)=false:=by simpa using h11
          refine za0 (fun h12=>?_) (fun h12=>⟨gn',hob,hod,hgn',fun j hj hij=>r1 j hj (by omega),r2,r3,fun j hj hji hh=>hd3 j hj hji hh fun e=>by have h12:¬((degL es (gl gn) (i:Int):Nat):Int)≤2:=h12; omega,r5,r6,r7⟩)
          have h12:((degL es (gl gn) (i:Int):Nat):Int)≤2:=h12
          refine hob.set i rfl (by omega) fun h13 hob13 hs13=>?_
          have hod13:OI h1 h13 m5 (degs es (gl gn) N):=zac3 hod hap hob13.1 hs13
          have hcs:=zabg (gn:=gn') (i:=i) (by omega) hfal
          have gd:∀j,(gn'.set i true).getD j true=if j=i then true else gn'.getD j true:=fun j=>by
           rw [List.getD_eq_getElem?_getD,List.getElem?_set]
           by_cases hji:i=j
           · subst hji
             rw [if_pos rfl,if_pos (by omega),if_pos rfl]
             rfl
           · rw [if_neg hji,if_neg (fun h=>hji h.symm),List.getD_eq_getElem?_getD]
          refine ⟨gn'.set i true,hob13,hod13,by simpa using hgn',fun j hj hij=>?_,fun j hj hh=>?_,fun j hj hh=>?_,fun j hj hji hh=>?_,fun hh=>(by cases hh),fun _=>by omega,by omega⟩
          · rw [gd,if_neg (by omega)]; exact r1 j hj (by omega)
          · rw [gd] at hh
            split at hh
            · rename_i e; subst e; exact .inr (by omega)
            · exact r2 j hj hh
          · rw [gd]
            split
            · rfl
            · exact r3 j hj hh
          · rw [gd] at hh
            split at hh
            · cases hh
            · exact hd3 j hj hji hh fun e=>by rename_i e2; exact absurd e e2
        · subst e
          have hh2:gn'[j]'(by omega)=false:=by rw [zb9 (by omega)] at hh; exact hh
          rw [hh2] at h11; cases h11
    · have hiN:i=N:=by simp only at h10; omega
      subst hiN
      have sub:∀x,x∈gl gn'→x∈gl gn:=fun x hx=>by
       obtain ⟨j,rfl,hj,hg2⟩:=zp2.1 hx
       rw [zfo (by omega)]
       cases hgj:gn[j]'(by omega) with
       | false=>rfl
       | true=>
         have:=r3 j (by omega) (by rw [zb9 (by omega)]; exact hgj)
         rw [zb9 (by omega),hg2] at this; cases this
      have hgr':∀C:List Int,(∀x∈C,0≤x∧x<i)→(∀x∈C,3≤degL es C x)→∀x∈C,x∈gl gn':=fun C hC hC3 x hx=>by
       have hx2:=hgr C hC hC3 x hx
       obtain ⟨j,rfl,hj,hg2⟩:=zp2.1 hx2
       rw [zfo (by omega)]
       cases hgj:gn'[j]'(by omega) with
       | false=>rfl
       | true=>
         rcases r2 j (by omega) (by rw [zb9 (by omega)]; exact hgj) with h1 | h1
         · rw [zb9 (by omega),hg2] at h1; cases h1
         · exact absurd hx (zvs hC3 (hgr C hC hC3) h1)
      cases hc:c9 with
      | false=>
        have e:=r5 hc
        subst e
        refine hK2 (cntF gn'*2) _ _ (by omega) ⟨gn',hob,hgn,hgr',fun _ x hx=>?_,by simp⟩
        obtain ⟨j,rfl,hj,hg2⟩:=zp2.1 hx
        exact r4 j (by omega) (by omega) (by rw [zb9 (by omega)]; exact hg2)
      | true=>
        have e:=r6 hc
        exact hK2 (cntF gn'*2+1) _ _ (by omega) ⟨gn',hob,hgn',hgr',fun hh=>(by cases hh),by simp⟩
 · simp only at h5
   have hdeg:=hst h5
   refine zbx (n:=N) (by omega) (fun i y h'=>OI h4 h' y ((gl gn).filter fun x=>decide (x<i))) (by
    have e:(gl gn).filter (fun x=>decide (x<((0:Nat):Int)))=[]:=by
     rw [List.filter_eq_nil_iff]
     intro x hx
     obtain ⟨j,rfl,_⟩:=zp2.1 hx
     simp
    rw [e]; exact OI.nil) ?_
   intro i y h6 hi ho6 k hk2
   have hob6:OB h1 h6 m2 gn:=Own.le ho ho6.dle
   have hob6l:=hob6.len
   refine za0 (fun h7=>?_) (fun h7=>?_)
   · have hi':i<N:=by simp only at h7; omega
     have hstep:(gl gn).filter (fun x=>decide (x<((i+1:Nat):Int)))=(gl gn).filter (fun x=>decide (x<(i:Int)))++(if gn[i]'(by omega)=false then [(i:Int)] else []):=by
      have key:∀n:Nat,(gl gn).filter (fun x=>decide (x<(n:Int)))=((List.range gn.length).filter fun j=>!(gn.getD j true)&&decide (j<n)).map fun j:Nat=>(j:Int):=fun n=>by
       unfold gl
       rw [List.filter_map,List.filter_filter]
       congr 1
       refine List.filter_congr fun j _=>?_
       simp only [Function.comp_apply]
       rw [Bool.and_comm]
       congr 1
       simp
      have key2:∀n:Nat,n≤gn.length→(List.range gn.length).filter (fun j=>!(gn.getD j true)&&decide (j<n))=(List.range n).filter fun j=>!(gn.getD j true):=fun n hn=>by
       have e1:(List.range gn.length).filter (fun j=>!(gn.getD j true)&&decide (j<n))=((List.range gn.length).filter fun j=>decide (j<n)).filter fun j=>!(gn.getD j true):=by rw [List.filter_filter]
       have e2:(List.range gn.length).filter (fun j=>decide (j<n))=List.range n:=by
        obtain ⟨d,hd⟩:∃d,gn.length=n+d:=⟨gn.length-n,by omega⟩
        rw [hd,List.range_add,List.filter_append]
        have f1:(List.range n).filter (fun j=>decide (j<n))=List.range n:=by
         rw [List.filter_eq_self]; intro j hj; exact decide_eq_true (List.mem_range.1 hj)
        have f2:((List.range d).map (n+·)).filter (fun j=>decide (j<n))=[]:=by
         rw [List.filter_eq_nil_iff]; intro j hj
         obtain ⟨q,_,rfl⟩:=List.mem_map.1 hj
         simp
        rw [f1,f2,List.append_nil]
       rw [e1,e2]
      rw [key,key,key2 _ (by omega),key2 _ (by omega),List.range_succ,List.filter_append,List.map_append]
      congr 1
      have hgi:gn.getD i true=gn[i]'(by omega):=zb9 (by omega)
      rw [zto,hgi]
      cases hg2:gn[i]'(by omega)<;>rfl
     have hfl:((gl gn).filter fun x=>decide (x<(i:Int))).length≤60:=by
      refine Nat.le_trans (List.length_filter_le _ _) ?_
      unfold gl
      rw [List.length_map]
      refine Nat.le_trans (List.length_filter_le _ _) ?_
      rw [List.length_range]; omega
     refine za3 (fun s h'=>OI h4 h' s.1 ((gl gn).filter fun x=>decide (x<((i+1:Nat):Int)))) (fun s h' hs=>hk2 _ _ hi' hs) ?_
     refine hob6.get i rfl (by omega) ?_
     refine za2 (fun h8=>?_) (fun h8=>?_)
     · refine ho6.app (by omega) fun w h9 ho9=>?_
       show OI _ _ _ _
       rw [hstep,if_pos (by simpa using h8)]; exact ho9
     · show OI _ _ _ _
       rw [hstep,if_neg (by simpa using h8),List.append_nil]; exact ho6
   · have:i=N:=by simp only at h7; omega
     subst this
     have e:(gl gn).filter (fun x=>decide (x<(i:Int)))=gl gn:=by
      rw [List.filter_eq_self]
      intro x hx
      obtain ⟨j,rfl,hj,_⟩:=zp2.1 hx
      exact decide_eq_true (by omega)
     rw [e] at ho6
     exact hk _ _ (Hp.le_trans hle4 ho6.dle) (.inr ⟨hv,gl gn,ho6.il,zafc hgn,hdeg,hgr⟩)
end
end Den
end

section
namespace Den
open Go Iv Lx
section
variable {h : Hp} {g : TGraph} {es : List (Int × Int)} {S : PSk} {Kb : Bool → Hp → Prop}
theorem zuo {K:TExpr→Hp→Prop} (H:∀r h',h.le h'→NR h' r ((1:Int):Rat)→K ⟨1,r,emptyS,nilS⟩ h'):callP F.ziu K h:=by
 refine za1 (fun e h'=>∃r,NR h' r ((1:Int):Rat)∧e=⟨1,r,emptyS,nilS⟩) (fun K' hk=>?_) fun e h' hl ⟨r,h1,h2⟩=>by subst h2; exact H r h' hl h1
 unfold F.ziu
 exact zio (by decide) (by decide) fun z h' hl hz=>hk _ _ hl ⟨z,hz,rfl⟩
theorem zvc {r:TRat} {K:TSketch→Hp→Prop} {N:Nat} (hN:g.n=N) (hN2:N≤10) (hg:LR a2c 2 A2P h g.edges es) (hlen:es.length≤20) (hr:NR h r ((1:Int):Rat)) (H:∀s S h',h.le h'→SK h' s S→DSK 1 S N es→K s h'):callP (F.zke g ⟨1,r,emptyS,nilS⟩) K h:=by
 refine za1 (fun s h'=>∃S,SK h' s S∧DSK 1 S N es) (fun K' hk=>?_) fun s h' hl ⟨S,h1,h2⟩=>H s S h' hl h1 h2
 unfold F.zke
 dsimp only
 have hgl:=hg.len zf9
 rw [hN]
 have hor:OR h r (some ((1:Int):Rat)):=hr.or (zsj (by decide)) (by decide)
 refine zaj (fun st h'=>∃(i:Nat) (pl:Sl),st=((pl,nilS,nilS,nilS,nilS,nilS,()),(i:Int),())∧i≤N∧LO ptc 8 PTT h h' pl (List.replicate i (some ((1:Int):Rat),some ((1:Int):Rat))))
  (fun st=>(N-st.2.1).toNat) ⟨0,nilS,rfl,by omega,LO.nil⟩ ?_
 rintro _ h1 ⟨i,pl,rfl,hi,hp⟩
 refine za0 (fun h2=>?_) (fun h2=>?_)
 · have hi':i<N:=by simp only at h2; omega
   refine hp.app (x:=(⟨r,r⟩:TPoint)) (b:=(some ((1:Int):Rat),some ((1:Int):Rat))) zd4 rfl (by simp; omega) (by simp; omega) ⟨hor,hor⟩ fun w h3 hp3=>⟨⟨i+1,w,by (try simp only); rw [w64 (by omega)]; rfl,by omega,?_⟩,by (try simp only); rw [w64 (by omega)]; omega⟩
   rw [List.replicate_succ']
   exact hp3
 have:i=N:=by simp only at h2; omega
 subst this
 have hle1:=hp.dle
 refine zaj (fun st h'=>∃(q:Nat) (cl:Sl) (con:List PCon) (D:Hp),st=((pl,nilS,nilS,nilS,nilS,cl,()),(q:Int),())∧q≤es.length∧h1.le D∧LO cc 5 CO D h' cl con∧DCL 1 con (es.take q))
  (fun st=>(es.length-st.2.1).toNat) ⟨0,nilS,[],h1,rfl,by omega,Hp.le_refl _,LO.nil,trivial⟩ ?_
 rintro _ h3 ⟨q,cl,con,D,rfl,hq,hD,hc,hdc⟩
 have hcl:=hdc.len
 rw [List.length_take] at hcl
 refine za0 (fun h4=>?_) (fun h4=>?_)
 · have hq':q<es.length:=by simp only at h4; omega
   have hle3:=Hp.le_trans hle1 (Hp.le_trans hD hc.dle)
   refine (hg.le zf9 hle3).get zf9 q rfl hq' fun a x hxx hcx=>⟨_,hcx 0 _ rfl,?_⟩
   refine (hg.le zf9 hle3).get zf9 q rfl hq' fun a x2 hxx2 hcx2=>⟨_,hcx2 1 _ rfl,?_⟩
   rw [hxx.1,hxx2.2]
   refine hc.newb zac fun p10 D4 h5 d4 l5 hc c10=>hc.newb zac fun p11 D5 h6 d5 l6 hc c11=>?_
   refine hc.app (x:=(⟨2,⟨some p10,2,2⟩,nilS,⟨some p11,1,1⟩,0⟩:TConstraint)) (b:=⟨2,[es[q].1,es[q].2],[],[numE r 1],0⟩) zac rfl (by omega) (by omega) (zad7 (fun i v hv=>Hp.cell_le d5 (c10 i v hv)) c11 (by decide) (hr.le (Hp.le_trans hle1 (Hp.le_trans hD (Hp.le_trans d4 d5))))) fun w h7 hc7=>?_
   refine ⟨⟨q+1,w,_,D5,by (try simp only); rw [w64 (by omega)]; rfl,by omega,Hp.le_trans hD (Hp.le_trans d4 d5),hc7,?_⟩,by (try simp only); rw [w64 (by omega)]; omega⟩
   rw [←List.take_append_getElem hq']
   exact DCL.snoc (e:=es[q]) ⟨r,zac0 (by decide) hr,rfl⟩ hdc
 · have:q=es.length:=by simp only at h4; omega
   subst this
   rw [List.take_length] at hdc
   refine hk _ _ (Hp.le_trans hle1 (Hp.le_trans hD hc.dle)) ⟨⟨List.replicate i (some ((1:Int):Rat),some ((1:Int):Rat)),[],[],[],[],con⟩,⟨(hp.lr zd4).le zd4 (Hp.le_trans hD hc.dle),LR.nil,LR.nil,LR.nil,LR.nil,hc.lr zac⟩,by simp,fun p hp=>?_,rfl,rfl,rfl,rfl,hdc⟩
   rw [List.eq_of_mem_replicate hp]
   exact ⟨rfl,rfl⟩
end
theorem DCL.get {z:Int}:∀{l:List PCon} {q:List (Int×Int)},DCL z l q→∀{k:Nat} (h1:k<l.length) (h2:k<q.length),DC z l[k] q[k]
 | [],_,_,k,h1,_=>by simp at h1
 | a :: r,b :: q,h,0,_,_=>h.1
 | a :: r,b :: q,h,k+1,h1,h2=>DCL.get h.2 (by simpa using h1) (by simpa using h2)
 | a :: r,[],h,_,_,_=>h.elim
theorem DSK.allC {z:Int} {S:PSk} {n:Nat} {es:List (Int×Int)} (h:DSK z S n es):Den.allC S=S.con:=by
 unfold Den.allC imp impL
 rw [h.2.2.2.2.1]; simp
theorem DSK.its {z:Int} {S:PSk} {n:Nat} {es:List (Int×Int)} (h:DSK z S n es):Den.its S=es.map fun e=>[e.1,e.2]:=by
 have hl:=h.2.2.2.2.2.2.len
 unfold Den.its
 rw [h.allC]
 refine List.ext_getElem (by simp [hl]) fun k h1 h2=>?_
 rw [List.getElem_map,List.getElem_map]
 obtain ⟨x,_,e⟩:=h.2.2.2.2.2.2.get (k:=k) (by simpa using h1) (by simpa using h2)
 rw [e]
 simp [itemsC]
theorem DSK.all {z:Int} {S:PSk} {n:Nat} {es:List (Int×Int)} (h:DSK z S n es):allS S=rngI n:=by
 unfold allS allI rngI
 rw [h.1,h.2.2.1]
 simp
theorem DSK.kind {z:Int} {S:PSk} {n:Nat} {es:List (Int×Int)} (h:DSK z S n es) {k:Nat} (hk:k<es.length):(Den.allC S).getD k dC=⟨2,[es[k].1,es[k].2],[],((Den.allC S).getD k dC).vals,0⟩:=by
 have hl:=h.2.2.2.2.2.2.len
 rw [h.allC,zb9 (by omega)]
 obtain ⟨x,_,e⟩:=h.2.2.2.2.2.2.get (k:=k) (by omega) hk
 rw [e]
theorem zab4 {z:Int} {S:PSk} {n:Nat} {es:List (Int×Int)} (h:DSK z S n es) {T R:List Int} (hT:∀e∈es,(e.1∈T↔e.1∉R)∧(e.2∈T↔e.2∉R)) {i:Int}:∀k,k≤es.length→wtL (Den.allC S) (remN (Den.its S) i R k)=degL (es.take k) T i
 | 0,_=>by simp [remN,wtL,degL]
 | k+1,hk=>by
   have hk':k<es.length:=by omega
   have ih:=zab4 h hT (i:=i) k (by omega)
   have hg:(Den.its S).getD k []=[es[k].1,es[k].2]:=by
    rw [h.its,zb9 (by simpa using hk'),List.getElem_map]
   have hstep:remN (Den.its S) i R (k+1)=remN (Den.its S) i R k++(if keepP ((Den.its S).getD k []) i R then [(k:Int)] else []):=rfl
   rw [←List.take_append_getElem hk',zqh,←ih,hstep,hg]
   have ht:=hT _ (List.getElem_mem hk')
   have e:keepP [es[k].1,es[k].2] i R↔(es[k].1∈T∧es[k].2∈T∧(es[k].1=i∨es[k].2=i)):=by
    unfold keepP
    simp only [List.mem_cons,List.not_mem_nil,or_false,forall_eq_or_imp,forall_eq]
    rw [ht.1,ht.2]
    constructor
    · rintro ⟨h1,h2,h3⟩
      exact ⟨h2,h3,h1.imp Eq.symm Eq.symm⟩
    · rintro ⟨h2,h3,h1⟩
      exact ⟨h1.imp Eq.symm Eq.symm,h2,h3⟩
   by_cases hh:es[k].1∈T∧es[k].2∈T∧(es[k].1=i∨es[k].2=i)
   · rw [if_pos (e.2 hh),if_pos hh,zt1,show ((k:Nat):Int).toNat=k from rfl,h.kind hk']
     rfl
   · rw [if_neg (fun h=>hh (e.1 h)),if_neg hh,List.append_nil]; rfl
theorem za29 {z:Int} {S:PSk} {n:Nat} {es:List (Int×Int)} (h:DSK z S n es) {T R:List Int} (hT:∀e∈es,(e.1∈T↔e.1∉R)∧(e.2∈T↔e.2∉R)) {i:Int} (hi:0≤i):canP (Den.allC S) (cens S) R i↔i∉R∧degL es T i≤2:=by
 have e0:(Den.allC S).map (fun c=>itemsC c (cens S))=Den.its S:=rfl
 have hlen:(Den.its S).length=es.length:=by rw [h.its]; simp
 have hw:=zab4 h hT (i:=i) es.length (Nat.le_refl _)
 rw [List.take_length] at hw
 unfold canP
 rw [e0]
 have hm:most i=2:=by unfold most; rw [if_neg (by omega)]
 have hr:remL (Den.its S) i R=remN (Den.its S) i R es.length:=by unfold remL; rw [hlen]
 rw [hm,hr,hw]
 constructor
 · exact fun hh=>⟨hh.1,hh.2.1⟩
 · rintro ⟨h1,h2⟩
   refine ⟨h1,h2,fun j hj=>?_⟩
   obtain ⟨k,hk,rfl,hkp⟩:=zsx.1 hj
   rw [show ((k:Nat):Int).toNat=k from rfl,h.kind hk]
   have hg:(Den.its S).getD k []=[es[k].1,es[k].2]:=by
    rw [h.its,zb9 (by simpa using hk),List.getElem_map]
   have hmem:i∈[es[k].1,es[k].2]:=by rw [←hg]; exact hkp.1
   unfold suitP
   rw [if_neg (by omega),if_neg (by show ¬eqK 2=2; decide)]
   right
   unfold kindP
   simp only
   rw [if_neg (by decide),if_neg (by decide),if_neg (by decide),if_neg (fun hn=>hn hmem),if_neg (by decide),if_pos trivial]
theorem za2f {z:Int} {S:PSk} {n:Nat} {es:List (Int×Int)} (h:DSK z S n es) (hes:∀e∈es,0≤e.1∧e.1<e.2∧e.2<n):IsCore n es (coreS S):=by
 have hmem:∀{R:List Int} {x:Int},x∈leftL (allS S) R↔(0≤x∧x<n)∧x∉R:=fun {R x}=>by
  unfold leftL
  rw [List.mem_filter,h.all,znc]
  simp
 have hT:∀R:List Int,∀e∈es,(e.1∈leftL (allS S) R↔e.1∉R)∧(e.2∈leftL (allS S) R↔e.2∉R):=fun R e he=>by
  have:=hes e he
  rw [hmem,hmem]
  exact ⟨⟨fun h=>h.2,fun h=>⟨by omega,h⟩⟩,⟨fun h=>h.2,fun h=>⟨by omega,h⟩⟩⟩
 refine ⟨?_,fun i hi=>?_,fun C hC hC3 i hi=>?_⟩
 · have e0:coreS S=(rngI n).filter fun x=>decide (x∉peelS S (allS S)):=by
    rw [←h.all]; rfl
   refine e0.trans (List.filter_congr fun x hx=>?_)
   have:x∈coreS S↔x∉peelS S (allS S):=by
    unfold coreS
    rw [hmem]
    exact ⟨fun h=>h.2,fun h=>⟨znc.1 hx,h⟩⟩
   simp only [this]
 · have hi2:=hmem.1 hi
   have he:=zw3 (S:=S) (pref:=allS S) (x:=i) (by rw [h.all,znc]; exact hi2.1)
   rw [za29 h (hT _) (by omega)] at he
   have:degL es (coreS S) i=degL es (leftL (allS S) (peelS S (allS S))) i:=rfl
   rw [this]
   exact Nat.lt_of_not_le fun hh=>he ⟨hi2.2,hh⟩
 · suffices H:∀k,k≤(peelS S (allS S)).length→∀x∈(peelS S (allS S)).take k,x∉C by
    have:=H _ (Nat.le_refl _)
    rw [List.take_length] at this
    exact hmem.2 ⟨hC i hi,fun hp=>this i hp hi⟩
   intro k
   induction k with
   | zero=>intro _ x hx; simp at hx
   | succ k ih=>
     intro hk x hx
     have hk':k<(peelS S (allS S)).length:=by omega
     rw [←List.take_append_getElem hk',List.mem_append] at hx
     rcases hx with hx | hx
     · exact ih (by omega) x hx
     · rw [List.mem_singleton] at hx
       obtain ⟨h1,h2⟩:=zzf (S:=S) (pref:=allS S) hk'
       rw [zb9 hk',←hx] at h1 h2
       rw [h.all,znc] at h2
       rw [za29 h (hT _) h2.1] at h1
       exact zvs hC3 (fun y hy=>hmem.2 ⟨hC y hy,fun hp=>ih (by omega) y hp hy⟩) h1.2
def es4:List (Int×Int):=[(0,1),(0,2),(0,3),(1,2),(1,3),(2,3)]
def es3:List (Int×Int):=[(0,1),(0,2),(1,2)]
theorem core4:IsCore 4 es4 [0,1,2,3]:=by
 refine ⟨by decide,by decide,fun C hC _ i hi=>?_⟩
 have:=hC i hi
 simp only [List.mem_cons,List.not_mem_nil,or_false]
 omega
theorem core3:IsCore 3 es3 []:=by
 refine ⟨by decide,fun i hi=>(by cases hi),fun C hC hC3 i hi=>?_⟩
 have h1:=hC i hi
 have h2:=hC3 i hi
 have h3:degL es3 C i≤degL es3 [0,1,2] i:=zvk fun x hx=>by
  have:=hC x hx
  simp only [List.mem_cons,List.not_mem_nil,or_false]
  omega
 have h4:∀j:Fin 3,degL es3 [0,1,2] ((j:Nat):Int)≤2:=by decide
 have h5:=h4 ⟨i.toNat,by omega⟩
 have e:(((⟨i.toNat,by omega⟩:Fin 3):Nat):Int)=i:=by simp; omega
 rw [e] at h5
 omega
theorem gv4:GV 4 es4:=by
 refine ⟨by decide,by decide,fun j hj=>?_⟩
 have:∀j:Fin 5,befE (es4[(j:Nat)]'(by simp [es4]; omega)) (es4[(j:Nat)+1]'(by simp [es4]; omega)):=by
  intro j
  match j with
  | ⟨0,_⟩=>exact .inr ⟨rfl,by show (1:Int)<2; decide⟩
  | ⟨1,_⟩=>exact .inr ⟨rfl,by show (2:Int)<3; decide⟩
  | ⟨2,_⟩=>exact .inl (by show (0:Int)<1; decide)
  | ⟨3,_⟩=>exact .inr ⟨rfl,by show (2:Int)<3; decide⟩
  | ⟨4,_⟩=>exact .inl (by show (1:Int)<2; decide)
 exact this ⟨j,by simp [es4] at hj; omega⟩
theorem gv3:GV 3 es3:=by
 refine ⟨by decide,by decide,fun j hj=>?_⟩
 have:∀j:Fin 2,befE (es3[(j:Nat)]'(by simp [es3]; omega)) (es3[(j:Nat)+1]'(by simp [es3]; omega)):=by
  intro j
  match j with
  | ⟨0,_⟩=>exact .inr ⟨rfl,by show (1:Int)<2; decide⟩
  | ⟨1,_⟩=>exact .inl (by show (0:Int)<1; decide)
 exact this ⟨j,by simp [es3] at hj; omega⟩
theorem bars4 {S:PSk} (h:DSK 1 S 4 es4):wiS S [0,1,2,3]=[0,1,2,3,4,5]:=by
 unfold wiS
 rw [h.its]
 decide
section
variable {h : Hp} {s : TSketch} {S : PSk} {Kb : Bool → Hp → Prop}
theorem zhr (ht:GT h) (H:∀h',h.le h'→Kb true h'):callP F.zc4 Kb h:=by
 refine za1 (fun b _=>b=true) (fun K' hk=>?_) fun b h' hl hb=>by subst hb; exact H h' hl
 unfold F.zc4
 refine zg9 fun p1 h1 hl1 c1=>zg9 fun p2 h2 hl2 c2=>?_
 have hle2:=Hp.le_trans hl1 hl2
 have g4:∀{h'},h2.le h'→LR a2c 2 A2P h' ⟨some p1,6,6⟩ es4:=fun hl=>LR.le zf9 (h:=h1) ⟨[⟨0,1⟩,⟨0,2⟩,⟨0,3⟩,⟨1,2⟩,⟨1,3⟩,⟨2,3⟩],zdn (size:=2) (n:=6) c1 rfl,Nat.le_refl _,rfl,fun k k1 k2=>by
  match k,k1 with
  | 0,_=>exact ⟨rfl,rfl⟩
  | 1,_=>exact ⟨rfl,rfl⟩
  | 2,_=>exact ⟨rfl,rfl⟩
  | 3,_=>exact ⟨rfl,rfl⟩
  | 4,_=>exact ⟨rfl,rfl⟩
  | 5,_=>exact ⟨rfl,rfl⟩⟩ (Hp.le_trans hl2 hl)
 have g3:∀{h'},h2.le h'→LR a2c 2 A2P h' ⟨some p2,3,3⟩ es3:=fun hl=>LR.le zf9 (h:=h2) ⟨[⟨0,1⟩,⟨0,2⟩,⟨1,2⟩],zdn (size:=2) (n:=3) c2 rfl,Nat.le_refl _,rfl,fun k k1 k2=>by
  match k,k1 with
  | 0,_=>exact ⟨rfl,rfl⟩
  | 1,_=>exact ⟨rfl,rfl⟩
  | 2,_=>exact ⟨rfl,rfl⟩⟩ hl
 refine zuo fun r3 h3 hl3 hr3=>?_
 refine zvc (g:=⟨4,⟨some p1,6,6⟩⟩) (es:=es4) (N:=4) rfl (by decide) (g4 hl3) (by decide) hr3 fun s4 S4 h4 hl4 hx4 hd4=>?_
 have l4:=Hp.le_trans hl3 hl4
 have hle4:=Hp.le_trans hle2 l4
 have v4:VS S4:=hd4.vs dec1 (by decide)
 have ss4:sSk S4:=hd4.ss (by decide) (by decide)
 have k4:coreS S4=[0,1,2,3]:=(za2f hd4 (by decide)).unique core4
 refine zvd hx4 ss4 (ht.le hle4) fun r5 h5 hl5 hr5=>?_
 obtain ⟨i1,i2⟩:IL h5 r5.1 [0,1,2,3]∧IL h5 r5.2 [0,1,2,3,4,5]:=by
  rcases hr5 with ⟨_,_,h6,h7⟩ | ⟨h6,_⟩
  · rw [k4] at h6 h7
    rw [bars4 hd4] at h7
    exact ⟨h6,h7⟩
  · rcases h6 with h6 | h6
    · exact absurd v4 h6
    · rw [k4] at h6; cases h6
 have l5:=Hp.le_trans l4 hl5
 refine zg9 fun p6 h6 hl6 c6=>?_
 refine zi0 (xs:=[0,1,2,3]) (ys:=[0,1,2,3]) (i1.le hl6) ⟨zdn (size:=1) (n:=4) c6 rfl,Nat.le_refl _⟩ (by decide) fun h7 hl7=>?_
 refine zbb (decide_eq_true rfl) ?_
 refine zg9 fun p8 h8 hl8 c8=>?_
 have l58:=Hp.le_trans hl6 (Hp.le_trans hl7 hl8)
 refine zi0 (xs:=[0,1,2,3,4,5]) (ys:=[0,1,2,3,4,5]) (i2.le l58) ⟨zdn (size:=1) (n:=6) c8 rfl,Nat.le_refl _⟩ (by decide) fun h9 hl9=>?_
 refine zbb (decide_eq_true rfl) ?_
 have l9:=Hp.le_trans l5 (Hp.le_trans l58 hl9)
 refine zuo fun r10 h10 hl10 hr10=>?_
 have l10:=Hp.le_trans l9 hl10
 refine zvc (g:=⟨3,⟨some p2,3,3⟩⟩) (es:=es3) (N:=3) rfl (by decide) (g3 l10) (by decide) hr10 fun s11 S11 h11 hl11 hx11 hd11=>?_
 have l11:=Hp.le_trans l10 hl11
 have v11:VS S11:=hd11.vs dec1 (by decide)
 have ss11:sSk S11:=hd11.ss (by decide) (by decide)
 have k11:coreS S11=[]:=(za2f hd11 (by decide)).unique core3
 refine zlo hx11 ss11 (ht.le (Hp.le_trans hle2 l11)) fun b12 h12 hl12 hb12=>?_
 rw [hb12.2 ⟨v11,k11⟩]
 refine zbb rfl ?_
 have l12:=Hp.le_trans l11 hl12
 refine zt4 (g:=⟨3,⟨some p2,3,3⟩⟩) (es:=es3) (g3 l12) (by decide) (fun _ _ hn=>absurd gv3 hn) fun y13 T13 h13 hl13 _ hi13 hc13=>?_
 have e13:T13=[]:=hc13.unique core3
 rw [e13] at hi13
 have n13:=hi13.len
 have n13:y13.len=0:=n13
 refine za7 (fun _=>?_) (fun hh=>absurd (by rw [n13]; rfl) hh)
 have l13:=Hp.le_trans l12 hl13
 refine zt4 (g:=⟨4,⟨some p1,6,6⟩⟩) (es:=es4) (g4 l13) (by decide) (fun _ _ hn=>absurd gv4 hn) fun y14 T14 h14 hl14 _ hi14 hc14=>?_
 have e14:T14=[0,1,2,3]:=hc14.unique core4
 rw [e14] at hi14
 refine zg9 fun p15 h15 hl15 c15=>?_
 refine zi0 (xs:=[0,1,2,3]) (ys:=[0,1,2,3]) (hi14.le hl15) ⟨zdn (size:=1) (n:=4) c15 rfl,Nat.le_refl _⟩ (by decide) fun h16 hl16=>?_
 exact hk _ _ (Hp.le_trans hle2 (Hp.le_trans l13 (Hp.le_trans hl14 (Hp.le_trans hl15 hl16)))) (decide_eq_true rfl)
theorem zr3 (hx:SK h s S) (H:∀b h',h.le h'→(b=true→sSk S)→Kb b h'):callP (F.zh9 s) Kb h:=by
 refine za1 (fun b _=>b=true→sSk S) (fun K' hk=>?_) fun b h' hl hb=>H b h' hl hb
 unfold F.zh9
 refine za39 hx fun b h1 hl1 hb=>za2 (fun h2=>?_) (fun h2=>hk _ _ hl1 fun h3=>by cases h3)
 refine za0 (fun _=>za0 (fun _=>hk _ _ hl1 fun _=>hb h2) (fun _=>hk _ _ hl1 fun h3=>by cases h3)) (fun _=>hk _ _ hl1 fun h3=>by cases h3)
end
end Den
end

section
namespace Den
open Go Iv Lx
section
variable {h : Hp} {s : TSketch} {S : PSk} {g : TGraph} {es : List (Int × Int)} {l : Sl} {xs : List Int} {K : Bool → Hp → Prop}
theorem za54 {r q:Sl×Sl} {h1 h2:Hp} (hl:h1.le h2) (hr:CORE h1 S r) (hq:CORE h2 S q):∃az bs,IL h2 r.1 az∧IL h2 q.1 az∧IL h2 r.2 bs∧IL h2 q.2 bs∧(VS S→az=coreS S)∧(¬VS S→az=[]):=by
 rcases hr with ⟨v,n,i1,i2⟩ | ⟨n,e⟩
 · rcases hq with ⟨_,_,j1,j2⟩ | ⟨m,_⟩
   · exact ⟨_,_,i1.le hl,j1,i2.le hl,j2,fun _=>rfl,fun hn=>absurd v hn⟩
   · rcases m with m | m
     · exact absurd v m
     · exact absurd m n
 · rcases hq with ⟨v,m,_,_⟩ | ⟨m,e2⟩
   · rcases n with n | n
     · exact absurd v n
     · exact absurd n m
   · subst e e2
     refine ⟨[],[],IL.nil,IL.nil,IL.nil,IL.nil,fun hv=>?_,fun _=>rfl⟩
     rcases n with n | n
     · exact absurd hv n
     · exact n.symm
theorem zaj0 {S:PSk} (hs:sSk S) (T:List Int):(wiS S T).length≤1000000:=by
 have h1:=zrm (its S) T (its S).length
 have h2:=zhq hs
 rw [zdw] at h1
 unfold wiS
 rw [zdw]; omega
theorem zae8 (hx:SK h s S) (ht:GT h) (hk:∀h',h.le h'→K true h'):F.zjz s K h:=by
 unfold F.zjz
 refine za3 (fun _ h'=>h.le h'∧sSk S) ?_ ?_
 · rintro _ h1 ⟨hl1,hs⟩
   refine zvd (hx.le hl1) hs (ht.le hl1) fun r3 h2 hl2 hr3=>?_
   have hle2:=Hp.le_trans hl1 hl2
   refine za42 (hx.le hle2) hs fun r4 h3 hl3 hr4=>?_
   have hle3:=Hp.le_trans hle2 hl3
   obtain ⟨az,bs,i1,i2,i3,i4,e1,e2⟩:=za54 hl3 hr3 hr4
   have hcl:=zqg hs
   have hal:az.length≤20:=by
    by_cases hv:VS S
    · rw [e1 hv]; exact hcl
    · rw [e2 hv]; simp
   have hbl:bs.length≤1000000:=by
    rcases hr3 with ⟨_,_,_,j⟩ | ⟨_,e⟩
    · have n1:=j.len
      have n2:=i3.len
      have:=zaj0 hs (coreS S)
      omega
    · have n2:=i3.len
      rw [e] at n2
      have:bs.length=0:=n2.symm
      omega
   refine zi0 i1 i2 (by omega) fun h4 hl4=>zbb (decide_eq_true rfl) ?_
   refine zi0 (i3.le hl4) (i4.le hl4) hbl fun h5 hl5=>zbb (decide_eq_true rfl) ?_
   have hle5:=Hp.le_trans hle3 (Hp.le_trans hl4 hl5)
   refine zlo (hx.le hle5) hs (ht.le hle5) fun b6 h6 hl6 hb6=>?_
   have hle6:=Hp.le_trans hle5 hl6
   refine zno (hx.le hle6) hs fun r7 h7 hl7 hr7=>?_
   have hle7:=Hp.le_trans hle6 hl7
   have n4:=i2.len
   have fin:∀b,b=true→K b h7:=fun b hb=>by rw [hb]; exact hk _ hle7
   refine za7 (fun h8=>fin _ ?_) (fun h8=>fin _ ?_)
   · have hv:=hr7.1 h8
     have e3:=e1 hv
     rw [beq_iff_eq,Bool.eq_iff_iff,hb6,beq_iff_eq]
     constructor
     · rintro ⟨_,h9⟩
       rw [e3,h9] at n4
       rw [n4]; rfl
     · intro h9
       refine ⟨hv,?_⟩
       rw [←e3]
       exact List.eq_nil_of_length_eq_zero (by omega)
   · have hn:¬VS S:=fun hv=>h8 (hr7.2 hv)
     rw [beq_iff_eq,←Bool.not_eq_true]
     exact fun hh=>hn (hb6.1 hh).1
 · refine zhr ht fun h1 hl1=>zak rfl ?_
   refine zr3 (hx.le hl1) fun b h2 hl2 hb=>?_
   have hle2:=Hp.le_trans hl1 hl2
   exact za2 (fun h3=>zhr (ht.le hle2) fun h3 hl3=>hk _ (Hp.le_trans hle2 hl3)) (fun h3=>⟨hle2,hb (by simpa using h3)⟩)
theorem zae9 (hx:SK h s S) (ht:GT h) (hl:IL h l xs) (hk:∀h',h.le h'→K true h'):F.zk0 s l K h:=by
 unfold F.zk0
 have hll:=hl.len
 refine za3 (fun _ h'=>h.le h'∧sSk S∧xs.length≤20) ?_ ?_
 · rintro _ h1 ⟨hl1,hs,h20⟩
   refine za93 fun p3 h2 ho2=>?_
   have hle2:=Hp.le_trans hl1 ho2.dle
   refine ho2.appAll (hl.le hle2) (by simp; omega) fun w5 h3 ho3=>?_
   rw [List.nil_append] at ho3
   have hle3:=Hp.le_trans hl1 ho3.dle
   refine zwk (hx.le hle3) hs (ht.le hle3) ho3.il (by omega) fun b4 h4 hl4 hb4=>?_
   have hle4:=Hp.le_trans hle3 hl4
   refine zwu (hx.le hle4) hs (hl.le hle4) (by omega) fun b5 h5 hl5 hb5=>?_
   have e:b4=b5:=by rw [Bool.eq_iff_iff,hb4,hb5]
   rw [e,beq_self_eq_true]
   exact hk _ (Hp.le_trans hle4 hl5)
 · refine zhr ht fun h1 hl1=>zak rfl ?_
   refine zr3 (hx.le hl1) fun b h2 hl2 hb=>?_
   have hle2:=Hp.le_trans hl1 hl2
   refine za2 (fun h3=>zhr (ht.le hle2) fun h3 hl3=>hk _ (Hp.le_trans hle2 hl3)) (fun h3=>?_)
   exact za0 (fun h4=>zhr (ht.le hle2) fun h3 hl3=>hk _ (Hp.le_trans hle2 hl3)) (fun h4=>⟨hle2,hb (by simpa using h3),by omega⟩)
end
end Den
end
