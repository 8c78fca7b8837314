/-
  Part 7 of the tools and contracts from which the statement is proved.
-/
import Derived.Test.YthifcokendanpaaGreatDoorParta6
import Derived.Test.YthifcokendanpaaGreatDoorProg
import Derived.Laws.Externs
import Derived.Lib.Builder
import Derived.Lib.UnsafeStr
import Derived.WalkKit
import Derived.ProofKit
set_option linter.all false
section
set_option maxRecDepth 100000
namespace Den
open Go Go.Proofs.Tryz
noncomputable section
noncomputable def zln:ArgT ((Option Addr)×Unit):=(ArgT.cons (Ty.leaf .ptr) ArgT.nil)
noncomputable def zec:Ty Unit:=Ty.unit
noncomputable def zeg:FSem:=mkM zln zec (fun a=>F.zdb a.1)
set_option maxHeartbeats 1000000 in
set_option maxRecDepth 100000 in
theorem zkv (b:Nat) (w:World) (h0:w.cell? ⟨b,0,none⟩=some (.pointer (some ⟨b,0,none⟩))) :
 Calls Go.Proofs.Tryz.prog 292 #[.pointer (some ⟨b,0,none⟩)] w fun e w'=>e=.returned (.tuple #[])∧w'=w:=by
 obtain ⟨j,hj,_⟩:=Option.map_eq_some_iff.1 (show (Go.Proofs.Tryz.prog.info? 239).map (·.size)=some 2 by kernel_rfl)
 go_enter Go.Proofs.Tryz.func292,Go.Proofs.Tryz.ntmps292
 go_wp2
 rw [Lib.run_neq_ptr_same w _ Go.Proofs.Tryz.underlying237 hj]
 go_wp2
 go_end0
 exact ⟨rfl,rfl⟩
set_option maxHeartbeats 1000000 in
set_option maxRecDepth 100000 in
theorem zku (b:Nat) (w:World) (h0:w.cell? ⟨b,0,none⟩=some (.pointer none)) (hsh:w.shape? b=some (239,2)) (hfz:w.frozen? ⟨b,0,none⟩=false) :
 Calls Go.Proofs.Tryz.prog 292 #[.pointer (some ⟨b,0,none⟩)] w fun e w'=>e=.returned (.tuple #[])∧w'=w.setCell ⟨b,0,none⟩ (.pointer (some ⟨b,0,none⟩)):=by
 obtain ⟨j,hj,hjs⟩:=Option.map_eq_some_iff.1 (show (Go.Proofs.Tryz.prog.info? 239).map (·.size)=some 2 by kernel_rfl)
 have hli:liesAt Go.Proofs.Tryz.prog Go.Proofs.Tryz.prog.depth 239 (2/Go.Proofs.Tryz.prog.cellsOf 239) 0 239 1=true:=by kernel_rfl
 go_enter Go.Proofs.Tryz.func292,Go.Proofs.Tryz.ntmps292
 go_wp2
 rw [Lib.run_to_unsafe w ⟨b,0,none⟩ Go.Proofs.Tryz.underlying237 Go.Proofs.Tryz.underlying259 hj (by rw [hjs]; decide) hsh (Nat.zero_lt_succ 1)]
 simp only [Result.andThen]
 rw [Oper.upon_value]
 go_wp2
 rw [run_callFunc_extern Go.Proofs.Tryz.func300 (by kernel_rfl) (by kernel_rfl) (by kernel_rfl) (e:=Extern.AbiNoEscape.same) (by kernel_rfl)]
 rw [Lib.run_noEscape]
 simp only [Result.andThen]
 rw [Oper.upon_value]
 go_wp2
 rw [Lib.run_from_unsafe w ⟨b,0,none⟩ Go.Proofs.Tryz.underlying259 Go.Proofs.Tryz.underlying237 hj hsh hli]
 simp only [Result.andThen]
 rw [Oper.upon_value]
 go_wp2
 go_end0
 exact ⟨rfl,rfl⟩
theorem zgn:Entry Go.Proofs.Tryz.prog 292 zeg true:=
 zqk ⟨_,Go.Proofs.Tryz.func292,rfl,by decide⟩ (fun a K D w hs hk=>by
  obtain ⟨p,u⟩:=a
  obtain ⟨b,bl,hp,hb,he,hf,hl,hc⟩:=hk
  simp only at hp
  subst hp
  have hw:=hs _ _ hb
  have hlt:=zcu hw
  rw [he,hf] at hw
  rcases hc with ⟨h0,hK⟩ | ⟨h0,hK⟩
  · have c0:w.cell? ⟨b,0,none⟩=some (.pointer none):=by unfold World.cell?; simp only [hw]; simp [h0]
    refine (zku b w c0 (by simp [World.shape?,hw,hl]) (by unfold World.frozen?; simp only [hw]; simp)).mono ?_
    rintro e w' ⟨rfl,rfl⟩
    refine ⟨_,_,rfl,(zec.cmp _ _).2 hK,?_,?_,?_⟩
    · intro k c hk
      rw [zof hw]
      by_cases hkb:k=b
      · subst hkb
        rw [Hp.ins_same] at hk; cases hk
        rw [zhj hlt]
        simp [he,hf]
      · rw [Hp.ins_ne hkb] at hk; rw [zif hkb]; exact hs k c hk
    · rw [zof hw]
      refine ⟨by rw [zj3]; exact Nat.le_refl _,fun k hk1 hk2=>?_,rfl,rfl,rfl,Nat.le_refl _⟩
      exact zif fun hh=>by rw [hh,hb] at hk2; cases hk2
    · intro k hk1 hk2
      have hkb:k≠b:=fun hh=>by rw [hh,hb] at hk2; cases hk2
      rw [Hp.ins_ne hkb] at hk1; exact absurd hk2 hk1
  · have c0:w.cell? ⟨b,0,none⟩=some (.pointer (some ⟨b,0,none⟩)):=by unfold World.cell?; simp only [hw]; simp [h0]
    refine (zkv b w c0).mono ?_
    rintro e w' ⟨rfl,rfl⟩
    exact ⟨_,D,rfl,(zec.cmp _ _).2 hK,hs,Fr.refl _ _,fun k h1 h2=>absurd h2 h1⟩)
noncomputable def e_x80:FSem:=mkM (ArgT.cons (Ty.leaf .ptr) (ArgT.cons (Ty.leaf .str) ArgT.nil)) (Ty.tup (.cons (Ty.leaf (.int .i64)) (.cons (Ty.leaf .val) .nil)) (fun x=>(x.1,x.2,())) (fun y=>(y.1,y.2.1)) (fun _=>rfl) (fun _=>rfl)) fun a=>F.zb1 a.1 a.2.1
theorem t_x80:Entry prog 278 e_x80 true:=eoM { P:=prog,n:=19,tab:=[(292,zeg)],mutL:=[292],tyL:=[5] } (.seq .leaf (.seq .leaf (.seq .leaf (.seq .leaf .leaf)))) func278 ⟨zgn,trivial⟩
noncomputable def e_x81:FSem:=mkE (ArgT.cons (Ty.leaf (.int .u64)) (ArgT.cons (Ty.leaf (.int .u64)) ArgT.nil)) (Ty.tup (.cons (Ty.leaf (.int .u64)) (.cons (Ty.leaf (.int .u64)) .nil)) (fun x=>(x.1,x.2,())) (fun y=>(y.1,y.2.1)) (fun _=>rfl) (fun _=>rfl)) fun a=>F.zk0 a.1 a.2.1
theorem t_x81:Entry prog 295 e_x81 false:=eo { P:=prog,n:=51,tab:=[] } (.seq .leaf (.seq .leaf (.seq .leaf (.seq .leaf (.seq .leaf (.seq .leaf (.seq .leaf (.seq .leaf (.seq .leaf (.seq .leaf (.seq .leaf (.seq .leaf .leaf)))))))))))) func295 trivial
noncomputable def e_x82:FSem:=mkE (ArgT.cons (Ty.leaf (.int .u64)) (ArgT.cons (Ty.leaf (.int .u64)) ArgT.nil)) (Ty.tup (.cons (Ty.leaf (.int .u64)) (.cons (Ty.leaf (.int .u64)) .nil)) (fun x=>(x.1,x.2,())) (fun y=>(y.1,y.2.1)) (fun _=>rfl) (fun _=>rfl)) fun a=>F.zj9 a.1 a.2.1
theorem t_x82:Entry prog 280 e_x82 false:=eo { P:=prog,n:=30,tab:=[(295,e_x81)] } (.seq .leaf (.seq (.cond (.seq .leaf (.seq .leaf .leaf)) .leaf) (.seq .leaf (.seq .leaf .leaf)))) func280 ⟨t_x81,trivial⟩
noncomputable def e_x83:FSem:=mkE (ArgT.cons (Ty.leaf .str) (ArgT.cons (Ty.leaf .str) ArgT.nil)) (Ty.leaf .bool) fun a=>F.zdf a.1 a.2.1
theorem t_x83:Entry prog 296 e_x83 false:=eo { P:=prog,n:=18,tab:=[] } (.seq .leaf (.seq .leaf .leaf)) func296 trivial
noncomputable def e_x84:FSem:=mkE (ArgT.cons (Ty.leaf .str) (ArgT.cons (Ty.leaf .str) ArgT.nil)) (Ty.leaf .bool) fun a=>F.za8 a.1 a.2.1
theorem t_x84:Entry prog 281 e_x84 false:=eo { P:=prog,n:=8,tab:=[(296,e_x83)] } (.seq .leaf (.seq .leaf .leaf)) func281 ⟨t_x83,trivial⟩
noncomputable def e_x85:FSem:=mkE (ArgT.cons (Ty.leaf .str) (ArgT.cons (Ty.leaf (.int .i64)) ArgT.nil)) (Ty.leaf .str) fun a=>F.zfb a.1 a.2.1
theorem t_x85:Entry prog 263 e_x85 false:=eo { P:=prog,n:=125,tab:=[(280,e_x82),(281,e_x84)],tyL:=[239] } (.seq .leaf (.seq (.seq .leaf (.block (.seq .leaf (.cond (.seq .leaf .leaf) (.seq .leaf (.cond (.seq .leaf .leaf) .leaf)))))) (.join [] (.seq .leaf (.cond .leaf .leaf)) (.seq .leaf (.join [] (.seq .leaf (.cond .leaf .leaf)) (.seq .leaf (.seq (.seq .leaf (.cond (.seq .leaf .leaf) .leaf)) (.join [] (.seq .leaf (.block (.join [(43,.leaf (.bool))] (.seq .leaf (.cond .leaf (.seq .leaf (.cond .leaf (.seq .leaf (.cond .leaf (.seq .leaf (.cond .leaf .leaf)))))))) (.cond (.block (.seq .leaf (.cond (.seq .leaf .leaf) (.seq .leaf (.cond (.seq .leaf .leaf) (.seq .leaf (.cond (.seq .leaf .leaf) (.seq .leaf (.cond (.seq .leaf .leaf) (.seq .leaf (.cond (.seq .leaf .leaf) .leaf))))))))))) .leaf)))) (.seq .leaf (.join [(8,.leaf (.int .i64))] (.seq .leaf (.cond (.seq .leaf (.seq .leaf (.cond .leaf .leaf))) .leaf)) (.seq .leaf (.seq .leaf (.seq .leaf (.seq (.block (.loop [] (.seq (.seq .leaf (.cond .leaf .leaf)) (.block (.seq .leaf .leaf))))) (.seq .leaf .leaf))))))))))))))) func263 ⟨t_x82,t_x84,trivial⟩
noncomputable def zmv:ArgT ((Option Addr)×Unit):=(ArgT.cons (Ty.leaf .ptr) ArgT.nil)
noncomputable def zfc:Ty ByteArray:=(Ty.leaf .str)
noncomputable def zhz:FSem:=mkM zmv zfc (fun a=>F.zeb a.1)
set_option maxHeartbeats 2000000 in
set_option maxRecDepth 100000 in
theorem zmc (b:Nat) (p:Value) (w:World) (hbk:w.heap[b]?=some (.cells #[p,.slice none 0 0] 239 (0,0))) :
 Calls Go.Proofs.Tryz.prog 279 #[.pointer (some ⟨b,0,none⟩)] w fun e w'=>e=.returned (.string ⟨#[]⟩)∧w'=w.drew:=by
 have hUS:∀(W:World) (q:Option Addr),(Builtin.unsafeString_ #[252,3] 9 #[.pointer q,.int .i64 0]).run Go.Proofs.Tryz.prog W=.ok (.string .empty) W:=fun W q=>Lib.run_unsafeString_none W _ _ _ q
 have c1:w.drew.cell? ⟨b,1,none⟩=some (.slice none 0 0):=by
  have:w.drew.heap[b]?=some (.cells #[p,.slice none 0 0] 239 (0,0)):=hbk
  rw [Lib.cell_of_heap this]; rfl
 have hSD:(Builtin.unsafeSliceData_ #[44] 252 #[.slice none 0 0]).run Go.Proofs.Tryz.prog w.drew=.ok (.pointer none) w.drew:=rfl
 go_enter Go.Proofs.Tryz.func279,Go.Proofs.Tryz.ntmps279
 go_wp2
 go_region
 all_goals (go_wp2; go_ret; exact ⟨rfl,rfl⟩)
set_option maxHeartbeats 2000000 in
set_option maxRecDepth 100000 in
theorem zmd (b g cap cells:Nat) (p:Value) (l:List UInt8) (w:World) (h0:l≠[]) (hbk:w.heap[b]?=some (.cells #[p,.slice (some ⟨g,0,none⟩) l.length cap] 239 (0,0))) (hc:l.length≤cap) (hsh:w.shape? g=some (5,cells)) (hn:l.length≤cells) (h63:l.length≤140737488355328)
 (hcell:∀j x,l[j]?=some x→w.cell? ((⟨g,0,none⟩:Addr).add j)=some (.int .u8 x.toNat)) :
 Calls Go.Proofs.Tryz.prog 279 #[.pointer (some ⟨b,0,none⟩)] w fun e w'=>e=.returned (.string ⟨l.toArray⟩)∧w'=w.drew.freeze ⟨g,0,none⟩ l.length:=by
 have hl0:l.length≠0:=by simpa using h0
 have c1:w.drew.cell? ⟨b,1,none⟩=some (.slice (some ⟨g,0,none⟩) l.length cap):=by
  have:w.drew.heap[b]?=some (.cells #[p,.slice (some ⟨g,0,none⟩) l.length cap] 239 (0,0)):=hbk
  rw [Lib.cell_of_heap this]; rfl
 have hSD:(Builtin.unsafeSliceData_ #[44] 252 #[.slice (some ⟨g,0,none⟩) l.length cap]).run Go.Proofs.Tryz.prog w.drew=.ok (.pointer (some ⟨g,0,none⟩)) w.drew:=
  Lib.run_unsafeSliceData_row _ _ _ _ _ _ (by omega)
 have hUS:(Builtin.unsafeString_ #[252,3] 9 #[.pointer (some ⟨g,0,none⟩),.int .i64 l.length]).run Go.Proofs.Tryz.prog w.drew=.ok (.string ⟨l.toArray⟩) (w.drew.freeze ⟨g,0,none⟩ l.length):=
  Lib.run_unsafeString_row w.drew 252 3 9 5 Go.Proofs.Tryz.underlying252 (by kernel_rfl) g cells hsh l h0 hn (by omega) hcell
 go_enter Go.Proofs.Tryz.func279,Go.Proofs.Tryz.ntmps279
 go_wp2
 go_region
 all_goals (go_wp2; go_ret; exact ⟨rfl,rfl⟩)
theorem znf:Entry Go.Proofs.Tryz.prog 279 zhz true:=
 zqk ⟨_,Go.Proofs.Tryz.func279,rfl,by decide⟩ (fun a K D w hs hk=>by
  obtain ⟨q,u⟩:=a
  obtain ⟨b,bl,p,hp,hb,he,hf,hc⟩:=hk
  simp only at hp
  subst hp
  have hw:=hs _ _ hb
  rw [he,hf] at hw
  rcases hc with ⟨hcs,hK⟩ | ⟨g,c,l,bg,h0,hcs,hlc,hg,hge,hlg,h63,hall,hK⟩
  · rw [hcs] at hw
    refine (zmc b p w hw).mono ?_
    rintro e w' ⟨rfl,rfl⟩
    exact ⟨_,D,rfl,(zfc.cmp _ _).2 hK,hs,zon D w,fun k h1 h2=>absurd h2 h1⟩
  · rw [hcs] at hw
    have hwg:=hs _ _ hg
    rw [hge] at hwg
    have hltg:=zcu hwg
    refine (zmd b g c bg.cells.length p l w h0 hw hlc (by simp [World.shape?,hwg]) hlg h63 (fun j x hj=>?_)).mono ?_
    · rw [zg2,Nat.zero_add]
      unfold World.cell?
      simp only [hwg]
      simp [hall j x hj]
    · rintro e w' ⟨rfl,rfl⟩
      have hsz:(w.drew.freeze ⟨g,0,none⟩ l.length).heap.size=w.heap.size:=by
       unfold World.freeze
       split
       · rfl
       · simp only [Array.size_modify]
         rfl
      have hne:∀k,k≠g→(w.drew.freeze ⟨g,0,none⟩ l.length).heap[k]?=w.heap[k]?:=fun k hk=>by
       unfold World.freeze
       split
       · rfl
       · simp only [Array.getElem?_modify]
         rw [if_neg (fun hh=>hk hh.symm)]
         rfl
      refine ⟨_,_,rfl,(zfc.cmp _ _).2 hK,?_,?_,?_⟩
      · intro k cb hk
        by_cases hkg:k=g
        · simp [hkg] at hk
        · simp only [if_neg hkg] at hk
          rw [hne k hkg]; exact hs k cb hk
      · refine ⟨Nat.le_of_eq hsz.symm,fun k hk1 hk2=>?_,?_,?_,?_,?_⟩
        · exact hne k fun hh=>by rw [hh,hg] at hk2; cases hk2
        · unfold World.freeze; split<;>rfl
        · unfold World.freeze; split<;>rfl
        · unfold World.freeze; split<;>rfl
        · unfold World.freeze; split<;>exact Nat.le_succ _
      · intro k hk1 hk2
        by_cases hkg:k=g
        · simp [hkg] at hk1
        · simp only [if_neg hkg] at hk1; exact absurd hk2 hk1)
noncomputable def e_x86:FSem:=mkM (ArgT.cons (Ty.leaf .ptr) (ArgT.cons (Ty.leaf (.int .u8)) ArgT.nil)) (Ty.leaf .val) fun a=>F.zhu a.1 a.2.1
theorem t_x86:Entry prog 276 e_x86 true:=eoM { P:=prog,n:=17,tab:=[(292,zeg)],mutL:=[292],locL:=[13],tyL:=[5] } (.seq .leaf (.seq .leaf (.seq .leaf (.seq .leaf .leaf)))) func276 ⟨zgn,trivial⟩
noncomputable def e_x87:FSem:=mkE (ArgT.cons tyTInt ArgT.nil) (Ty.leaf .str) fun a=>F.zio a.1
theorem t_x87:Entry prog 262 e_x87 false:=eo { P:=prog,n:=74,tab:=[(212,e_x5),(215,e_x7),(246,e_x9),(277,e_x79),(278,e_x80),(263,e_x85),(279,zhz),(276,e_x86)],mutL:=[278,279,276],rtL:=[(11,1),(51,1)],locL:=[1,4,49],backs:=[(257,(.leaf (.int .u32)))],tyL:=[239] } (.seq .leaf (.seq .leaf (.seq (.seq .leaf (.cond (.seq .leaf .leaf) .leaf)) (.seq .leaf (.seq (.block (.loop [(3,.leaf (.sl)),(4,.box [.sl])] (.seq (.seq .leaf (.cond .leaf .leaf)) (.block (.seq .leaf (.seq (.seq .leaf (.block (.loop [(5,.leaf (.int .u64)),(6,.leaf (.int .i64))] (.seq (.seq .leaf (.cond .leaf .leaf)) (.seq (.block (.seq .leaf (.seq .leaf .leaf))) .leaf))))) (.seq .leaf .leaf))))))) (.seq .leaf (.join [] (.seq .leaf (.cond .leaf .leaf)) (.seq (.seq .leaf (.block (.back [] (.seq .leaf .leaf) (.block (.seq .leaf (.join [] (.seq .leaf (.cond .leaf .leaf)) .leaf)))))) (.seq .leaf .leaf))))))))) func262 ⟨t_x5,t_x7,t_x9,t_x79,t_x80,t_x85,znf,t_x86,trivial⟩ ⟨za43,trivial⟩
noncomputable def e_x88:FSem:=mkE (ArgT.cons tyTRat ArgT.nil) (Ty.tup (.cons (Ty.leaf .str) (.cons (Ty.leaf .bool) .nil)) (fun x=>(x.1,x.2,())) (fun y=>(y.1,y.2.1)) (fun _=>rfl) (fun _=>rfl)) fun a=>F.zhn a.1
theorem t_x88:Entry prog 247 e_x88 false:=eo { P:=prog,n:=65,tab:=[(258,e_x61),(259,e_x59),(260,e_x62),(261,e_x71),(262,e_x87),(263,e_x85),(116,e_x27),(120,e_x34)],rtL:=[(23,1),(31,1)],locL:=[1,4,5] } (.seq .leaf (.join [] (.seq .leaf (.cond (.seq .leaf .leaf) .leaf)) (.seq .leaf (.seq .leaf (.seq (.seq .leaf (.block (.loop [(1,.box [.bool,.sl,.bool,.sl]),(6,.leaf (.int .i64))] (.seq (.seq .leaf (.cond .leaf .leaf)) (.seq (.block (.seq (.seq .leaf (.cond (.seq .leaf .leaf) .leaf)) (.seq .leaf (.join [(7,.leaf (.str))] (.seq .leaf (.cond (.join [(7,.leaf (.str))] (.seq .leaf (.seq .leaf (.cond .leaf .leaf))) (.draw [0,1,2,3,4,5,6,7,8,9,10,11,12,13,14])) .leaf)) (.seq .leaf .leaf))))) .leaf))))) (.seq .leaf .leaf)))))) func247 ⟨t_x61,t_x59,t_x62,t_x71,t_x87,t_x85,t_x27,t_x34,trivial⟩
noncomputable def e_x89:FSem:=mkE (ArgT.cons (Ty.leaf (.int .u8)) ArgT.nil) (Ty.leaf .bool) fun a=>F.zge a.1
theorem t_x89:Entry prog 264 e_x89 false:=eo { P:=prog,n:=17,tab:=[] } (.seq .leaf (.seq .leaf .leaf)) func264 trivial
noncomputable def e_x90:FSem:=mkE (ArgT.cons (Ty.leaf (.int .u8)) ArgT.nil) (Ty.leaf .bool) fun a=>F.zh9 a.1
theorem t_x90:Entry prog 284 e_x90 false:=eo { P:=prog,n:=9,tab:=[] } (.seq .leaf (.seq .leaf .leaf)) func284 trivial
noncomputable def e_x91:FSem:=mkE (ArgT.cons (Ty.leaf (.int .u8)) ArgT.nil) (Ty.leaf .bool) fun a=>F.zjx a.1
theorem t_x91:Entry prog 266 e_x91 false:=eo { P:=prog,n:=13,tab:=[(264,e_x89),(284,e_x90)] } (.seq .leaf (.seq .leaf .leaf)) func266 ⟨t_x89,t_x90,trivial⟩
noncomputable def e_x92:FSem:=mkE (ArgT.cons (Ty.leaf .str) (ArgT.fn 266 ArgT.nil)) (Ty.leaf (.int .i64)) fun a=>F.zdt a.1
theorem t_x92:Entry prog 265 e_x92 false:=eo { P:=prog,n:=20,tab:=[(266,e_x91)] } (.seq .leaf (.seq .leaf (.seq (.block (.loop [(5,.leaf (.int .i64))] (.join [] (.seq .leaf (.cond .leaf .leaf)) (.block .leaf)))) (.seq .leaf .leaf)))) func265 ⟨t_x91,trivial⟩
noncomputable def e_x93:FSem:=mkE (ArgT.cons (Ty.leaf .str) ArgT.nil) (Ty.leaf .bool) fun a=>F.zgd a.1
theorem t_x93:Entry prog 248 e_x93 false:=eo { P:=prog,n:=22,tab:=[(264,e_x89),(265,e_x92)] } (.seq .leaf (.seq .leaf .leaf)) func248 ⟨t_x89,t_x92,trivial⟩
noncomputable def e_x94:FSem:=mkE (ArgT.cons tyTRat ArgT.nil) (Ty.leaf .bool) fun a=>F.zi0 a.1
theorem t_x94:Entry prog 249 e_x94 false:=eo { P:=prog,n:=27,tab:=[],rtL:=[(3,1),(4,1),(9,1),(10,1),(16,1),(17,1),(22,1),(23,1)],locL:=[1] } (.seq .leaf (.seq .leaf .leaf)) func249 trivial
noncomputable def A_x98:ArgT (TExpr×Unit):=(ArgT.cons tyTExpr ArgT.nil)
noncomputable def R_x98:Ty Bool:=(Ty.leaf .bool)
noncomputable def A_x95:ArgT (TExpr×Unit):=(ArgT.cons tyTExpr ArgT.nil)
noncomputable def R_x95:Ty Bool:=(Ty.leaf .bool)
noncomputable def e_x95 (Q_formula_formed:TExpr→(Bool→Hp→Prop)→Hp→Prop):FSem:=mkE A_x95 R_x95 fun a=>F.zgu Q_formula_formed a.1
theorem t_x95 (Q_formula_formed:TExpr→(Bool→Hp→Prop)→Hp→Prop) (h_formula_formed:Entry prog 224 (mkE A_x98 R_x98 (fun a=>Q_formula_formed a.1)) false):Entry prog 250 (e_x95 Q_formula_formed) false:=eo { P:=prog,n:=6,tab:=[(224,mkE A_x98 R_x98 (fun a=>Q_formula_formed a.1))],locL:=[1] } (.seq .leaf (.seq .leaf .leaf)) func250 ⟨h_formula_formed,trivial⟩
noncomputable def A_x96:ArgT (Sl×Unit):=(ArgT.cons (Ty.leaf .sl) (ArgT.fn 250 ArgT.nil))
noncomputable def R_x96:Ty Int:=(Ty.leaf (.int .i64))
noncomputable def e_x96 (Q_formula_formed:TExpr→(Bool→Hp→Prop)→Hp→Prop):FSem:=mkE A_x96 R_x96 fun a=>F.zbr Q_formula_formed a.1
theorem t_x96 (Q_formula_formed:TExpr→(Bool→Hp→Prop)→Hp→Prop) (h_formula_formed:Entry prog 224 (mkE A_x98 R_x98 (fun a=>Q_formula_formed a.1)) false):Entry prog 223 (e_x96 Q_formula_formed) false:=eo { P:=prog,n:=19,tab:=[(250,(e_x95 Q_formula_formed))] } (.seq .leaf (.seq (.seq .leaf (.block (.loop [(8,.leaf (.int .i64))] (.seq .leaf (.seq (.cond .leaf .leaf) (.seq (.block (.seq .leaf (.seq .leaf (.cond (.seq .leaf .leaf) .leaf)))) .leaf)))))) (.seq .leaf .leaf))) func223 ⟨(t_x95 Q_formula_formed h_formula_formed),trivial⟩
noncomputable def A_x97:ArgT (Sl×Unit):=(ArgT.cons (Ty.leaf .sl) (ArgT.fn 250 ArgT.nil))
noncomputable def R_x97:Ty Bool:=(Ty.leaf .bool)
noncomputable def e_x97 (Q_formula_formed:TExpr→(Bool→Hp→Prop)→Hp→Prop):FSem:=mkE A_x97 R_x97 fun a=>F.zbj Q_formula_formed a.1
theorem t_x97 (Q_formula_formed:TExpr→(Bool→Hp→Prop)→Hp→Prop) (h_formula_formed:Entry prog 224 (mkE A_x98 R_x98 (fun a=>Q_formula_formed a.1)) false):Entry prog 187 (e_x97 Q_formula_formed) false:=eo { P:=prog,n:=9,tab:=[(223,(e_x96 Q_formula_formed))] } (.seq .leaf (.seq .leaf .leaf)) func187 ⟨(t_x96 Q_formula_formed h_formula_formed),trivial⟩
noncomputable def e_x98:FSem:=mkE A_x98 R_x98 fun a=>F.zim a.1
noncomputable def c_x98 (n:Nat):Cfg:={ P:=prog,n:=68,tab:=[(247,e_x88),(248,e_x93),(249,e_x94),(187,(e_x97 (F.zcn n)))],rtL:=[(5,1),(9,1),(14,1),(17,1),(23,1),(28,1),(35,1),(39,1),(46,1),(50,1),(54,1),(58,1),(63,1)],locL:=[1] }
theorem u_x98:∃fn,prog.funcs[224]?=some fn∧fn.body.isNone=false∧(fn.name == "runtime.NumGoroutine")=false:=⟨_,func224,rfl,by decide⟩
theorem v_x98:∀n a K D w,Sub D w→F.zcn n a.1 K D→Calls prog 224 (A_x98.up a).toArray w (Post (fun v h=>R_x98.dn v fun r=>K r h) D w)
 | 0,_,_,_,_,_,h=>h.elim
 | n+1,a,K,D,w,hs,h=>zjk (C:=c_x98 n) (F:=fun a=>F.zcn (n+1) a.1) (fn:=f224) (c:=bd f224) (an:=(.seq .leaf (.join [] (.seq (.draw [0,1,2,3,4,5,6,7,8,9,10,11,12,13,14,15,16,17]) (.cond (.seq .leaf .leaf) .leaf)) (.seq (.seq .leaf (.block (.seq .leaf (.cond (.seq .leaf (.seq .leaf .leaf)) (.seq .leaf (.cond (.seq .leaf .leaf) .leaf)))))) (.seq .leaf .leaf))))) ⟨t_x88,t_x93,t_x94,(t_x97 (F.zcn n) (zd9 u_x98 (v_x98 n))),trivial⟩ trivial func224 rfl rfl (fun _=>rfl) (by intro a K D; kernel_rfl) a K D w hs h
theorem t_x98:Entry prog 224 e_x98 false:=zd9 u_x98 (fun a K D w hs h=>h.elim fun m h=>v_x98 m a K D w hs h)
noncomputable def A_x99:ArgT (TExpr×Unit):=(ArgT.cons tyTExpr ArgT.nil)
noncomputable def R_x99:Ty Int:=(Ty.leaf (.int .i64))
noncomputable def e_x99:FSem:=mkE A_x99 R_x99 fun a=>F.zj6 a.1
noncomputable def c_x99 (n:Nat):Cfg:={ P:=prog,n:=20,tab:=[(225,mkE A_x99 R_x99 (fun a=>F.zdy n a.1))],rtL:=[(6,1)],locL:=[1,5] }
theorem u_x99:∃fn,prog.funcs[225]?=some fn∧fn.body.isNone=false∧(fn.name == "runtime.NumGoroutine")=false:=⟨_,func225,rfl,by decide⟩
theorem v_x99:∀n a K D w,Sub D w→F.zdy n a.1 K D→Calls prog 225 (A_x99.up a).toArray w (Post (fun v h=>R_x99.dn v fun r=>K r h) D w)
 | 0,_,_,_,_,_,h=>h.elim
 | n+1,a,K,D,w,hs,h=>zjk (C:=c_x99 n) (F:=fun a=>F.zdy (n+1) a.1) (fn:=f225) (c:=bd f225) (an:=(.seq .leaf (.seq .leaf (.seq (.seq .leaf (.block (.loop [(3,.leaf (.int .i64)),(9,.leaf (.int .i64))] (.seq .leaf (.seq (.cond .leaf .leaf) (.seq (.block (.seq .leaf .leaf)) .leaf)))))) (.seq .leaf .leaf))))) ⟨(zd9 u_x99 (v_x99 n)),trivial⟩ trivial func225 rfl rfl (fun _=>rfl) (by intro a K D; kernel_rfl) a K D w hs h
theorem t_x99:Entry prog 225 e_x99 false:=zd9 u_x99 (fun a K D w hs h=>h.elim fun m h=>v_x99 m a K D w hs h)
noncomputable def za4h:FSem:=mkE (ArgT.cons tyTExpr ArgT.nil) (Ty.leaf (.int .i64)) fun a=>F.zj7 a.1
theorem zads:Entry prog 189 za4h false:=eo { P:=prog,n:=11,tab:=[(224,e_x98),(225,e_x99)],locL:=[1] } (.seq .leaf (.seq (.block (.seq .leaf (.cond (.seq .leaf .leaf) (.seq .leaf (.cond (.seq .leaf .leaf) .leaf))))) (.seq .leaf .leaf))) func189 ⟨t_x98,t_x99,trivial⟩
noncomputable def za4i:FSem:=mkE (ArgT.cons tyTExpr ArgT.nil) (Ty.leaf .bool) fun a=>F.zft a.1
theorem zadt:Entry prog 188 za4i false:=eo { P:=prog,n:=6,tab:=[(189,za4h)],locL:=[1] } (.seq .leaf (.seq .leaf .leaf)) func188 ⟨zads,trivial⟩
noncomputable def za4j:FSem:=mkE (ArgT.cons (Ty.leaf .sl) (ArgT.fn 188 ArgT.nil)) (Ty.leaf (.int .i64)) fun a=>F.zbo a.1
theorem zadu:Entry prog 223 za4j false:=eo { P:=prog,n:=19,tab:=[(188,za4i)] } (.seq .leaf (.seq (.seq .leaf (.block (.loop [(8,.leaf (.int .i64))] (.seq .leaf (.seq (.cond .leaf .leaf) (.seq (.block (.seq .leaf (.seq .leaf (.cond (.seq .leaf .leaf) .leaf)))) .leaf)))))) (.seq .leaf .leaf))) func223 ⟨zadt,trivial⟩
noncomputable def za4k:FSem:=mkE (ArgT.cons (Ty.leaf .sl) (ArgT.fn 188 ArgT.nil)) (Ty.leaf .bool) fun a=>F.zay a.1
theorem zadv:Entry prog 187 za4k false:=eo { P:=prog,n:=9,tab:=[(223,za4j)] } (.seq .leaf (.seq .leaf .leaf)) func187 ⟨zadu,trivial⟩
noncomputable def za4l:FSem:=mkE (ArgT.cons (Ty.leaf .sl) ArgT.nil) (Ty.leaf .bool) fun a=>F.zgr a.1
theorem zadw:Entry prog 190 za4l false:=eo { P:=prog,n:=49,tab:=[] } (.seq .leaf (.seq (.draw [0,1,2,3,4,5,6,7,8,9,10,11,12,13,14,15]) (.seq .leaf .leaf))) func190 trivial
noncomputable def zws:FSem:=mkE (ArgT.cons (Ty.leaf .sl) (ArgT.cons (Ty.leaf (.int .i64)) ArgT.nil)) (Ty.leaf (.int .i64)) fun a=>F.zdn a.1 a.2.1
theorem za8d:Entry prog 162 zws false:=eo { P:=prog,n:=19,tab:=[] } (.seq .leaf (.seq (.seq .leaf (.block (.loop [(8,.leaf (.int .i64))] (.seq .leaf (.seq (.cond .leaf .leaf) (.seq (.block (.seq .leaf (.seq .leaf (.cond (.seq .leaf .leaf) .leaf)))) .leaf)))))) (.seq .leaf .leaf))) func162 trivial
noncomputable def zmz:FSem:=mkE (ArgT.cons (Ty.leaf .sl) (ArgT.cons (Ty.leaf (.int .i64)) ArgT.nil)) (Ty.leaf .bool) fun a=>F.zbd a.1 a.2.1
theorem zp3:Entry prog 98 zmz false:=eo { P:=prog,n:=9,tab:=[(162,zws)] } (.seq .leaf (.seq .leaf .leaf)) func98 ⟨za8d,trivial⟩
noncomputable def za4m:FSem:=mkE (ArgT.cons (Ty.leaf .sl) ArgT.nil) (Ty.leaf .bool) fun a=>F.zde a.1
theorem zadx:Entry prog 191 za4m false:=eo { P:=prog,n:=18,tab:=[(98,zmz)] } (.seq .leaf (.seq (.seq .leaf (.block (.loop [(7,.leaf (.int .i64))] (.seq .leaf (.seq (.cond .leaf .leaf) (.seq (.block (.seq .leaf (.seq .leaf (.cond (.seq .leaf .leaf) .leaf)))) .leaf)))))) (.seq .leaf .leaf))) func191 ⟨zp3,trivial⟩
noncomputable def za4n:FSem:=mkE (ArgT.cons (Ty.leaf (.int .i64)) (ArgT.cons (Ty.leaf .ptr) ArgT.nil)) (Ty.leaf .bool) fun a=>F.zhk a.1 a.2.1
theorem zady:Entry prog 222 za4n false:=eo { P:=prog,n:=11,tab:=[] } (.seq .leaf (.seq .leaf .leaf)) func222 trivial
noncomputable def za4o:FSem:=mkE (ArgT.cons (Ty.leaf .sl) (ArgT.fnc 222 1 ArgT.nil)) (Ty.leaf (.int .i64)) fun a=>F.zca a.1 a.2.1
theorem zadz:Entry prog 135 za4o false:=eo { P:=prog,n:=19,tab:=[(222,za4n)] } (.seq .leaf (.seq (.seq .leaf (.block (.loop [(8,.leaf (.int .i64))] (.seq .leaf (.seq (.cond .leaf .leaf) (.seq (.block (.seq .leaf (.seq .leaf (.cond (.seq .leaf .leaf) .leaf)))) .leaf)))))) (.seq .leaf .leaf))) func135 ⟨zady,trivial⟩
noncomputable def za4p:FSem:=mkE (ArgT.cons (Ty.leaf .sl) (ArgT.fnc 222 1 ArgT.nil)) (Ty.leaf .bool) fun a=>F.zc0 a.1 a.2.1
theorem zae0:Entry prog 102 za4p false:=eo { P:=prog,n:=9,tab:=[(135,za4o)] } (.seq .leaf (.seq .leaf .leaf)) func102 ⟨zadz,trivial⟩
noncomputable def za4q:FSem:=mkE (ArgT.cons (Ty.leaf .sl) (ArgT.cons (Ty.leaf (.int .i64)) (ArgT.cons (Ty.leaf (.int .i64)) ArgT.nil))) (Ty.leaf .bool) fun a=>F.zf0 a.1 a.2.1 a.2.2.1
theorem zae1:Entry prog 186 za4q false:=eo { P:=prog,n:=17,tab:=[(102,za4p)] } (.seq .leaf (.seq .leaf .leaf)) func186 ⟨zae0,trivial⟩
noncomputable def za4r:FSem:=mkE (ArgT.cons tyTConstraint (ArgT.cons (Ty.leaf (.int .i64)) (ArgT.cons (Ty.leaf (.int .i64)) ArgT.nil))) (Ty.leaf .bool) fun a=>F.zgq a.1 a.2.1 a.2.2.1
theorem zae2:Entry prog 131 za4r false:=eo { P:=prog,n:=86,tab:=[(109,e_x58),(187,za4k),(190,za4l),(191,za4m),(186,za4q)],rtL:=[(10,3),(18,3),(20,7),(27,3),(29,7),(36,3),(39,7),(43,3),(46,7),(49,3),(54,3),(59,7),(63,3),(68,3),(75,3),(78,3),(82,3)],locL:=[3,7] } (.seq .leaf (.seq .leaf (.join [] (.seq .leaf (.cond (.seq .leaf .leaf) .leaf)) (.seq (.seq .leaf (.cond (.seq .leaf .leaf) .leaf)) (.join [] (.seq .leaf (.cond (.seq .leaf .leaf) .leaf)) (.seq (.seq .leaf (.block (.join [(70,.leaf (.bool))] (.seq .leaf (.cond .leaf (.seq .leaf (.cond .leaf (.seq .leaf (.cond .leaf .leaf)))))) (.cond (.seq .leaf .leaf) .leaf)))) (.seq .leaf .leaf))))))) func131 ⟨t_x58,zadv,zadw,zadx,zae1,trivial⟩
noncomputable def za4s:FSem:=mkE (ArgT.cons tyTConstraint (ArgT.cons (Ty.leaf .ptr) (ArgT.cons (Ty.leaf .ptr) ArgT.nil))) (Ty.leaf .bool) fun a=>F.zl3 a.1 a.2.1 a.2.2.1
theorem zae3:Entry prog 130 za4s false:=eo { P:=prog,n:=9,tab:=[(131,za4r)],locL:=[3] } (.seq .leaf (.seq .leaf .leaf)) func130 ⟨zae2,trivial⟩
noncomputable def za4t:FSem:=mkE (ArgT.cons tyTConstraint (ArgT.cons (Ty.leaf .ptr) ArgT.nil)) (Ty.leaf .bool) fun a=>F.zcf a.1 a.2.1
theorem zae4:Entry prog 185 za4t false:=eo { P:=prog,n:=8,tab:=[(130,za4s)],locL:=[2],fnL:=[(4,130,2)] } (.seq .leaf (.seq .leaf .leaf)) func185 ⟨zae3,trivial⟩
noncomputable def za4u:FSem:=mkE (ArgT.cons (Ty.leaf .sl) (ArgT.fnc 185 1 ArgT.nil)) (Ty.leaf (.int .i64)) fun a=>F.zaj a.1 a.2.1
theorem zae5:Entry prog 221 za4u false:=eo { P:=prog,n:=19,tab:=[(185,za4t)] } (.seq .leaf (.seq (.seq .leaf (.block (.loop [(8,.leaf (.int .i64))] (.seq .leaf (.seq (.cond .leaf .leaf) (.seq (.block (.seq .leaf (.seq .leaf (.cond (.seq .leaf .leaf) .leaf)))) .leaf)))))) (.seq .leaf .leaf))) func221 ⟨zae4,trivial⟩
noncomputable def za4v:FSem:=mkE (ArgT.cons (Ty.leaf .sl) (ArgT.fnc 185 1 ArgT.nil)) (Ty.leaf .bool) fun a=>F.zai a.1 a.2.1
theorem zae6:Entry prog 184 za4v false:=eo { P:=prog,n:=9,tab:=[(221,za4u)] } (.seq .leaf (.seq .leaf .leaf)) func184 ⟨zae5,trivial⟩
noncomputable def za4w:FSem:=mkE (ArgT.cons (Ty.leaf .sl) (ArgT.fnc 130 2 ArgT.nil)) (Ty.leaf .bool) fun a=>F.zbu a.1 a.2.1
theorem zae7:Entry prog 129 za4w false:=eo { P:=prog,n:=9,tab:=[(184,za4v)] } (.seq .leaf (.seq .leaf .leaf)) func129 ⟨zae6,trivial⟩
end
end Den
end

section
set_option maxRecDepth 100000
namespace Den
open Go Go.Proofs.Tryz
noncomputable section
noncomputable def zqd:FSem:=mkE (ArgT.cons tyTSketch ArgT.nil) (Ty.leaf (.int .i64)) fun a=>F.zel a.1
theorem zu3:Entry prog 56 zqd false:=eo { P:=prog,n:=49,tab:=[(113,e_x3),(114,e_x32),(117,e_x39),(121,e_x44),(123,e_x50),(126,e_x57),(129,za4w)],locL:=[3,4] } (.seq .leaf (.seq (.seq .leaf (.cond (.seq .leaf .leaf) .leaf)) (.seq (.drawP [0,1,2,3,4,5,6,7,8,9] [3,4]) (.join [(5,.leaf (.bool))] .leaf (.seq (.seq .leaf (.cond (.seq .leaf .leaf) .leaf)) (.seq .leaf .leaf)))))) func56 ⟨t_x3,t_x32,t_x39,t_x44,t_x50,t_x57,zae7,trivial⟩
noncomputable def za4x:FSem:=mkE (ArgT.cons (Ty.leaf .sl) (ArgT.cons (Ty.leaf .sl) ArgT.nil)) (Ty.leaf .bool) fun a=>F.zdm a.1 a.2.1
theorem zae8:Entry prog 95 za4x false:=eo { P:=prog,n:=26,tab:=[] } (.seq .leaf (.seq (.seq .leaf (.cond (.seq .leaf .leaf) .leaf)) (.seq (.seq .leaf (.block (.loop [(13,.leaf (.int .i64))] (.seq .leaf (.seq (.cond .leaf .leaf) (.seq (.block (.seq .leaf (.seq (.draw [0,1,2,3,4,5,6,7,8]) (.cond (.seq .leaf .leaf) .leaf)))) .leaf)))))) (.seq .leaf .leaf)))) func95 trivial
noncomputable def za4y:FSem:=mkE (ArgT.cons (Ty.leaf .sl) (ArgT.cons (Ty.leaf .sl) ArgT.nil)) (Ty.leaf .bool) fun a=>F.zha a.1 a.2.1
theorem zae9:Entry prog 267 za4y false:=eo { P:=prog,n:=26,tab:=[] } (.seq .leaf (.seq (.seq .leaf (.cond (.seq .leaf .leaf) .leaf)) (.seq (.seq .leaf (.block (.loop [(13,.leaf (.int .i64))] (.seq .leaf (.seq (.cond .leaf .leaf) (.seq (.block (.seq .leaf (.seq (.draw [0,1,2,3,4,5,6,7,8]) (.cond (.seq .leaf .leaf) .leaf)))) .leaf)))))) (.seq .leaf .leaf)))) func267 trivial
noncomputable def za4z:FSem:=mkE (ArgT.cons tyTInt (ArgT.cons tyTInt ArgT.nil)) (Ty.leaf .bool) fun a=>F.zjh a.1 a.2.1
theorem zaea:Entry prog 251 za4z false:=eo { P:=prog,n:=17,tab:=[(267,za4y)],rtL:=[(5,2),(7,3),(11,2),(13,3)],locL:=[2,3] } (.seq .leaf (.seq .leaf .leaf)) func251 ⟨zae9,trivial⟩
noncomputable def zsm:ArgT (Sl×Sl×Unit):=(ArgT.cons (Ty.leaf .sl) (ArgT.cons (Ty.leaf .sl) (ArgT.fn 227 ArgT.nil)))
noncomputable def zso:Ty Bool:=(Ty.leaf .bool)
noncomputable def zace:ArgT (TExpr×TExpr×Unit):=(ArgT.cons tyTExpr (ArgT.cons tyTExpr ArgT.nil))
noncomputable def zacg:Ty Bool:=(Ty.leaf .bool)
noncomputable def za50 (Q_slices_EqualFunc_api_Expr_api_Expr_api_Expr_api_Expr_formula_Equal:Sl→Sl→(Bool→Hp→Prop)→Hp→Prop):FSem:=mkE zace zacg fun a=>F.zpy Q_slices_EqualFunc_api_Expr_api_Expr_api_Expr_api_Expr_formula_Equal a.1 a.2.1
theorem zaeb (Q_slices_EqualFunc_api_Expr_api_Expr_api_Expr_api_Expr_formula_Equal:Sl→Sl→(Bool→Hp→Prop)→Hp→Prop) (h_slices_EqualFunc_api_Expr_api_Expr_api_Expr_api_Expr_formula_Equal:Entry prog 226 (mkE zsm zso (fun a=>Q_slices_EqualFunc_api_Expr_api_Expr_api_Expr_api_Expr_formula_Equal a.1 a.2.1)) false):Entry prog 227 (za50 Q_slices_EqualFunc_api_Expr_api_Expr_api_Expr_api_Expr_formula_Equal) false:=eo { P:=prog,n:=42,tab:=[(251,za4z),(226,mkE zsm zso (fun a=>Q_slices_EqualFunc_api_Expr_api_Expr_api_Expr_api_Expr_formula_Equal a.1 a.2.1))],rtL:=[(5,2),(7,3),(11,2),(13,3),(18,2),(19,2),(21,3),(22,3),(27,2),(28,2),(30,3),(31,3),(36,2),(38,3)],locL:=[2,3] } (.seq .leaf (.seq .leaf .leaf)) func227 ⟨zaea,h_slices_EqualFunc_api_Expr_api_Expr_api_Expr_api_Expr_formula_Equal,trivial⟩
noncomputable def za51:FSem:=mkE zsm zso fun a=>F.zb2 a.1 a.2.1
noncomputable def zack (n:Nat):Cfg:={ P:=prog,n:=32,tab:=[(227,(za50 (F.za9 n)))],locL:=[8,9] }
theorem za98:∃fn,prog.funcs[226]?=some fn∧fn.body.isNone=false∧(fn.name == "runtime.NumGoroutine")=false:=⟨_,func226,rfl,by decide⟩
theorem za9e:∀n a K D w,Sub D w→F.za9 n a.1 a.2.1 K D→Calls prog 226 (zsm.up a).toArray w (Post (fun v h=>zso.dn v fun r=>K r h) D w)
 | 0,_,_,_,_,_,h=>h.elim
 | n+1,a,K,D,w,hs,h=>zjk (C:=zack n) (F:=fun a=>F.za9 (n+1) a.1 a.2.1) (fn:=f226) (c:=bd f226) (an:=(.seq .leaf (.seq (.seq .leaf (.cond (.seq .leaf .leaf) .leaf)) (.seq (.seq .leaf (.block (.loop [(17,.leaf (.int .i64))] (.seq .leaf (.seq (.cond .leaf .leaf) (.seq (.block (.seq .leaf (.seq .leaf (.seq .leaf (.cond (.seq .leaf .leaf) .leaf))))) .leaf)))))) (.seq .leaf .leaf))))) ⟨(zaeb (F.za9 n) (zd9 za98 (za9e n))),trivial⟩ trivial func226 rfl rfl (fun _=>rfl) (by intro a K D; kernel_rfl) a K D w hs h
theorem zaec:Entry prog 226 za51 false:=zd9 za98 (fun a K D w hs h=>h.elim fun m h=>za9e m a K D w hs h)
noncomputable def za52:FSem:=mkE (ArgT.cons tyTConstraint (ArgT.cons tyTConstraint ArgT.nil)) (Ty.leaf .bool) fun a=>F.zgp a.1 a.2.1
theorem zaed:Entry prog 194 za52 false:=eo { P:=prog,n:=38,tab:=[(95,za4x),(226,za51)],rtL:=[(5,2),(7,3),(11,2),(13,3),(18,2),(20,3),(25,2),(27,3),(32,2),(34,3)],locL:=[2,3] } (.seq .leaf (.seq .leaf .leaf)) func194 ⟨zae8,zaec,trivial⟩
noncomputable def za53:FSem:=mkE (ArgT.cons tyTConstraint (ArgT.cons (Ty.leaf .ptr) ArgT.nil)) (Ty.leaf .bool) fun a=>F.zh1 a.1 a.2.1
theorem zaee:Entry prog 193 za53 false:=eo { P:=prog,n:=7,tab:=[(194,za52)],locL:=[2] } (.seq .leaf (.seq .leaf .leaf)) func193 ⟨zaed,trivial⟩
noncomputable def za54:FSem:=mkE (ArgT.cons (Ty.leaf .sl) (ArgT.fnc 193 1 ArgT.nil)) (Ty.leaf (.int .i64)) fun a=>F.zb7 a.1 a.2.1
theorem zaef:Entry prog 221 za54 false:=eo { P:=prog,n:=19,tab:=[(193,za53)] } (.seq .leaf (.seq (.seq .leaf (.block (.loop [(8,.leaf (.int .i64))] (.seq .leaf (.seq (.cond .leaf .leaf) (.seq (.block (.seq .leaf (.seq .leaf (.cond (.seq .leaf .leaf) .leaf)))) .leaf)))))) (.seq .leaf .leaf))) func221 ⟨zaee,trivial⟩
noncomputable def za55:FSem:=mkE (ArgT.cons (Ty.leaf .sl) (ArgT.fnc 193 1 ArgT.nil)) (Ty.leaf .bool) fun a=>F.zaa a.1 a.2.1
theorem zaeg:Entry prog 184 za55 false:=eo { P:=prog,n:=9,tab:=[(221,za54)] } (.seq .leaf (.seq .leaf .leaf)) func184 ⟨zaef,trivial⟩
noncomputable def za56:FSem:=mkE (ArgT.cons tyTSketch ArgT.nil) (Ty.leaf .sl) fun a=>F.ziv a.1
theorem zaeh:Entry prog 133 za56 false:=eo { P:=prog,n:=52,tab:=[(184,za55)],rtL:=[(10,1),(17,5),(19,5),(29,5),(34,1)],locL:=[1,5,47] } (.seq .leaf (.seq .leaf (.seq (.seq .leaf (.block (.loop [(3,.leaf (.sl)),(13,.leaf (.int .i64))] (.seq .leaf (.seq (.cond .leaf .leaf) (.seq (.block (.seq .leaf (.seq .leaf (.block (.loop [(3,.leaf (.sl)),(23,.leaf (.int .i64))] (.seq .leaf (.seq (.cond .leaf .leaf) (.join [(3,.leaf (.sl))] (.block (.seq .leaf (.seq .leaf (.seq .leaf (.seq .leaf (.cond .leaf .leaf)))))) .leaf)))))))) .leaf)))))) (.seq .leaf .leaf)))) func133 ⟨zaeg,trivial⟩
noncomputable def za57:FSem:=mkE (ArgT.cons (Ty.leaf .sl) (ArgT.cons (Ty.leaf (.int .i64)) ArgT.nil)) (Ty.leaf .sl) fun a=>F.zbq a.1 a.2.1
theorem zaei:Entry prog 192 za57 false:=eo { P:=prog,n:=27,tab:=[] } (.seq .leaf (.join [] (.seq .leaf (.cond .leaf .leaf)) (.seq (.seq .leaf (.seq .leaf (.cond .leaf .leaf))) (.seq .leaf .leaf)))) func192 trivial
noncomputable def za58:FSem:=mkE (ArgT.cons (Ty.leaf .sl) ArgT.nil) (Ty.leaf .sl) fun a=>F.zbn a.1
theorem zaej:Entry prog 132 za58 false:=eo { P:=prog,n:=36,tab:=[(192,za57)] } (.seq .leaf (.seq .leaf (.seq (.seq .leaf (.block (.loop [(3,.leaf (.int .i64)),(11,.leaf (.int .i64))] (.seq .leaf (.seq (.cond .leaf .leaf) (.join [(3,.leaf (.int .i64))] (.block (.seq .leaf (.seq .leaf (.seq .leaf (.cond .leaf .leaf))))) .leaf)))))) (.seq .leaf (.seq (.seq .leaf (.block (.loop [(6,.leaf (.sl)),(27,.leaf (.int .i64))] (.seq .leaf (.seq (.cond .leaf .leaf) (.seq (.block (.seq .leaf .leaf)) .leaf)))))) (.seq .leaf .leaf)))))) func132 ⟨zaei,trivial⟩
noncomputable def za59:FSem:=mkE (ArgT.cons (Ty.leaf .sl) ArgT.nil) (Ty.leaf .sl) fun a=>F.zf3 a.1
theorem zaek:Entry prog 134 za59 false:=eo { P:=prog,n:=8,tab:=[] } (.seq .leaf (.seq (.seq .leaf (.cond (.seq .leaf .leaf) .leaf)) (.seq .leaf .leaf))) func134 trivial
noncomputable def zqe:FSem:=mkE (ArgT.cons tyTSketch ArgT.nil) (Ty.leaf .ptr) fun a=>F.zcx a.1
theorem zu4:Entry prog 57 zqe false:=eo { P:=prog,n:=99,tab:=[(133,za56),(132,za58),(134,za59)],rtL:=[(12,1),(20,1),(32,5),(48,7),(51,7),(63,7),(67,7),(72,7)],locL:=[1,5,7,34,61,84,93] } (.seq .leaf (.seq (.draw [0,1,2,3,4,5,6,7,8,9]) (.seq (.seq .leaf (.block (.loop [(23,.leaf (.int .i64))] (.seq .leaf (.seq (.cond .leaf .leaf) (.seq (.block (.seq .leaf (.draw [0,1,2,3,4,5,6,7,8,9,10,11]))) .leaf)))))) (.seq (.seq .leaf (.block (.loop [(44,.leaf (.int .i64))] (.seq .leaf (.seq (.cond .leaf .leaf) (.seq (.block (.seq .leaf (.seq .leaf (.seq (.seq .leaf (.block (.loop [(8,.leaf (.sl)),(54,.leaf (.int .i64))] (.seq .leaf (.seq (.cond .leaf .leaf) (.join [(8,.leaf (.sl))] (.block (.seq .leaf (.seq .leaf (.seq .leaf (.cond .leaf .leaf))))) .leaf)))))) .leaf)))) .leaf)))))) (.seq .leaf .leaf))))) func57 ⟨zaeh,zaej,zaek,trivial⟩
noncomputable def za5a:FSem:=mkE (ArgT.cons (Ty.leaf .ptr) ArgT.nil) (Ty.leaf .sl) fun a=>F.y_henneberg_peeler_all a.1
theorem zael:Entry prog 136 za5a false:=eo { P:=prog,n:=36,tab:=[],locL:=[17,32] } (.seq .leaf (.seq .leaf (.seq (.seq .leaf (.block (.loop [(3,.leaf (.sl)),(12,.leaf (.int .i64))] (.seq .leaf (.seq (.cond .leaf .leaf) (.seq (.block (.seq .leaf .leaf)) .leaf)))))) (.seq (.seq .leaf (.block (.loop [(3,.leaf (.sl)),(26,.leaf (.int .i64))] (.seq .leaf (.seq (.cond .leaf .leaf) (.seq (.block (.seq .leaf .leaf)) .leaf)))))) (.seq .leaf .leaf))))) func136 trivial
noncomputable def za5b:FSem:=mkE (ArgT.cons (Ty.leaf (.int .i64)) (ArgT.cons (Ty.leaf .ptr) ArgT.nil)) (Ty.leaf .bool) fun a=>F.y_henneberg_peeler_remaining_1 a.1 a.2.1
theorem zaem:Entry prog 141 za5b false:=eo { P:=prog,n:=7,tab:=[(98,zmz)] } (.seq .leaf (.seq .leaf .leaf)) func141 ⟨zp3,trivial⟩
noncomputable def za5c:FSem:=mkE (ArgT.cons (Ty.leaf .sl) (ArgT.fnc 141 1 ArgT.nil)) (Ty.leaf (.int .i64)) fun a=>F.zbk a.1 a.2.1
theorem zaen:Entry prog 135 za5c false:=eo { P:=prog,n:=19,tab:=[(141,za5b)] } (.seq .leaf (.seq (.seq .leaf (.block (.loop [(8,.leaf (.int .i64))] (.seq .leaf (.seq (.cond .leaf .leaf) (.seq (.block (.seq .leaf (.seq .leaf (.cond (.seq .leaf .leaf) .leaf)))) .leaf)))))) (.seq .leaf .leaf))) func135 ⟨zaem,trivial⟩
noncomputable def za5d:FSem:=mkE (ArgT.cons (Ty.leaf .sl) (ArgT.fnc 141 1 ArgT.nil)) (Ty.leaf .bool) fun a=>F.zbe a.1 a.2.1
theorem zaeo:Entry prog 102 za5d false:=eo { P:=prog,n:=9,tab:=[(135,za5c)] } (.seq .leaf (.seq .leaf .leaf)) func102 ⟨zaen,trivial⟩
noncomputable def zsy:FSem:=mkE (ArgT.cons (Ty.leaf .ptr) (ArgT.cons (Ty.leaf (.int .i64)) (ArgT.cons (Ty.leaf .sl) ArgT.nil))) (Ty.leaf .sl) fun a=>F.y_henneberg_peeler_remaining a.1 a.2.1 a.2.2.1
theorem zz1:Entry prog 60 zsy false:=eo { P:=prog,n:=35,tab:=[(98,zmz),(102,za5d)],locL:=[31] } (.seq .leaf (.seq .leaf (.seq (.seq .leaf (.block (.loop [(7,.leaf (.sl)),(15,.leaf (.int .i64))] (.seq .leaf (.seq (.cond .leaf .leaf) (.join [(7,.leaf (.sl))] (.block (.seq .leaf (.seq .leaf (.cond .leaf .leaf)))) .leaf)))))) (.seq .leaf .leaf)))) func60 ⟨zp3,zaeo,trivial⟩
noncomputable def zsz:FSem:=mkE (ArgT.cons (Ty.leaf .ptr) (ArgT.cons (Ty.leaf (.int .i64)) ArgT.nil)) (Ty.leaf (.int .i64)) fun a=>F.y_henneberg_peeler_equations a.1 a.2.1
theorem zz2:Entry prog 140 zsz false:=eo { P:=prog,n:=21,tab:=[(109,e_x58)],rtL:=[(19,5)],locL:=[5] } (.seq .leaf (.seq .leaf (.seq .leaf .leaf))) func140 ⟨t_x58,trivial⟩
noncomputable def zwt:FSem:=mkE (ArgT.cons (Ty.leaf .ptr) (ArgT.cons (Ty.leaf .sl) ArgT.nil)) (Ty.leaf (.int .i64)) fun a=>F.y_henneberg_peeler_weight a.1 a.2.1
theorem za8e:Entry prog 76 zwt false:=eo { P:=prog,n:=21,tab:=[(140,zsz)] } (.seq .leaf (.seq .leaf (.seq (.seq .leaf (.block (.loop [(5,.leaf (.int .i64)),(10,.leaf (.int .i64))] (.seq .leaf (.seq (.cond .leaf .leaf) (.seq (.block (.seq .leaf .leaf)) .leaf)))))) (.seq .leaf .leaf)))) func76 ⟨zz2,trivial⟩
noncomputable def za5e:FSem:=mkE (ArgT.cons tyTConstraint (ArgT.cons (Ty.leaf .sl) (ArgT.cons (Ty.leaf (.int .i64)) ArgT.nil))) (Ty.leaf .bool) fun a=>F.zla a.1 a.2.1 a.2.2.1
theorem zaep:Entry prog 154 za5e false:=eo { P:=prog,n:=52,tab:=[(162,zws),(98,zmz)],rtL:=[(8,3),(14,3),(22,3),(32,3),(37,3),(44,3)],locL:=[3] } (.seq .leaf (.seq .leaf (.seq (.seq .leaf (.cond (.seq .leaf .leaf) .leaf)) (.seq (.seq .leaf (.block (.join [(16,.leaf (.bool))] (.seq .leaf (.cond .leaf .leaf)) (.cond (.seq .leaf .leaf) (.join [(19,.leaf (.bool))] (.seq .leaf (.cond .leaf .leaf)) (.cond (.seq (.draw [0,1,2,3,4,5,6,7,8]) .leaf) (.seq .leaf (.cond (.seq (.draw [0,1,2,3,4,5,6,7,8,9,10,11,12,13,14,15,16,17,18,19,20]) .leaf) .leaf)))))))) (.seq .leaf .leaf))))) func154 ⟨za8d,zp3,trivial⟩
noncomputable def za5f:FSem:=mkE (ArgT.cons (Ty.leaf (.int .i64)) (ArgT.cons (Ty.leaf .ptr) (ArgT.cons (Ty.leaf .ptr) ArgT.nil))) (Ty.leaf .bool) fun a=>F.y_henneberg_peeler_removable_1 a.1 a.2.1 a.2.2.1
theorem zaeq:Entry prog 153 za5f false:=eo { P:=prog,n:=20,tab:=[(154,za5e)] } (.seq .leaf (.seq (.draw [0,1,2,3,4,5,6,7,8,9,10,11,12,13,14,15]) .leaf)) func153 ⟨zaep,trivial⟩
noncomputable def za5g:FSem:=mkE (ArgT.cons (Ty.leaf .sl) (ArgT.fnc 153 2 ArgT.nil)) (Ty.leaf (.int .i64)) fun a=>F.zbl a.1 a.2.1
theorem zaer:Entry prog 135 za5g false:=eo { P:=prog,n:=19,tab:=[(153,za5f)] } (.seq .leaf (.seq (.seq .leaf (.block (.loop [(8,.leaf (.int .i64))] (.seq .leaf (.seq (.cond .leaf .leaf) (.seq (.block (.seq .leaf (.seq .leaf (.cond (.seq .leaf .leaf) .leaf)))) .leaf)))))) (.seq .leaf .leaf))) func135 ⟨zaeq,trivial⟩
noncomputable def za5h:FSem:=mkE (ArgT.cons (Ty.leaf .sl) (ArgT.fnc 153 2 ArgT.nil)) (Ty.leaf .bool) fun a=>F.zbf a.1 a.2.1
theorem zaes:Entry prog 102 za5h false:=eo { P:=prog,n:=9,tab:=[(135,za5g)] } (.seq .leaf (.seq .leaf .leaf)) func102 ⟨zaer,trivial⟩
noncomputable def za5i:FSem:=mkE (ArgT.cons tyTConstraint (ArgT.cons (Ty.leaf (.int .i64)) ArgT.nil)) (Ty.leaf .sl) fun a=>F.zjy a.1 a.2.1
theorem zaet:Entry prog 207 za5i false:=eo { P:=prog,n:=25,tab:=[],rtL:=[(8,2)],locL:=[2,21] } (.seq .leaf (.seq .leaf (.seq (.seq .leaf (.block (.loop [(5,.leaf (.sl)),(11,.leaf (.int .i64))] (.seq .leaf (.seq (.cond .leaf .leaf) (.join [(5,.leaf (.sl))] (.block (.seq .leaf (.seq .leaf (.cond .leaf .leaf)))) .leaf)))))) (.seq .leaf .leaf)))) func207 trivial
noncomputable def za5j:FSem:=mkE (ArgT.cons (Ty.leaf (.int .i64)) (ArgT.cons (Ty.leaf .ptr) (ArgT.cons (Ty.leaf .ptr) (ArgT.cons (Ty.leaf .ptr) ArgT.nil)))) (Ty.leaf .bool) fun a=>F.zfh a.1 a.2.1 a.2.2.1 a.2.2.2.1
theorem zaeu:Entry prog 208 za5j false:=eo { P:=prog,n:=16,tab:=[] } (.seq .leaf (.seq (.draw [0,1,2,3,4,5,6,7,8,9,10]) .leaf)) func208 trivial
noncomputable def za5k:FSem:=mkE (ArgT.cons tyTConstraint (ArgT.cons (Ty.leaf .sl) (ArgT.cons (Ty.leaf (.int .i64)) ArgT.nil))) (Ty.leaf (.int .i64)) fun a=>F.zm8 a.1 a.2.1 a.2.2.1
theorem zaev:Entry prog 161 za5k false:=eo { P:=prog,n:=77,tab:=[(207,za5i),(208,za5j)] } (.seq .leaf (.seq .leaf (.seq .leaf (.seq (.seq .leaf (.block (.seq .leaf (.cond (.seq (.seq .leaf (.cond (.seq .leaf .leaf) .leaf)) (.seq .leaf .leaf)) (.seq .leaf (.cond (.seq (.seq .leaf (.cond (.seq .leaf .leaf) .leaf)) (.seq .leaf .leaf)) (.seq .leaf (.cond (.seq (.seq .leaf (.cond (.seq .leaf .leaf) .leaf)) (.seq .leaf .leaf)) .leaf)))))))) (.seq (.seq .leaf (.cond (.seq .leaf .leaf) .leaf)) (.seq (.seq .leaf (.block (.join [(44,.leaf (.bool))] (.seq .leaf (.cond .leaf .leaf)) (.cond (.seq .leaf .leaf) (.seq .leaf (.cond (.seq .leaf .leaf) (.join [(49,.leaf (.bool))] (.seq .leaf (.cond .leaf (.seq .leaf (.cond .leaf (.seq .leaf (.cond .leaf .leaf)))))) (.cond (.seq .leaf .leaf) (.seq .leaf (.cond (.seq .leaf (.cond (.seq .leaf .leaf) .leaf)) (.seq .leaf (.cond (.seq .leaf (.cond (.seq .leaf .leaf) .leaf)) (.join [(66,.leaf (.bool))] (.seq .leaf (.cond .leaf .leaf)) (.cond (.seq (.seq .leaf (.cond (.seq .leaf .leaf) .leaf)) (.seq .leaf .leaf)) (.seq .leaf (.cond (.seq (.seq .leaf (.cond (.seq .leaf .leaf) .leaf)) (.seq .leaf .leaf)) .leaf)))))))))))))))) (.seq .leaf .leaf))))))) func161 ⟨zaet,zaeu,trivial⟩
noncomputable def zwu:FSem:=mkE (ArgT.cons (Ty.leaf .ptr) (ArgT.cons (Ty.leaf (.int .i64)) (ArgT.cons (Ty.leaf (.int .i64)) ArgT.nil))) (Ty.leaf (.int .i64)) fun a=>F.y_henneberg_peeler_kind a.1 a.2.1 a.2.2.1
theorem za8f:Entry prog 139 zwu false:=eo { P:=prog,n:=20,tab:=[(161,za5k)] } (.seq .leaf (.seq (.draw [0,1,2,3,4,5,6,7,8,9,10,11,12,13]) .leaf)) func139 ⟨zaev,trivial⟩
noncomputable def zwv:FSem:=mkE (ArgT.cons (Ty.leaf .ptr) (ArgT.cons (Ty.leaf (.int .i64)) (ArgT.cons (Ty.leaf .sl) ArgT.nil))) (Ty.leaf .bool) fun a=>F.y_henneberg_peeler_removable a.1 a.2.1 a.2.2.1
theorem za8g:Entry prog 71 zwv false:=eo { P:=prog,n:=60,tab:=[(98,zmz),(60,zsy),(76,zwt),(102,za5h),(139,zwu),(140,zsz)] } (.seq .leaf (.seq (.seq .leaf (.cond (.seq .leaf .leaf) .leaf)) (.seq .leaf (.seq (.seq .leaf (.cond (.seq .leaf .leaf) .leaf)) (.seq (.seq .leaf (.cond (.seq .leaf .leaf) .leaf)) (.seq (.seq .leaf (.block (.loop [(37,.leaf (.int .i64))] (.seq .leaf (.seq (.cond .leaf .leaf) (.seq (.block (.seq .leaf (.seq .leaf (.join [(11,.leaf (.bool))] .leaf (.join [(11,.leaf (.bool))] (.seq .leaf (.cond .leaf .leaf)) (.seq .leaf (.cond (.seq .leaf .leaf) .leaf))))))) .leaf)))))) (.seq .leaf .leaf))))))) func71 ⟨zp3,zz1,za8e,zaes,za8f,zz2,trivial⟩
noncomputable def za5l:FSem:=mkE (ArgT.cons (Ty.leaf (.int .i64)) (ArgT.cons (Ty.leaf .ptr) (ArgT.cons (Ty.leaf .ptr) ArgT.nil))) (Ty.leaf .bool) fun a=>F.y_henneberg_peeler_peel_1 a.1 a.2.1 a.2.2.1
theorem zaew:Entry prog 137 za5l false:=eo { P:=prog,n:=9,tab:=[(71,zwv)] } (.seq .leaf (.seq .leaf .leaf)) func137 ⟨za8g,trivial⟩
noncomputable def za5m:FSem:=mkE (ArgT.cons (Ty.leaf .sl) (ArgT.fnc 137 2 ArgT.nil)) (Ty.leaf (.int .i64)) fun a=>F.zba a.1 a.2.1
theorem zaex:Entry prog 135 za5m false:=eo { P:=prog,n:=19,tab:=[(137,za5l)] } (.seq .leaf (.seq (.seq .leaf (.block (.loop [(8,.leaf (.int .i64))] (.seq .leaf (.seq (.cond .leaf .leaf) (.seq (.block (.seq .leaf (.seq .leaf (.cond (.seq .leaf .leaf) .leaf)))) .leaf)))))) (.seq .leaf .leaf))) func135 ⟨zaew,trivial⟩
noncomputable def zww:FSem:=mkE (ArgT.cons (Ty.leaf (.int .i64)) (ArgT.cons (Ty.leaf .ptr) ArgT.nil)) (Ty.leaf .bool) fun a=>F.y_henneberg_peeler_peel_2 a.1 a.2.1
theorem za8h:Entry prog 138 zww false:=eo { P:=prog,n:=7,tab:=[(98,zmz)] } (.seq .leaf (.seq .leaf .leaf)) func138 ⟨zp3,trivial⟩
noncomputable def za5n:FSem:=mkE (ArgT.cons (Ty.leaf .sl) (ArgT.fnc 138 1 ArgT.nil)) (Ty.leaf (.int .i64)) fun a=>F.zbv a.1 a.2.1
theorem zaey:Entry prog 135 za5n false:=eo { P:=prog,n:=19,tab:=[(138,zww)] } (.seq .leaf (.seq (.seq .leaf (.block (.loop [(8,.leaf (.int .i64))] (.seq .leaf (.seq (.cond .leaf .leaf) (.seq (.block (.seq .leaf (.seq .leaf (.cond (.seq .leaf .leaf) .leaf)))) .leaf)))))) (.seq .leaf .leaf))) func135 ⟨za8h,trivial⟩
noncomputable def za5o:FSem:=mkM (ArgT.cons (Ty.leaf .sl) (ArgT.fnc 138 1 ArgT.nil)) (Ty.leaf .sl) fun a=>F.zb8 a.1 a.2.1
theorem zaez:Entry prog 100 za5o true:=eoM { P:=prog,n:=42,tab:=[(135,za5n),(138,zww)] } (.seq .leaf (.seq .leaf (.seq (.seq .leaf (.cond (.seq .leaf .leaf) .leaf)) (.seq (.seq .leaf (.block (.loop [(5,.leaf (.int .i64)),(6,.leaf (.int .i64))] (.seq (.seq .leaf (.cond .leaf .leaf)) (.join [(5,.leaf (.int .i64))] (.block (.seq .leaf (.seq .leaf (.cond (.seq .leaf .leaf) .leaf)))) .leaf))))) (.seq .leaf (.seq .leaf .leaf)))))) func100 ⟨zaey,za8h,trivial⟩
noncomputable def zwx:FSem:=mkE (ArgT.cons (Ty.leaf .ptr) ArgT.nil) (Ty.tup (.cons (Ty.leaf .sl) (.cons (Ty.leaf .sl) .nil)) (fun x=>(x.1,x.2,())) (fun y=>(y.1,y.2.1)) (fun _=>rfl) (fun _=>rfl)) fun a=>F.y_henneberg_peeler_peel a.1
theorem za8i:Entry prog 58 zwx false:=eo { P:=prog,n:=27,tab:=[(136,za5a),(135,za5m),(100,za5o)],mutL:=[100],locL:=[19] } (.seq .leaf (.seq .leaf (.seq (.block (.loop [(4,.leaf (.ptr))] (.block (.seq .leaf (.seq (.seq .leaf (.cond .leaf .leaf)) (.draw [0,1,3,2,4,5,6,7,8])))))) (.seq .leaf (.seq .leaf .leaf))))) func58 ⟨zael,zaex,zaez,trivial⟩
noncomputable def zt0:FSem:=mkE (ArgT.cons tyTSketch ArgT.nil) (Ty.tup (.cons (Ty.leaf .sl) (.cons (Ty.leaf .sl) .nil)) (fun x=>(x.1,x.2,())) (fun y=>(y.1,y.2.1)) (fun _=>rfl) (fun _=>rfl)) fun a=>F.zf7 a.1
theorem zz3:Entry prog 19 zt0 false:=eo { P:=prog,n:=12,tab:=[(56,zqd),(57,zqe),(58,zwx)],locL:=[1] } (.seq .leaf (.seq (.seq .leaf (.cond (.seq .leaf .leaf) .leaf)) (.seq .leaf .leaf))) func19 ⟨zu3,zu4,za8i,trivial⟩
noncomputable def zoq:FSem:=mkE (ArgT.cons tyTSketch ArgT.nil) (Ty.leaf .sl) fun a=>F.zgk a.1
theorem zqy:Entry prog 26 zoq false:=eo { P:=prog,n:=30,tab:=[],rtL:=[(7,1),(18,1)],locL:=[1,15,27] } (.seq .leaf (.seq .leaf (.seq (.seq .leaf (.block (.loop [(3,.leaf (.sl)),(4,.leaf (.int .i64))] (.seq (.seq .leaf (.cond .leaf .leaf)) (.seq (.block .leaf) .leaf))))) (.seq (.seq .leaf (.block (.loop [(3,.leaf (.sl)),(5,.leaf (.int .i64))] (.seq (.seq .leaf (.cond .leaf .leaf)) (.seq (.block .leaf) .leaf))))) (.seq .leaf .leaf))))) func26 trivial
noncomputable def za5p:FSem:=mkE (ArgT.cons tyTSketch ArgT.nil) (Ty.leaf .bool) fun a=>F.zmi a.1
theorem zaf0:Entry prog 63 za5p false:=eo { P:=prog,n:=52,tab:=[],rtL:=[(5,1),(11,1),(18,1),(23,1),(29,1),(35,1),(41,1),(47,1)],locL:=[1] } (.seq .leaf (.seq (.seq .leaf (.block (.loop [(3,.leaf (.int .i64))] (.seq (.seq .leaf (.cond .leaf .leaf)) (.seq (.block (.seq .leaf (.cond (.seq .leaf .leaf) .leaf))) .leaf))))) (.seq .leaf .leaf))) func63 trivial
end
end Den
end

section
set_option maxRecDepth 100000
namespace Den
open Go Go.Proofs.Tryz
noncomputable section
noncomputable def zh4:FSem:=mkE (ArgT.cons (Ty.leaf .sl) ArgT.nil) (Ty.leaf .sl) fun a=>F.zbc a.1
theorem zii:Entry prog 196 zh4 false:=eo { P:=prog,n:=21,tab:=[] } (.seq .leaf (.seq (.block (.loop [(0,.leaf (.sl))] (.join [] (.seq .leaf (.cond .leaf .leaf)) (.block .leaf)))) (.seq .leaf .leaf))) func196 trivial
noncomputable def za5q:FSem:=mkE (ArgT.cons tyTInt ArgT.nil) (Ty.leaf .bool) fun a=>F.zj1 a.1
theorem zaf1:Entry prog 144 za5q false:=eo { P:=prog,n:=22,tab:=[(196,zh4)],rtL:=[(3,1),(7,1),(12,1),(16,1)],locL:=[1] } (.seq .leaf (.seq (.draw [0,1,4,5,6,2,3,7,8,9,10,11,12,13,14,15,16,17,18,19]) .leaf)) func144 ⟨zii,trivial⟩
noncomputable def zlq:FSem:=mkE (ArgT.cons (Ty.leaf .bool) (ArgT.cons (Ty.leaf .sl) ArgT.nil)) tyTInt fun a=>F.zby a.1 a.2.1
theorem zng:Entry prog 199 zlq false:=eo { P:=prog,n:=15,tab:=[(196,zh4)],locL:=[4] } (.seq .leaf (.seq .leaf (.seq .leaf .leaf))) func199 ⟨zii,trivial⟩
noncomputable def zor:FSem:=mkE (ArgT.cons tyTInt ArgT.nil) tyTInt fun a=>F.zd3 a.1
theorem zqz:Entry prog 197 zor false:=eo { P:=prog,n:=8,tab:=[(199,zlq)],rtL:=[(3,1),(5,1)],locL:=[1,2] } (.seq .leaf (.seq .leaf .leaf)) func197 ⟨zng,trivial⟩
noncomputable def zt1:FSem:=mkE (ArgT.cons tyTInt ArgT.nil) (Ty.leaf (.int .i64)) fun a=>F.zfy a.1
theorem zz4:Entry prog 145 zt1 false:=eo { P:=prog,n:=11,tab:=[(197,zor)],rtL:=[(5,1),(9,1)],locL:=[1] } (.seq .leaf (.seq .leaf (.seq (.seq .leaf (.cond (.seq .leaf .leaf) .leaf)) (.seq (.seq .leaf (.cond (.seq .leaf .leaf) .leaf)) (.seq .leaf .leaf))))) func145 ⟨zqz,trivial⟩
noncomputable def zqf:FSem:=mkE (ArgT.cons (Ty.leaf .sl) (ArgT.cons (Ty.leaf .sl) ArgT.nil)) (Ty.leaf (.int .i64)) fun a=>F.zds a.1 a.2.1
theorem zu5:Entry prog 230 zqf false:=eo { P:=prog,n:=41,tab:=[] } (.seq .leaf (.seq (.seq .leaf (.cond (.seq (.seq .leaf (.cond (.seq .leaf .leaf) .leaf)) (.seq .leaf .leaf)) .leaf)) (.seq (.seq .leaf (.block (.loop [(5,.leaf (.int .i64))] (.seq (.seq .leaf (.cond .leaf .leaf)) (.seq (.block (.seq (.seq (.draw [0,1,2,3,4,5,6,7,8]) (.cond (.seq .leaf .leaf) .leaf)) (.seq (.draw [0,1,2,3,4,5,6,7,8]) (.cond (.seq .leaf .leaf) .leaf)))) .leaf))))) (.seq .leaf .leaf)))) func230 trivial
noncomputable def za5r:FSem:=mkE (ArgT.cons (Ty.leaf .sl) ArgT.nil) (Ty.leaf (.int .u64)) fun a=>F.zhi a.1
theorem zaf2:Entry prog 231 za5r false:=eo { P:=prog,n:=21,tab:=[] } (.seq .leaf (.seq .leaf (.seq (.seq .leaf (.block (.loop [(3,.leaf (.int .u64)),(4,.leaf (.int .i64))] (.seq (.seq .leaf (.cond .leaf .leaf)) (.seq (.block .leaf) .leaf))))) (.seq .leaf .leaf)))) func231 trivial
noncomputable def zwy:FSem:=mkE (ArgT.cons (Ty.leaf (.int .u64)) ArgT.nil) (Ty.leaf .sl) fun a=>F.ze7 a.1
theorem za8j:Entry prog 206 zwy false:=eo { P:=prog,n:=10,tab:=[(196,zh4)] } (.seq .leaf (.seq .leaf .leaf)) func206 ⟨zii,trivial⟩
noncomputable def zwz:FSem:=mkE (ArgT.cons (Ty.leaf .sl) (ArgT.cons (Ty.leaf (.int .u32)) ArgT.nil)) (Ty.tup (.cons (Ty.leaf .sl) (.cons (Ty.leaf (.int .u32)) .nil)) (fun x=>(x.1,x.2,())) (fun y=>(y.1,y.2.1)) (fun _=>rfl) (fun _=>rfl)) fun a=>F.zn6 a.1 a.2.1
theorem za8k:Entry prog 232 zwz false:=eo { P:=prog,n:=43,tab:=[(196,zh4)] } (.seq .leaf (.seq .leaf (.seq .leaf (.seq (.seq .leaf (.block (.loop [(7,.leaf (.int .u64)),(8,.leaf (.int .i64))] (.seq (.seq .leaf (.cond .leaf .leaf)) (.seq (.block (.seq .leaf (.seq .leaf .leaf))) .leaf))))) (.seq .leaf .leaf))))) func232 ⟨zii,trivial⟩
noncomputable def za5s:FSem:=mkE (ArgT.cons (Ty.leaf .sl) ArgT.nil) (Ty.leaf (.int .i64)) fun a=>F.zia a.1
theorem zaf3:Entry prog 233 za5s false:=eo { P:=prog,n:=26,tab:=[] } (.seq .leaf (.seq (.seq .leaf (.cond (.seq .leaf .leaf) .leaf)) (.seq .leaf (.seq (.seq .leaf (.block (.loop [(3,.leaf (.int .i64)),(4,.leaf (.int .u32))] (.seq (.seq .leaf (.cond .leaf .leaf)) (.seq (.block .leaf) .leaf))))) (.seq .leaf .leaf))))) func233 trivial
noncomputable def za5t:FSem:=mkE (ArgT.cons (Ty.leaf .sl) (ArgT.cons (Ty.leaf (.int .i64)) ArgT.nil)) (Ty.leaf .sl) fun a=>F.zjc a.1 a.2.1
theorem zaf4:Entry prog 234 za5t false:=eo { P:=prog,n:=43,tab:=[] } (.seq .leaf (.seq .leaf (.seq (.seq .leaf (.block (.loop [(6,.leaf (.int .i64))] (.seq (.seq .leaf (.cond .leaf .leaf)) (.seq (.block (.seq .leaf (.seq .leaf .leaf))) .leaf))))) (.seq .leaf .leaf)))) func234 trivial
noncomputable def zx0:FSem:=mkE (ArgT.cons (Ty.leaf .sl) (ArgT.cons (Ty.leaf .sl) ArgT.nil)) (Ty.leaf .sl) fun a=>F.zg6 a.1 a.2.1
theorem za8l:Entry prog 252 zx0 false:=eo { P:=prog,n:=67,tab:=[(196,zh4)] } (.seq .leaf (.seq .leaf (.seq (.seq .leaf (.block (.loop [(6,.leaf (.int .i64))] (.seq (.seq .leaf (.cond .leaf .leaf)) (.seq (.block (.seq .leaf (.seq (.seq .leaf (.block (.loop [(7,.leaf (.int .u64)),(8,.leaf (.int .i64))] (.seq (.seq .leaf (.cond .leaf .leaf)) (.seq (.block (.seq (.draw [0,1,2,3,4,5,6,7,8,9,10,11,12,13,14,15,16,17,18,19,20,21]) (.seq .leaf .leaf))) .leaf))))) .leaf))) .leaf))))) (.seq .leaf .leaf)))) func252 ⟨zii,trivial⟩
noncomputable def zt2:FSem:=mkE (ArgT.cons (Ty.leaf .sl) (ArgT.cons (Ty.leaf .sl) ArgT.nil)) (Ty.leaf .sl) fun a=>F.ze6 a.1 a.2.1
theorem zz5:Entry prog 236 zt2 false:=eo { P:=prog,n:=48,tab:=[(196,zh4)] } (.seq .leaf (.seq .leaf (.seq .leaf (.seq (.seq .leaf (.block (.loop [(6,.leaf (.int .u64)),(7,.leaf (.int .i64))] (.seq (.seq .leaf (.cond .leaf .leaf)) (.seq (.block (.seq .leaf (.join [(8,.leaf (.int .u64))] (.seq .leaf (.cond .leaf .leaf)) (.seq .leaf (.seq .leaf .leaf))))) .leaf))))) (.seq .leaf .leaf))))) func236 ⟨zii,trivial⟩
noncomputable def za5u:FSem:=mkE (ArgT.cons (Ty.leaf .sl) (ArgT.cons (Ty.leaf .sl) ArgT.nil)) (Ty.tup (.cons (Ty.leaf (.int .u32)) (.cons (Ty.leaf .sl) .nil)) (fun x=>(x.1,x.2,())) (fun y=>(y.1,y.2.1)) (fun _=>rfl) (fun _=>rfl)) fun a=>F.zlb a.1 a.2.1
theorem zaf5:Entry prog 235 za5u false:=eo { P:=prog,n:=51,tab:=[(252,zx0),(196,zh4),(230,zqf),(236,zt2)] } (.seq .leaf (.seq .leaf (.seq (.draw [0,1,2,3,4,5,6,7,8,9,10,11,12,13,14,15,16,17,18,19,20]) (.join [(7,.leaf (.int .u64))] (.seq .leaf (.cond .leaf .leaf)) (.seq .leaf (.seq (.block (.loop [(7,.leaf (.int .u64)),(8,.leaf (.sl))] (.seq (.seq .leaf (.cond .leaf .leaf)) (.block (.seq .leaf .leaf))))) (.seq .leaf .leaf))))))) func235 ⟨za8l,zii,zu5,zz5,trivial⟩
noncomputable def za5v:FSem:=mkE (ArgT.cons (Ty.leaf .sl) (ArgT.cons (Ty.leaf (.int .i64)) ArgT.nil)) (Ty.leaf .sl) fun a=>F.zmf a.1 a.2.1
theorem zaf6:Entry prog 237 za5v false:=eo { P:=prog,n:=45,tab:=[(196,zh4)] } (.seq .leaf (.seq .leaf (.seq (.seq .leaf (.block (.loop [(6,.leaf (.int .i64))] (.seq (.seq .leaf (.cond .leaf .leaf)) (.seq (.block (.seq .leaf (.join [(7,.leaf (.int .u64))] (.seq .leaf (.cond .leaf .leaf)) .leaf))) .leaf))))) (.seq .leaf .leaf)))) func237 ⟨zii,trivial⟩
noncomputable def zx1:FSem:=mkE (ArgT.cons (Ty.leaf .sl) (ArgT.cons (Ty.leaf .sl) ArgT.nil)) (Ty.tup (.cons (Ty.leaf .sl) (.cons (Ty.leaf .sl) .nil)) (fun x=>(x.1,x.2,())) (fun y=>(y.1,y.2.1)) (fun _=>rfl) (fun _=>rfl)) fun a=>F.zgf a.1 a.2.1
theorem za8m:Entry prog 198 zx1 false:=eo { P:=prog,n:=128,tab:=[(230,zqf),(231,za5r),(206,zwy),(232,zwz),(233,za5s),(234,za5t),(196,zh4),(235,za5u),(236,zt2),(237,za5v)] } (.seq .leaf (.seq (.seq .leaf (.cond (.seq .leaf .leaf) .leaf)) (.seq (.seq .leaf (.cond (.seq .leaf (.seq (.draw [0,1,2,4,5,6,3,7,8,9]) .leaf)) .leaf)) (.seq (.seq .leaf (.cond (.seq .leaf (.seq .leaf .leaf)) .leaf)) (.seq .leaf (.seq .leaf (.seq .leaf (.seq (.seq .leaf (.block (.loop [(14,.leaf (.int .i64))] (.seq (.seq .leaf (.cond .leaf .leaf)) (.seq (.block (.seq .leaf (.seq .leaf (.seq .leaf (.seq .leaf (.seq .leaf (.block (.loop [(19,.leaf (.int .i64))] (.seq (.seq .leaf (.cond .leaf .leaf)) (.join [] (.block (.seq .leaf (.seq .leaf (.cond .leaf .leaf)))) .leaf)))))))))) .leaf))))) (.seq .leaf .leaf))))))))) func198 ⟨zu5,zaf2,za8j,za8k,zaf3,zaf4,zii,zaf5,zz5,zaf6,trivial⟩
noncomputable def zx2:FSem:=mkE (ArgT.cons tyTInt (ArgT.cons tyTInt ArgT.nil)) tyTInt fun a=>F.zi8 a.1 a.2.1
theorem za8n:Entry prog 147 zx2 false:=eo { P:=prog,n:=28,tab:=[(196,zh4),(198,zx1),(199,zlq)],rtL:=[(9,2),(12,3)],locL:=[2,3,4] } (.seq .leaf (.seq (.draw [0,1,3,4,2,5,6,7]) (.seq (.block (.loop [(5,.leaf (.sl)),(6,.leaf (.sl))] (.seq (.seq .leaf (.cond .leaf .leaf)) (.block (.seq .leaf .leaf))))) (.seq .leaf .leaf)))) func147 ⟨zii,za8m,zng,trivial⟩
noncomputable def zx3:FSem:=mkE (ArgT.cons tyTInt ArgT.nil) (Ty.leaf .bool) fun a=>F.zjr a.1
theorem za8o:Entry prog 146 zx3 false:=eo { P:=prog,n:=19,tab:=[],rtL:=[(3,1),(8,1),(15,1)],locL:=[1] } (.seq .leaf (.seq .leaf .leaf)) func146 trivial
noncomputable def zt3:FSem:=mkE (ArgT.cons tyTRat ArgT.nil) (Ty.leaf .bool) fun a=>F.ze8 a.1
theorem zz6:Entry prog 64 zt3 false:=eo { P:=prog,n:=25,tab:=[(144,za5q),(145,zt1),(147,zx2),(146,zx3)],rtL:=[(3,1),(7,1),(12,1),(18,1),(20,1)],locL:=[1] } (.seq .leaf (.seq .leaf .leaf)) func64 ⟨zaf1,zz4,za8n,za8o,trivial⟩
noncomputable def zx4:FSem:=mkE (ArgT.cons (Ty.leaf (.int .i64)) (ArgT.cons (Ty.leaf (.int .i64)) ArgT.nil)) (Ty.leaf .bool) fun a=>F.zek a.1 a.2.1
theorem za8p:Entry prog 65 zx4 false:=eo { P:=prog,n:=12,tab:=[] } (.seq .leaf (.seq .leaf .leaf)) func65 trivial
noncomputable def zx5:FSem:=mkE (ArgT.cons tyTRat ArgT.nil) (Ty.leaf (.int .i64)) fun a=>F.zir a.1
theorem za8q:Entry prog 66 zx5 false:=eo { P:=prog,n:=6,tab:=[(145,zt1)],rtL:=[(3,1)],locL:=[1] } (.seq .leaf (.seq .leaf .leaf)) func66 ⟨zz4,trivial⟩
noncomputable def za5w:FSem:=mkE (ArgT.cons tyTSketch (ArgT.cons tyTPiece ArgT.nil)) (Ty.tup (.cons (Ty.leaf (.int .i64)) (.cons (Ty.leaf (.int .i64)) .nil)) (fun x=>(x.1,x.2,())) (fun y=>(y.1,y.2.1)) (fun _=>rfl) (fun _=>rfl)) fun a=>F.zmh a.1 a.2.1
theorem zaf7:Entry prog 148 za5w false:=eo { P:=prog,n:=44,tab:=[],rtL:=[(8,3),(10,2),(12,3),(17,2),(19,3),(24,2),(26,3),(31,2),(33,3),(38,3)],locL:=[2,3] } (.seq .leaf (.seq .leaf (.join [(6,.leaf (.int .i64)),(7,.leaf (.int .i64))] (.seq .leaf (.cond (.draw [0,1,2,3,4,5,6,7,8,9,10,11,12,13,14,15]) (.draw [0,1,2,3,4,5,6,7,8,9,10,11,12,13,14,15]))) (.seq (.seq .leaf (.cond (.seq .leaf .leaf) .leaf)) (.seq .leaf .leaf))))) func148 trivial
noncomputable def za5x:FSem:=mkE (ArgT.cons tyTSketch (ArgT.cons (Ty.leaf .sl) ArgT.nil)) (Ty.leaf .bool) fun a=>F.zlh a.1 a.2.1
theorem zaf8:Entry prog 67 za5x false:=eo { P:=prog,n:=80,tab:=[(148,za5w),(65,zx4)],rtL:=[(22,2),(41,2)],locL:=[2] } (.seq .leaf (.seq (.seq .leaf (.block (.loop [(5,.leaf (.int .i64))] (.seq (.seq .leaf (.cond .leaf .leaf)) (.join [] (.block (.join [] (.seq (.draw [0,1,2,3,4,5,6,7,8,9,10,11,12,13,14,15,16,17,18,19,20,21,22,23,24,25,26,27,28,29,30,31,32,33,34,35,36]) (.cond (.seq .leaf .leaf) .leaf)) (.seq .leaf (.cond (.seq (.draw [0,1,2,3,4,5,6,7,8,9,10,11]) (.seq (.draw [0,1,2,3,4,5,6,7,8,9,10]) (.seq .leaf (.cond (.seq .leaf .leaf) .leaf)))) .leaf)))) .leaf))))) (.seq .leaf .leaf))) func67 ⟨zaf7,za8p,trivial⟩
noncomputable def za5y:FSem:=mkE ArgT.nil (Ty.leaf .sl) fun a=>F.zkd
theorem zaf9:Entry prog 200 za5y false:=eo { P:=prog,n:=19,tab:=[] } (.seq .leaf (.seq .leaf .leaf)) func200 trivial
noncomputable def zx6:FSem:=mkE (ArgT.cons (Ty.leaf (.int .i64)) ArgT.nil) (Ty.tup (.cons zp6 (.cons (Ty.leaf .bool) .nil)) (fun x=>(x.1,x.2,())) (fun y=>(y.1,y.2.1)) (fun _=>rfl) (fun _=>rfl)) fun a=>F.zn7 a.1
theorem za8r:Entry prog 149 zx6 false:=eo { P:=prog,n:=18,tab:=[(200,za5y)],locL:=[2] } (.seq .leaf (.join [(2,.box [.str,.int .i64,.int .i64,.int .i64,.int .i64,.int .i64,.bool])] (.seq .leaf (.cond (.seq .leaf .leaf) .leaf)) (.seq .leaf .leaf))) func149 ⟨zaf9,trivial⟩
noncomputable def zt4:FSem:=mkE (ArgT.cons (Ty.leaf (.int .i64)) ArgT.nil) tyTInt fun a=>F.zey a.1
theorem zz7:Entry prog 160 zt4 false:=eo { P:=prog,n:=14,tab:=[(206,zwy),(199,zlq)],locL:=[2] } (.seq .leaf (.seq (.seq .leaf (.cond (.seq .leaf .leaf) .leaf)) (.seq .leaf .leaf))) func160 ⟨za8j,zng,trivial⟩
noncomputable def zt5:FSem:=mkE (ArgT.cons (Ty.leaf (.int .i64)) ArgT.nil) tyTRat fun a=>F.zd4 a.1
theorem zz8:Entry prog 86 zt5 false:=eo { P:=prog,n:=7,tab:=[(160,zt4)],locL:=[2] } (.seq .leaf (.seq .leaf .leaf)) func86 ⟨zz7,trivial⟩
noncomputable def za5z:FSem:=mkE (ArgT.cons tyTInt (ArgT.cons tyTInt ArgT.nil)) (Ty.leaf .bool) fun a=>F.zme a.1 a.2.1
theorem zafa:Entry prog 268 za5z false:=eo { P:=prog,n:=18,tab:=[(230,zqf)],rtL:=[(5,2),(7,3),(11,2),(13,3)],locL:=[2,3] } (.seq .leaf (.seq .leaf .leaf)) func268 ⟨zu5,trivial⟩
noncomputable def za60:FSem:=mkE (ArgT.cons tyTInt ArgT.nil) (Ty.leaf .str) fun a=>F.zk9 a.1
theorem zafb:Entry prog 269 za60 false:=eo { P:=prog,n:=34,tab:=[(197,zor),(232,zwz)],rtL:=[(9,1),(29,1)],locL:=[1] } (.seq .leaf (.seq .leaf (.seq .leaf (.seq .leaf (.seq (.block (.loop [(3,.leaf (.str)),(4,.leaf (.sl))] (.seq (.seq .leaf (.cond .leaf .leaf)) (.block (.seq .leaf (.seq .leaf .leaf)))))) (.seq (.seq .leaf (.cond (.seq .leaf .leaf) .leaf)) (.seq (.seq .leaf (.cond (.seq .leaf .leaf) .leaf)) (.seq .leaf .leaf)))))))) func269 ⟨zqz,za8k,trivial⟩
noncomputable def zx7:FSem:=mkE (ArgT.cons tyTInt (ArgT.cons tyTInt ArgT.nil)) tyTInt fun a=>F.zi9 a.1 a.2.1
theorem za8s:Entry prog 285 zx7 false:=eo { P:=prog,n:=20,tab:=[(197,zor),(252,zx0),(199,zlq)],rtL:=[(9,2),(11,3),(14,2),(16,3)],locL:=[2,3,4] } (.seq .leaf (.seq (.draw [0,2,1,3,4,5]) (.seq (.draw [0,1,2,3,4,5,6,7,8,9,10,11]) .leaf))) func285 ⟨zqz,za8l,zng,trivial⟩
noncomputable def za61:FSem:=mkE (ArgT.cons tyTInt ArgT.nil) tyTInt fun a=>F.znw a.1
theorem zafc:Entry prog 315 za61 false:=eo { P:=prog,n:=9,tab:=[(199,zlq)],rtL:=[(3,1),(6,1)],locL:=[1,2] } (.seq .leaf (.seq .leaf .leaf)) func315 ⟨zng,trivial⟩
noncomputable def za62:FSem:=mkE (ArgT.cons (Ty.leaf .sl) (ArgT.cons (Ty.leaf .sl) ArgT.nil)) (Ty.leaf .sl) fun a=>F.zka a.1 a.2.1
theorem zafd:Entry prog 316 za62 false:=eo { P:=prog,n:=58,tab:=[(196,zh4)] } (.seq .leaf (.join [(0,.leaf (.sl)),(1,.leaf (.sl))] (.seq .leaf (.cond .leaf .leaf)) (.seq .leaf (.seq .leaf (.seq (.seq .leaf (.block (.loop [(6,.leaf (.int .u64)),(7,.leaf (.int .i64))] (.seq (.seq .leaf (.cond .leaf .leaf)) (.seq (.block (.seq .leaf (.join [(6,.leaf (.int .u64))] (.seq .leaf (.cond .leaf .leaf)) (.seq .leaf .leaf)))) .leaf))))) (.seq .leaf (.seq .leaf .leaf))))))) func316 ⟨zii,trivial⟩
noncomputable def zx8:FSem:=mkE (ArgT.cons tyTInt (ArgT.cons tyTInt ArgT.nil)) tyTInt fun a=>F.zlw a.1 a.2.1
theorem za8t:Entry prog 307 zx8 false:=eo { P:=prog,n:=44,tab:=[(197,zor),(316,za62),(199,zlq),(230,zqf),(236,zt2)],rtL:=[(9,2),(11,3),(14,2),(16,2),(18,3),(22,2),(24,3),(28,2),(30,2),(32,3),(36,3),(38,3),(40,2)],locL:=[2,3,4] } (.seq .leaf (.seq (.draw [0,2,1,3,4,5]) (.seq (.seq .leaf (.cond (.seq (.draw [0,1,2,3,4,5,6,7,8]) .leaf) .leaf)) (.seq (.seq .leaf (.cond (.seq (.draw [0,1,2,3,4,5,6,7,8]) .leaf) .leaf)) (.seq (.draw [0,1,2,3,4,5,6,7,8]) .leaf))))) func307 ⟨zqz,zafd,zng,zu5,zz5,trivial⟩
noncomputable def za63:FSem:=mkE (ArgT.cons tyTInt (ArgT.cons tyTInt ArgT.nil)) tyTInt fun a=>F.zlx a.1 a.2.1
theorem zafe:Entry prog 306 za63 false:=eo { P:=prog,n:=9,tab:=[(315,za61),(307,zx8)],locL:=[2,3,4] } (.seq .leaf (.seq (.draw [0,1,2,3,4]) .leaf)) func306 ⟨zafc,za8t,trivial⟩
noncomputable def za64:FSem:=mkE (ArgT.cons tyTInt (ArgT.cons tyTInt ArgT.nil)) (Ty.tup (.cons tyTInt (.cons tyTInt (.cons (Ty.leaf (.int .i64)) .nil))) (fun x=>(x.1,x.2.1,x.2.2,())) (fun y=>(y.1,y.2.1,y.2.2.1)) (fun _=>rfl) (fun _=>rfl)) fun a=>F.zk8 a.1 a.2.1
theorem zaff:Entry prog 298 za64 false:=eo { P:=prog,n:=55,tab:=[(197,zor),(198,zx1),(199,zlq),(285,zx7),(306,za63),(145,zt1),(160,zt4),(307,zx8)],rtL:=[(15,3),(22,2),(24,3),(29,2),(31,3)],locL:=[2,3,4,5,9,10] } (.seq .leaf (.seq (.draw [0,2,1,3,4,5]) (.seq (.seq .leaf (.cond (.seq .leaf .leaf) .leaf)) (.seq .leaf (.seq .leaf (.seq (.draw [0,1,2,5,3,4,6]) (.join [(9,.box [.bool,.sl]),(10,.box [.bool,.sl])] (.seq (.draw [0,2,1,3,4,5]) (.cond (.seq (.draw [0,1,2,3]) .leaf) .leaf)) (.seq (.draw [0,1,2,3,4]) .leaf)))))))) func298 ⟨zqz,za8m,zng,za8s,zafe,zz4,zz7,za8t,trivial⟩
noncomputable def za65:FSem:=mkE (ArgT.cons tyTInt (ArgT.cons tyTInt ArgT.nil)) tyTInt fun a=>F.zib a.1 a.2.1
theorem zafg:Entry prog 286 za65 false:=eo { P:=prog,n:=16,tab:=[(298,za64)],locL:=[2,3,4,5,6] } (.seq .leaf (.seq .leaf (.seq .leaf .leaf))) func286 ⟨zaff,trivial⟩
noncomputable def za66:FSem:=mkE (ArgT.cons tyTRat (ArgT.cons tyTRat ArgT.nil)) tyTRat fun a=>F.znx a.1 a.2.1
theorem zafh:Entry prog 270 za66 false:=eo { P:=prog,n:=65,tab:=[(147,zx2),(286,za65),(285,zx7),(146,zx3),(86,zt5)],rtL:=[(7,2),(8,2),(13,3),(14,3),(20,2),(24,3),(28,2),(30,3),(33,2),(36,2),(38,3),(41,3),(43,2),(46,2),(50,3),(55,2),(59,3)],locL:=[2,3,4,5,6] } (.seq .leaf (.join [(4,.box [.bool,.sl,.bool,.sl])] (.seq .leaf (.cond (.seq .leaf .leaf) .leaf)) (.join [(4,.box [.bool,.sl,.bool,.sl])] (.seq .leaf (.cond (.seq (.draw [0,1,2,3,5,6,4,7,8]) .leaf) .leaf)) (.seq (.draw [0,1,2,3,5,6,7,8,10,11,4,9,12,13]) (.seq (.draw [0,1,2,4,5,6,9,10,11,13,14,15,3,7,8,12,16,17,18,19]) .leaf))))) func270 ⟨za8n,zafg,za8s,za8o,zz8,trivial⟩
noncomputable def za67:FSem:=mkE (ArgT.cons tyTRat ArgT.nil) (Ty.tup (.cons (Ty.leaf .str) (.cons (Ty.leaf .bool) .nil)) (fun x=>(x.1,x.2,())) (fun y=>(y.1,y.2.1)) (fun _=>rfl) (fun _=>rfl)) fun a=>F.zjd a.1
theorem zafi:Entry prog 253 za67 false:=eo { P:=prog,n:=60,tab:=[(86,zt5),(160,zt4),(268,za5z),(269,za60),(270,za66),(64,zt3),(66,zx5)],rtL:=[(24,6),(28,6)],locL:=[1,4,5,6] } (.seq .leaf (.join [] (.seq .leaf (.cond (.seq .leaf .leaf) .leaf)) (.seq .leaf (.seq .leaf (.seq .leaf (.seq (.seq .leaf (.block (.loop [(6,.box [.bool,.sl,.bool,.sl]),(7,.leaf (.int .i64))] (.seq (.seq .leaf (.cond .leaf .leaf)) (.seq (.block (.seq (.seq .leaf (.cond (.seq .leaf (.seq (.block (.loop [(8,.leaf (.str))] (.seq (.seq .leaf (.cond .leaf .leaf)) (.block .leaf)))) (.join [(8,.leaf (.str))] (.seq .leaf (.cond (.draw [0,1,2,3,4,5,6,7,8,9,10,11,12,13,14]) .leaf)) (.seq .leaf .leaf)))) .leaf)) .leaf)) .leaf))))) (.seq .leaf .leaf))))))) func253 ⟨zz8,zz7,zafa,zafb,zafh,zz6,za8q,trivial⟩
noncomputable def za68:FSem:=mkE (ArgT.cons (Ty.leaf (.int .u8)) ArgT.nil) (Ty.leaf .bool) fun a=>F.zkb a.1
theorem zafj:Entry prog 287 za68 false:=eo { P:=prog,n:=17,tab:=[] } (.seq .leaf (.seq .leaf .leaf)) func287 trivial
noncomputable def za69:FSem:=mkE (ArgT.cons (Ty.leaf (.int .u8)) ArgT.nil) (Ty.leaf .bool) fun a=>F.zo9 a.1
theorem zafk:Entry prog 288 za69 false:=eo { P:=prog,n:=9,tab:=[] } (.seq .leaf (.seq .leaf .leaf)) func288 trivial
end
end Den
end

section
set_option maxRecDepth 100000
namespace Den
open Go Go.Proofs.Tryz
noncomputable section
noncomputable def za6a:FSem:=mkE (ArgT.cons (Ty.leaf .str) (ArgT.cons (Ty.leaf (.int .i64)) ArgT.nil)) (Ty.leaf (.int .i64)) fun a=>F.zmg a.1 a.2.1
theorem zafl:Entry prog 271 za6a false:=eo { P:=prog,n:=42,tab:=[(287,za68),(288,za69)] } (.seq .leaf (.join [] (.seq .leaf (.cond (.seq .leaf .leaf) .leaf)) (.seq (.block (.loop [(1,.leaf (.int .i64))] (.join [] (.seq .leaf (.cond .leaf .leaf)) (.block .leaf)))) (.seq .leaf .leaf)))) func271 ⟨zafj,zafk,trivial⟩
noncomputable def za6b:FSem:=mkE (ArgT.cons (Ty.leaf .str) ArgT.nil) (Ty.leaf .bool) fun a=>F.zgg a.1
theorem zafm:Entry prog 254 za6b false:=eo { P:=prog,n:=17,tab:=[(271,za6a)] } (.seq .leaf (.seq .leaf .leaf)) func254 ⟨zafl,trivial⟩
noncomputable def za6c:FSem:=mkE (ArgT.cons tyTExpr ArgT.nil) (Ty.leaf .bool) fun a=>F.zle a.1
theorem zafn:Entry prog 238 za6c false:=eo { P:=prog,n:=106,tab:=[(253,za67),(254,za6b)],rtL:=[(6,1),(7,1),(8,1),(12,1),(13,1),(14,1),(19,1),(20,1),(21,1),(27,1),(28,1),(29,1),(34,1),(39,1),(46,1),(50,1),(56,1),(65,1),(70,1),(79,1),(84,1),(96,1),(101,1)],locL:=[1] } (.seq .leaf (.join [(3,.leaf (.bool))] .leaf (.seq (.seq .leaf (.block (.seq .leaf (.cond (.seq .leaf (.seq .leaf .leaf)) (.seq .leaf (.cond (.seq .leaf .leaf) (.seq .leaf (.cond (.seq .leaf .leaf) (.join [(89,.leaf (.bool))] (.seq .leaf (.cond .leaf (.seq .leaf (.cond .leaf (.seq .leaf (.cond .leaf .leaf)))))) (.cond (.seq .leaf .leaf) .leaf)))))))))) (.seq .leaf .leaf)))) func238 ⟨zafi,zafm,trivial⟩
noncomputable def zw5:ArgT (TExpr×Unit):=(ArgT.cons tyTExpr ArgT.nil)
noncomputable def zwb:Ty Bool:=(Ty.leaf .bool)
noncomputable def za6d:FSem:=mkE zw5 zwb fun a=>F.zkc a.1
noncomputable def zacl (n:Nat):Cfg:={ P:=prog,n:=21,tab:=[(238,za6c),(201,mkE zw5 zwb (fun a=>F.zez n a.1))],rtL:=[(8,1),(14,1)],locL:=[1] }
theorem za99:∃fn,prog.funcs[201]?=some fn∧fn.body.isNone=false∧(fn.name == "runtime.NumGoroutine")=false:=⟨_,func201,rfl,by decide⟩
theorem za9f:∀n a K D w,Sub D w→F.zez n a.1 K D→Calls prog 201 (zw5.up a).toArray w (Post (fun v h=>zwb.dn v fun r=>K r h) D w)
 | 0,_,_,_,_,_,h=>h.elim
 | n+1,a,K,D,w,hs,h=>zjk (C:=zacl n) (F:=fun a=>F.zez (n+1) a.1) (fn:=f201) (c:=bd f201) (an:=(.seq .leaf (.seq (.seq .leaf (.cond (.seq .leaf .leaf) .leaf)) (.seq (.seq .leaf (.block (.loop [(3,.leaf (.int .i64))] (.seq (.seq .leaf (.cond .leaf .leaf)) (.seq (.block (.seq .leaf (.cond (.seq .leaf .leaf) .leaf))) .leaf))))) (.seq .leaf .leaf))))) ⟨zafn,(zd9 za99 (za9f n)),trivial⟩ trivial func201 rfl rfl (fun _=>rfl) (by intro a K D; kernel_rfl) a K D w hs h
theorem zafo:Entry prog 201 za6d false:=zd9 za99 (fun a K D w hs h=>h.elim fun m h=>za9f m a K D w hs h)
noncomputable def zw6:ArgT (TExpr×Unit):=(ArgT.cons tyTExpr ArgT.nil)
noncomputable def zwc:Ty Int:=(Ty.leaf (.int .i64))
noncomputable def za6e:FSem:=mkE zw6 zwc fun a=>F.zlc a.1
noncomputable def zacm (n:Nat):Cfg:={ P:=prog,n:=22,tab:=[(202,mkE zw6 zwc (fun a=>F.zdi n a.1))],rtL:=[(6,1),(13,1)],locL:=[1] }
theorem za9a:∃fn,prog.funcs[202]?=some fn∧fn.body.isNone=false∧(fn.name == "runtime.NumGoroutine")=false:=⟨_,func202,rfl,by decide⟩
theorem za9g:∀n a K D w,Sub D w→F.zdi n a.1 K D→Calls prog 202 (zw6.up a).toArray w (Post (fun v h=>zwc.dn v fun r=>K r h) D w)
 | 0,_,_,_,_,_,h=>h.elim
 | n+1,a,K,D,w,hs,h=>zjk (C:=zacm n) (F:=fun a=>F.zdi (n+1) a.1) (fn:=f202) (c:=bd f202) (an:=(.seq .leaf (.seq .leaf (.seq (.seq .leaf (.block (.loop [(3,.leaf (.int .i64)),(4,.leaf (.int .i64))] (.seq (.seq .leaf (.cond .leaf .leaf)) (.seq (.block .leaf) .leaf))))) (.seq .leaf .leaf))))) ⟨(zd9 za9a (za9g n)),trivial⟩ trivial func202 rfl rfl (fun _=>rfl) (by intro a K D; kernel_rfl) a K D w hs h
theorem zafp:Entry prog 202 za6e false:=zd9 za9a (fun a K D w hs h=>h.elim fun m h=>za9g m a K D w hs h)
noncomputable def za6f:FSem:=mkE (ArgT.cons tyTExpr ArgT.nil) (Ty.leaf (.int .i64)) fun a=>F.zld a.1
theorem zafq:Entry prog 151 za6f false:=eo { P:=prog,n:=9,tab:=[(201,za6d),(202,za6e)],locL:=[1] } (.seq .leaf (.seq (.seq .leaf (.cond (.seq .leaf .leaf) .leaf)) (.seq (.seq .leaf (.cond (.seq .leaf .leaf) .leaf)) (.seq .leaf .leaf)))) func151 ⟨zafo,zafp,trivial⟩
noncomputable def za6g:FSem:=mkE (ArgT.cons (Ty.leaf .sl) ArgT.nil) (Ty.leaf .bool) fun a=>F.zfz a.1
theorem zafr:Entry prog 152 za6g false:=eo { P:=prog,n:=25,tab:=[] } (.seq .leaf (.seq (.seq .leaf (.block (.loop [(3,.leaf (.int .i64))] (.seq (.seq .leaf (.cond .leaf .leaf)) (.seq (.block (.seq .leaf (.block (.loop [(4,.leaf (.int .i64))] (.seq (.seq .leaf (.cond .leaf .leaf)) (.seq (.block (.seq (.draw [0,1,2,3,4,5,6,7,8]) (.cond (.seq .leaf .leaf) .leaf))) .leaf)))))) .leaf))))) (.seq .leaf .leaf))) func152 trivial
noncomputable def za6h:FSem:=mkE (ArgT.cons (Ty.leaf .sl) (ArgT.cons (Ty.leaf (.int .i64)) ArgT.nil)) (Ty.leaf .bool) fun a=>F.zic a.1 a.2.1
theorem zafs:Entry prog 150 za6h false:=eo { P:=prog,n:=25,tab:=[] } (.seq .leaf (.seq (.seq .leaf (.block (.loop [(5,.leaf (.int .i64))] (.seq (.seq .leaf (.cond .leaf .leaf)) (.join [] (.block (.seq .leaf (.cond (.seq .leaf .leaf) .leaf))) .leaf))))) (.seq .leaf .leaf))) func150 trivial
noncomputable def za6i:FSem:=mkE (ArgT.cons tyTConstraint (ArgT.cons (Ty.leaf (.int .i64)) (ArgT.cons (Ty.leaf (.int .i64)) ArgT.nil))) (Ty.leaf .bool) fun a=>F.zlf a.1 a.2.1 a.2.2.1
theorem zaft:Entry prog 68 za6i false:=eo { P:=prog,n:=164,tab:=[(149,zx6),(151,za6f),(152,za6g),(150,za6h)],rtL:=[(13,3),(21,3),(24,7),(29,3),(32,7),(37,3),(40,7),(45,3),(52,3),(59,3),(65,3),(72,7),(75,3),(80,3),(85,7),(89,3),(94,3),(96,3),(160,3)],locL:=[3,7] } (.seq .leaf (.seq .leaf (.join [] (.seq .leaf (.cond (.seq .leaf .leaf) .leaf)) (.seq (.seq .leaf (.block (.loop [(9,.leaf (.int .i64))] (.seq (.seq .leaf (.cond .leaf .leaf)) (.seq (.block (.seq .leaf (.cond (.seq .leaf .leaf) .leaf))) .leaf))))) (.join [] (.seq .leaf (.cond (.seq .leaf .leaf) .leaf)) (.seq .leaf (.seq (.seq .leaf (.block (.join [(98,.leaf (.bool))] (.seq .leaf (.cond .leaf (.seq .leaf (.cond .leaf (.seq .leaf (.cond .leaf .leaf)))))) (.cond (.join [(11,.leaf (.bool))] (.draw [0,1,2,3,4,5,6,7,8,9,10,11,12,13,14,15,16,17,18,19,20,21,22,23,24,25,26,27,28,29,30,31,32,33,34]) (.seq (.draw [0,1,2,3,4,5,6,7,8,9,10,11,12,13,14,15,16,17,18,19,20]) .leaf)) .leaf)))) (.seq .leaf .leaf)))))))) func68 ⟨za8r,zafq,zafr,zafs,trivial⟩
noncomputable def zn0:FSem:=mkE (ArgT.cons tyTSketch ArgT.nil) (Ty.leaf (.int .i64)) fun a=>F.zdd a.1
theorem zp4:Entry prog 25 zn0 false:=eo { P:=prog,n:=191,tab:=[(63,za5p),(64,zt3),(65,zx4),(66,zx5),(67,za5x),(68,za6i)],rtL:=[(15,1),(23,1),(32,1),(42,1),(48,1),(54,6),(59,6),(65,6),(71,1),(77,1),(83,8),(89,8),(95,8),(97,8),(102,1),(108,1),(113,1),(116,10),(122,10),(129,10),(135,10),(137,1),(139,10),(147,10),(149,1),(151,10),(159,1),(166,1),(174,1),(180,1),(186,1)],locL:=[1,6,8,10] } (.seq .leaf (.seq (.seq .leaf (.cond (.seq .leaf .leaf) .leaf)) (.seq .leaf (.seq (.seq .leaf (.block (.loop [(4,.leaf (.int .i64))] (.seq (.seq .leaf (.cond .leaf .leaf)) (.join [] (.block (.seq .leaf (.cond (.seq .leaf .leaf) .leaf))) .leaf))))) (.seq (.seq .leaf (.block (.loop [(5,.leaf (.int .i64))] (.seq (.seq .leaf (.cond .leaf .leaf)) (.join [] (.block (.seq .leaf (.seq .leaf (.cond (.seq .leaf .leaf) .leaf)))) .leaf))))) (.seq (.seq .leaf (.block (.loop [(7,.leaf (.int .i64))] (.seq (.seq .leaf (.cond .leaf .leaf)) (.join [] (.block (.seq .leaf (.seq .leaf (.cond (.seq .leaf .leaf) .leaf)))) .leaf))))) (.seq (.seq .leaf (.block (.loop [(9,.leaf (.int .i64))] (.seq (.seq .leaf (.cond .leaf .leaf)) (.join [] (.block (.seq .leaf (.seq (.draw [0,1,2,3,4,5,6,7,8,9,10,11,12,13,14,15,16,17,18,19,20,21,22,23,24,25,26,27,28,29,30,31,32,33,34,35,36,37,38,39,40,41,42,43,44]) (.cond (.seq .leaf .leaf) .leaf)))) .leaf))))) (.seq (.seq .leaf (.block (.loop [(11,.leaf (.int .i64))] (.seq (.seq .leaf (.cond .leaf .leaf)) (.seq (.block (.seq (.draw [0,1,2,3,4,5,6,7]) (.cond (.seq .leaf .leaf) .leaf))) .leaf))))) (.seq (.seq .leaf (.block (.loop [(12,.leaf (.int .i64))] (.seq (.seq .leaf (.cond .leaf .leaf)) (.seq (.block (.seq (.draw [0,1,2,3,4,5,6,7,8,9,10]) (.cond (.seq .leaf .leaf) .leaf))) .leaf))))) (.seq .leaf .leaf)))))))))) func25 ⟨zaf0,zz6,za8p,za8q,zaf8,zaft,trivial⟩
noncomputable def za6j:FSem:=mkE (ArgT.cons tyTConstraint (ArgT.cons (Ty.leaf (.int .i64)) (ArgT.cons (Ty.leaf (.int .i64)) ArgT.nil))) (Ty.leaf .bool) fun a=>F.zn8 a.1 a.2.1 a.2.2.1
theorem zafu:Entry prog 96 za6j false:=eo { P:=prog,n:=26,tab:=[],rtL:=[(7,3),(11,3),(19,3)],locL:=[3] } (.seq .leaf (.seq .leaf .leaf)) func96 trivial
noncomputable def za6k:FSem:=mkE (ArgT.cons tyTSketch ArgT.nil) (Ty.leaf .sl) fun a=>F.zje a.1
theorem zafv:Entry prog 46 za6k false:=eo { P:=prog,n:=74,tab:=[(96,za6j)],rtL:=[(11,1),(15,1),(21,1),(26,5),(28,5),(51,5),(63,5),(70,1)],locL:=[1,5,67] } (.seq .leaf (.seq .leaf (.seq (.seq .leaf (.block (.loop [(3,.leaf (.sl)),(4,.leaf (.int .i64))] (.seq (.seq .leaf (.cond .leaf .leaf)) (.seq (.block (.seq .leaf (.seq .leaf (.seq .leaf (.block (.loop [(3,.leaf (.sl)),(7,.leaf (.int .i64))] (.seq (.seq .leaf (.cond .leaf .leaf)) (.join [(3,.leaf (.sl))] (.block (.seq .leaf (.seq (.seq .leaf (.block (.loop [(8,.leaf (.bool)),(9,.leaf (.int .i64))] (.seq (.seq .leaf (.cond .leaf .leaf)) (.join [(8,.leaf (.bool))] (.block (.draw [0,1,2,3,4,5,6,7,8,9,10,11,12,13,14])) .leaf))))) (.seq .leaf (.cond (.draw [0,1,2,3,4,6,7,5,8,9,10,11,12]) .leaf))))) .leaf)))))))) .leaf))))) (.seq .leaf .leaf)))) func46 ⟨zafu,trivial⟩
noncomputable def zqg:FSem:=mkE (ArgT.cons tyTSketch ArgT.nil) (Ty.leaf .sl) fun a=>F.zid a.1
theorem zu6:Entry prog 72 zqg false:=eo { P:=prog,n:=10,tab:=[(46,za6k)],rtL:=[(4,1)],locL:=[1] } (.seq .leaf (.seq (.draw [1,2,4,0,3,5,6,7]) .leaf)) func72 ⟨zafv,trivial⟩
noncomputable def zt6:FSem:=mkE (ArgT.cons tyTSketch ArgT.nil) (Ty.leaf .sl) fun a=>F.zfo a.1
theorem zz9:Entry prog 73 zt6 false:=eo { P:=prog,n:=22,tab:=[],rtL:=[(6,1),(13,1)],locL:=[1,19] } (.seq .leaf (.seq .leaf (.seq (.seq .leaf (.block (.loop [(3,.leaf (.sl)),(4,.leaf (.int .i64))] (.seq (.seq .leaf (.cond .leaf .leaf)) (.seq (.block .leaf) .leaf))))) (.seq .leaf .leaf)))) func73 trivial
noncomputable def za6l:FSem:=mkE (ArgT.cons tyTConstraint (ArgT.cons (Ty.leaf .sl) ArgT.nil)) (Ty.leaf .sl) fun a=>F.zlj a.1 a.2.1
theorem zafw:Entry prog 143 za6l false:=eo { P:=prog,n:=52,tab:=[],rtL:=[(8,2),(12,2),(19,2),(27,2),(31,2),(36,2),(42,2)],locL:=[2,25,49] } (.seq .leaf (.seq .leaf (.seq (.seq .leaf (.block (.loop [(5,.leaf (.sl)),(6,.leaf (.int .i64))] (.seq (.seq .leaf (.cond .leaf .leaf)) (.join [(5,.leaf (.sl))] (.block (.seq .leaf (.seq .leaf (.cond .leaf .leaf)))) .leaf))))) (.seq .leaf .leaf)))) func143 trivial
noncomputable def zqh:FSem:=mkE (ArgT.cons (Ty.leaf .sl) (ArgT.cons (Ty.leaf (.int .i64)) ArgT.nil)) (Ty.leaf .bool) fun a=>F.zg0 a.1 a.2.1
theorem zu7:Entry prog 69 zqh false:=eo { P:=prog,n:=18,tab:=[] } (.seq .leaf (.seq (.seq .leaf (.block (.loop [(5,.leaf (.int .i64))] (.seq (.seq .leaf (.cond .leaf .leaf)) (.seq (.block (.seq .leaf (.cond (.seq .leaf .leaf) .leaf))) .leaf))))) (.seq .leaf .leaf))) func69 trivial
noncomputable def zt7:FSem:=mkE (ArgT.cons tyTSketch (ArgT.cons (Ty.leaf (.int .i64)) (ArgT.cons (Ty.leaf .sl) ArgT.nil))) (Ty.leaf .sl) fun a=>F.zer a.1 a.2.1 a.2.2.1
theorem zza:Entry prog 62 zt7 false:=eo { P:=prog,n:=57,tab:=[(72,zqg),(73,zt6),(143,za6l),(69,zqh)],locL:=[3,54] } (.seq .leaf (.seq (.draw [0,2,1,3,4,5]) (.seq .leaf (.seq (.seq .leaf (.block (.loop [(9,.leaf (.sl)),(10,.leaf (.int .i64))] (.seq (.seq .leaf (.cond .leaf .leaf)) (.join [(9,.leaf (.sl))] (.block (.seq .leaf (.seq .leaf (.seq (.seq .leaf (.block (.loop [(12,.leaf (.bool)),(13,.leaf (.int .i64))] (.seq (.seq .leaf (.cond .leaf .leaf)) (.join [(12,.leaf (.bool))] (.block .leaf) .leaf))))) (.seq .leaf (.cond .leaf .leaf)))))) .leaf))))) (.seq .leaf .leaf))))) func62 ⟨zu6,zz9,zafw,zu7,trivial⟩
noncomputable def zt8:FSem:=mkE (ArgT.cons tyTConstraint ArgT.nil) (Ty.leaf (.int .i64)) fun a=>F.zeq a.1
theorem zzb:Entry prog 97 zt8 false:=eo { P:=prog,n:=13,tab:=[(149,zx6)],rtL:=[(6,1),(11,3)],locL:=[1,3] } (.seq .leaf (.seq .leaf (.seq .leaf .leaf))) func97 ⟨za8r,trivial⟩
noncomputable def zx9:FSem:=mkE (ArgT.cons tyTSketch (ArgT.cons (Ty.leaf .sl) ArgT.nil)) (Ty.leaf (.int .i64)) fun a=>F.zie a.1 a.2.1
theorem za8u:Entry prog 74 zx9 false:=eo { P:=prog,n:=27,tab:=[(72,zqg),(97,zt8)],locL:=[2] } (.seq .leaf (.seq .leaf (.seq .leaf (.seq (.seq .leaf (.block (.loop [(6,.leaf (.int .i64)),(7,.leaf (.int .i64))] (.seq (.seq .leaf (.cond .leaf .leaf)) (.seq (.block .leaf) .leaf))))) (.seq .leaf .leaf))))) func74 ⟨zu6,zzb,trivial⟩
noncomputable def zxa:FSem:=mkE (ArgT.cons tyTConstraint (ArgT.cons (Ty.leaf .sl) (ArgT.cons (Ty.leaf (.int .i64)) ArgT.nil))) (Ty.leaf (.int .i64)) fun a=>F.zd1 a.1 a.2.1 a.2.2.1
theorem za8v:Entry prog 204 zxa false:=eo { P:=prog,n:=15,tab:=[],rtL:=[(8,3)],locL:=[3] } (.seq .leaf (.seq .leaf .leaf)) func204 trivial
noncomputable def zxb:FSem:=mkE (ArgT.cons tyTConstraint (ArgT.cons (Ty.leaf (.int .i64)) ArgT.nil)) (Ty.leaf .bool) fun a=>F.zn9 a.1 a.2.1
theorem za8w:Entry prog 203 zxb false:=eo { P:=prog,n:=20,tab:=[],rtL:=[(7,2),(13,2)],locL:=[2] } (.seq .leaf (.seq (.seq .leaf (.block (.loop [(5,.leaf (.int .i64))] (.seq (.seq .leaf (.cond .leaf .leaf)) (.seq (.block (.seq .leaf (.cond (.seq .leaf .leaf) .leaf))) .leaf))))) (.seq .leaf .leaf))) func203 trivial
noncomputable def za6m:FSem:=mkE (ArgT.cons tyTConstraint (ArgT.cons (Ty.leaf .sl) (ArgT.cons (Ty.leaf (.int .i64)) ArgT.nil))) (Ty.leaf .bool) fun a=>F.zli a.1 a.2.1 a.2.2.1
theorem zafx:Entry prog 155 za6m false:=eo { P:=prog,n:=53,tab:=[(204,zxa),(203,zxb)],rtL:=[(10,3),(18,3),(28,3),(41,3)],locL:=[3] } (.seq .leaf (.seq .leaf (.seq (.seq .leaf (.block (.loop [(7,.leaf (.bool)),(8,.leaf (.int .i64))] (.seq (.seq .leaf (.cond .leaf .leaf)) (.join [(7,.leaf (.bool))] (.block .leaf) .leaf))))) (.seq (.seq .leaf (.cond (.seq .leaf .leaf) .leaf)) (.seq (.seq .leaf (.block (.join [(30,.leaf (.bool))] (.seq .leaf (.cond .leaf .leaf)) (.cond (.seq (.draw [0,1,2,3,4,5,6]) .leaf) (.seq .leaf (.cond (.seq (.draw [0,1,2,3,4,5,7,8,6,9,10,11,12]) .leaf) .leaf)))))) (.seq .leaf .leaf)))))) func155 ⟨za8v,za8w,trivial⟩
noncomputable def zxc:FSem:=mkE (ArgT.cons tyTConstraint (ArgT.cons (Ty.leaf (.int .i64)) (ArgT.cons (Ty.leaf (.int .i64)) ArgT.nil))) (Ty.leaf .bool) fun a=>F.zjs a.1 a.2.1 a.2.2.1
theorem za8x:Entry prog 229 zxc false:=eo { P:=prog,n:=24,tab:=[],rtL:=[(7,3),(15,3)],locL:=[3] } (.seq .leaf (.seq .leaf .leaf)) func229 trivial
noncomputable def za6n:FSem:=mkE (ArgT.cons tyTConstraint (ArgT.cons (Ty.leaf (.int .i64)) (ArgT.cons (Ty.leaf (.int .i64)) (ArgT.cons (Ty.leaf (.int .i64)) ArgT.nil)))) (Ty.leaf (.int .i64)) fun a=>F.zg8 a.1 a.2.1 a.2.2.1 a.2.2.2.1
theorem zafy:Entry prog 228 za6n false:=eo { P:=prog,n:=27,tab:=[(229,zxc)],locL:=[4] } (.seq .leaf (.seq (.draw [0,1,3,4,2,5,6,7]) (.join [] (.seq .leaf (.cond (.seq .leaf .leaf) .leaf)) (.seq (.seq .leaf (.cond (.seq .leaf .leaf) .leaf)) (.seq .leaf .leaf))))) func228 ⟨za8x,trivial⟩
noncomputable def za6o:FSem:=mkE (ArgT.cons tyTConstraint (ArgT.cons (Ty.leaf .sl) (ArgT.cons (Ty.leaf (.int .i64)) ArgT.nil))) (Ty.leaf (.int .i64)) fun a=>F.zmk a.1 a.2.1 a.2.2.1
theorem zafz:Entry prog 195 za6o false:=eo { P:=prog,n:=87,tab:=[(203,zxb),(228,za6n),(229,zxc),(204,zxa)],rtL:=[(11,3),(27,3)],locL:=[3] } (.seq .leaf (.seq .leaf (.seq (.seq .leaf (.block (.join [(13,.leaf (.bool))] (.seq .leaf (.cond .leaf .leaf)) (.cond (.seq .leaf (.cond (.seq .leaf .leaf) .leaf)) (.seq .leaf (.cond (.seq .leaf (.cond (.seq .leaf .leaf) .leaf)) (.join [(20,.leaf (.bool))] (.seq .leaf (.cond .leaf (.seq .leaf (.cond .leaf .leaf)))) (.cond (.seq .leaf (.cond (.seq .leaf .leaf) .leaf)) (.seq .leaf (.cond (.seq .leaf (.cond (.seq .leaf .leaf) .leaf)) (.join [(33,.leaf (.bool))] (.seq .leaf (.cond .leaf .leaf)) (.cond (.seq .leaf .leaf) (.seq .leaf (.cond (.seq .leaf .leaf) (.seq .leaf (.cond (.seq .leaf .leaf) (.seq .leaf (.cond (.seq .leaf (.cond (.seq .leaf .leaf) .leaf)) (.seq .leaf (.cond (.seq .leaf (.cond (.seq .leaf .leaf) .leaf)) (.seq .leaf (.cond (.seq .leaf (.cond (.seq .leaf .leaf) .leaf)) (.seq .leaf (.cond (.seq (.draw [0,1,3,5,6,8,2,4,7,9,10]) (.cond (.seq .leaf .leaf) .leaf)) .leaf)))))))))))))))))))))))) (.seq .leaf .leaf)))) func195 ⟨za8w,zafy,za8x,za8v,trivial⟩
noncomputable def zxd:FSem:=mkE (ArgT.cons tyTConstraint (ArgT.cons (Ty.leaf .sl) (ArgT.cons (Ty.leaf (.int .i64)) ArgT.nil))) (Ty.leaf (.int .i64)) fun a=>F.zis a.1 a.2.1 a.2.2.1
theorem za8y:Entry prog 142 zxd false:=eo { P:=prog,n:=16,tab:=[(195,za6o)],locL:=[3] } (.seq .leaf (.seq .leaf (.seq .leaf .leaf))) func142 ⟨zafz,trivial⟩
noncomputable def za6p:FSem:=mkE (ArgT.cons tyTConstraint (ArgT.cons (Ty.leaf .sl) (ArgT.cons (Ty.leaf (.int .i64)) ArgT.nil))) (Ty.leaf .bool) fun a=>F.zlk a.1 a.2.1 a.2.2.1
theorem zag0:Entry prog 75 za6p false:=eo { P:=prog,n:=30,tab:=[(155,za6m),(142,zxd),(97,zt8)],locL:=[3] } (.seq .leaf (.seq (.seq .leaf (.cond (.seq .leaf .leaf) .leaf)) (.seq .leaf (.seq (.seq .leaf (.cond (.seq .leaf .leaf) .leaf)) (.seq .leaf .leaf))))) func75 ⟨zafx,za8y,zzb,trivial⟩
noncomputable def zxe:FSem:=mkE (ArgT.cons tyTSketch (ArgT.cons (Ty.leaf (.int .i64)) (ArgT.cons (Ty.leaf .sl) ArgT.nil))) (Ty.leaf .bool) fun a=>F.zdj a.1 a.2.1 a.2.2.1
theorem za8z:Entry prog 29 zxe false:=eo { P:=prog,n:=59,tab:=[(72,zqg),(73,zt6),(62,zt7),(74,zx9),(75,za6p),(25,zn0),(26,zoq),(69,zqh)],locL:=[3] } (.seq .leaf (.join [] (.seq .leaf (.cond (.seq .leaf .leaf) .leaf)) (.seq (.draw [0,2,1,3,4,5]) (.seq .leaf (.seq .leaf (.join [(10,.leaf (.int .i64))] (.seq .leaf (.cond .leaf .leaf)) (.seq (.seq .leaf (.cond (.seq .leaf .leaf) .leaf)) (.seq (.seq .leaf (.block (.loop [(11,.leaf (.int .i64))] (.seq (.seq .leaf (.cond .leaf .leaf)) (.seq (.block (.seq .leaf (.cond (.seq .leaf .leaf) .leaf))) .leaf))))) (.seq .leaf .leaf))))))))) func29 ⟨zu6,zz9,zza,za8u,zag0,zp4,zqy,zu7,trivial⟩
noncomputable def zxf:FSem:=mkE (ArgT.cons tyTSketch (ArgT.cons (Ty.leaf .sl) ArgT.nil)) (Ty.tup (.cons (Ty.leaf .sl) (.cons (Ty.leaf .sl) .nil)) (fun x=>(x.1,x.2,())) (fun y=>(y.1,y.2.1)) (fun _=>rfl) (fun _=>rfl)) fun a=>F.zgh a.1 a.2.1
theorem za90:Entry prog 27 zxf false:=eo { P:=prog,n:=61,tab:=[(25,zn0),(29,zxe),(69,zqh)],locL:=[2,37,57] } (.seq .leaf (.seq (.seq .leaf (.cond (.seq .leaf .leaf) .leaf)) (.seq .leaf (.seq (.seq .leaf (.block (.loop [(6,.leaf (.sl)),(7,.leaf (.bool))] (.seq (.seq .leaf (.cond .leaf .leaf)) (.block (.seq .leaf (.seq .leaf (.block (.loop [(6,.leaf (.sl)),(7,.leaf (.bool)),(8,.leaf (.int .i64))] (.join [] (.seq .leaf (.cond .leaf .leaf)) (.join [(6,.leaf (.sl)),(7,.leaf (.bool))] (.block (.seq (.draw [0,1,2,3,4,5,6]) (.cond (.seq .leaf .leaf) .leaf))) .leaf))))))))))) (.seq .leaf (.seq (.seq .leaf (.block (.loop [(9,.leaf (.sl)),(10,.leaf (.int .i64))] (.seq (.seq .leaf (.cond .leaf .leaf)) (.join [(9,.leaf (.sl))] (.block (.seq .leaf (.cond .leaf .leaf))) .leaf))))) (.seq .leaf .leaf))))))) func27 ⟨zp4,za8z,zu7,trivial⟩
noncomputable def zxg:FSem:=mkE (ArgT.cons tyTSketch ArgT.nil) (Ty.tup (.cons (Ty.leaf .sl) (.cons (Ty.leaf .sl) .nil)) (fun x=>(x.1,x.2,())) (fun y=>(y.1,y.2.1)) (fun _=>rfl) (fun _=>rfl)) fun a=>F.zke a.1
theorem za91:Entry prog 20 zxg false:=eo { P:=prog,n:=10,tab:=[(26,zoq),(27,zxf)],locL:=[1] } (.seq .leaf (.seq (.draw [0,1,2,3,4,5,6,7]) .leaf)) func20 ⟨zqy,za90,trivial⟩
noncomputable def zt9:FSem:=mkE (ArgT.cons (Ty.leaf .sl) (ArgT.cons (Ty.leaf .sl) ArgT.nil)) (Ty.leaf .bool) fun a=>F.zcl a.1 a.2.1
theorem zzc:Entry prog 21 zt9 false:=eo { P:=prog,n:=26,tab:=[] } (.seq .leaf (.seq (.seq .leaf (.cond (.seq .leaf .leaf) .leaf)) (.seq (.seq .leaf (.block (.loop [(5,.leaf (.int .i64))] (.seq (.seq .leaf (.cond .leaf .leaf)) (.seq (.block (.seq (.draw [0,1,2,3,4,5,6,7,8]) (.cond (.seq .leaf .leaf) .leaf))) .leaf))))) (.seq .leaf .leaf)))) func21 trivial
noncomputable def zm6:FSem:=mkE (ArgT.cons (Ty.leaf (.int .i64)) ArgT.nil) tyTSketch fun a=>F.zep a.1
theorem zrf:Entry prog 54 zm6 false:=eo { P:=prog,n:=41,tab:=[(86,zt5)],rtL:=[(10,3),(21,3),(26,3),(37,3)],locL:=[2,3,19,35] } (.seq .leaf (.seq .leaf (.seq (.seq .leaf (.block (.loop [(3,.box [.sl,.sl,.sl,.sl,.sl,.sl]),(7,.leaf (.int .i64))] (.seq .leaf (.seq (.cond .leaf .leaf) (.seq (.block (.seq .leaf (.seq (.draw [0,1,2,4,5,6,3,7,8,9,10,11,12]) (.seq .leaf (.block (.loop [(3,.box [.sl,.sl,.sl,.sl,.sl,.sl]),(23,.leaf (.int .i64))] (.seq .leaf (.seq (.cond .leaf .leaf) (.seq (.block (.seq .leaf (.draw [0,1,2,3,5,6,4,7,8,9,10,11,12]))) .leaf))))))))) .leaf)))))) (.seq .leaf .leaf)))) func54 ⟨zz8,trivial⟩
noncomputable def za6q:FSem:=mkE (ArgT.cons (Ty.leaf .ptr) (ArgT.cons (Ty.leaf (.int .i64)) (ArgT.cons (Ty.leaf .sl) ArgT.nil))) tyTStep fun a=>F.y_henneberg_peeler_step a.1 a.2.1 a.2.2.1
theorem zag1:Entry prog 59 za6q false:=eo { P:=prog,n:=64,tab:=[(139,zwu),(140,zsz)],rtL:=[(18,7),(27,8),(44,8),(57,8),(62,8)],locL:=[6,7,8] } (.seq .leaf (.seq (.seq .leaf (.cond (.seq .leaf (.join [(7,.box [.int .i64,.int .i64,.sl,.int .i64])] (.seq .leaf (.cond .leaf .leaf)) (.seq .leaf .leaf))) .leaf)) (.seq .leaf (.join [(8,.box [.int .i64,.int .i64,.sl,.int .i64])] (.block (.seq .leaf (.cond (.seq .leaf (.seq .leaf (.cond .leaf .leaf))) (.seq .leaf (.cond .leaf (.seq .leaf (.cond .leaf .leaf))))))) (.seq .leaf .leaf))))) func59 ⟨za8f,zz2,trivial⟩
noncomputable def zxh:FSem:=mkE (ArgT.cons tyTSketch ArgT.nil) (Ty.tup (.cons tyTPlan (.cons (Ty.leaf (.int .i64)) .nil)) (fun x=>(x.1,x.2,())) (fun y=>(y.1,y.2.1)) (fun _=>rfl) (fun _=>rfl)) fun a=>F.zf8 a.1
theorem za92:Entry prog 22 zxh false:=eo { P:=prog,n:=55,tab:=[(56,zqd),(57,zqe),(58,zwx),(60,zsy),(59,za6q)],rtL:=[(34,8),(53,8)],locL:=[1,2,8,51] } (.seq .leaf (.seq (.seq .leaf (.seq .leaf (.cond (.seq .leaf .leaf) .leaf))) (.seq .leaf (.seq .leaf (.seq (.seq .leaf (.cond (.seq .leaf .leaf) .leaf)) (.seq .leaf (.seq (.seq .leaf (.block (.loop [(8,.box [.sl,.sl]),(9,.leaf (.int .i64))] (.seq (.seq .leaf (.cond .leaf .leaf)) (.seq (.block (.draw [0,1,2,3,4,5,6,7,8,9,10,11,12,13,14,15,16,17,18,19,20])) .leaf))))) (.seq .leaf .leaf)))))))) func22 ⟨zu3,zu4,za8i,zz1,zag1,trivial⟩
noncomputable def zxi:FSem:=mkE (ArgT.cons tyTPlan (ArgT.cons tyTPlan ArgT.nil)) (Ty.leaf .bool) fun a=>F.zit a.1 a.2.1
theorem za93:Entry prog 24 zxi false:=eo { P:=prog,n:=67,tab:=[(21,zt9)],rtL:=[(8,2),(11,3),(16,2),(18,3),(24,2),(30,2),(35,3),(40,6),(42,7),(46,6),(48,7),(53,6),(55,7),(60,6),(62,7)],locL:=[2,3,6,7] } (.seq .leaf (.join [] (.seq .leaf (.cond (.seq .leaf .leaf) .leaf)) (.seq (.seq .leaf (.block (.loop [(5,.leaf (.int .i64))] (.seq (.seq .leaf (.cond .leaf .leaf)) (.join [] (.block (.seq (.draw [0,1,2,3,4,5,6,7,8,9,10,11,12,13]) (.seq .leaf (.cond (.seq .leaf .leaf) .leaf)))) .leaf))))) (.seq .leaf .leaf)))) func24 ⟨zzc,trivial⟩
noncomputable def zes:FSem:=mkE ArgT.nil (Ty.leaf .bool) fun a=>F.zaz
theorem zfp:Entry prog 17 zes false:=eo { P:=prog,n:=51,tab:=[(54,zm6),(22,zxh),(19,zt0),(24,zxi),(21,zt9)],locL:=[1,3,7] } (.seq .leaf (.seq .leaf (.seq .leaf (.seq .leaf (.seq .leaf (.seq .leaf .leaf)))))) func17 ⟨zrf,za92,zz3,za93,zzc,trivial⟩
noncomputable def za6r:FSem:=mkE (ArgT.cons tyTRat (ArgT.cons (Ty.leaf (.int .i64)) ArgT.nil)) (Ty.leaf .bool) fun a=>F.zjq a.1 a.2.1
theorem zag2:Entry prog 111 za6r false:=eo { P:=prog,n:=23,tab:=[(64,zt3)],rtL:=[(5,2),(6,2),(12,2),(13,2)],locL:=[2] } (.seq .leaf (.seq .leaf .leaf)) func111 ⟨zz6,trivial⟩
noncomputable def zw7:ArgT (TExpr×Int×Unit):=(ArgT.cons tyTExpr (ArgT.cons (Ty.leaf (.int .i64)) ArgT.nil))
noncomputable def zwd:Ty Int:=(Ty.leaf (.int .i64))
noncomputable def za6s:FSem:=mkE zw7 zwd fun a=>F.zmj a.1 a.2.1
noncomputable def zacn (n:Nat):Cfg:={ P:=prog,n:=59,tab:=[(112,mkE zw7 zwd (fun a=>F.zg7 n a.1 a.2.1))],rtL:=[(10,2),(16,2),(22,2),(23,2),(24,2),(30,2),(31,2),(32,2),(38,2),(49,2)],locL:=[2] }
theorem za9b:∃fn,prog.funcs[112]?=some fn∧fn.body.isNone=false∧(fn.name == "runtime.NumGoroutine")=false:=⟨_,func112,rfl,by decide⟩
theorem za9h:∀n a K D w,Sub D w→F.zg7 n a.1 a.2.1 K D→Calls prog 112 (zw7.up a).toArray w (Post (fun v h=>zwd.dn v fun r=>K r h) D w)
 | 0,_,_,_,_,_,h=>h.elim
 | n+1,a,K,D,w,hs,h=>zjk (C:=zacn n) (F:=fun a=>F.zg7 (n+1) a.1 a.2.1) (fn:=f112) (c:=bd f112) (an:=(.seq .leaf (.join [] (.seq .leaf (.cond (.seq .leaf .leaf) .leaf)) (.seq .leaf (.seq (.seq .leaf (.block (.loop [(5,.leaf (.int .i64)),(6,.leaf (.int .i64))] (.join [] (.seq .leaf (.cond .leaf .leaf)) (.seq (.block .leaf) .leaf))))) (.seq .leaf .leaf)))))) ⟨(zd9 za9b (za9h n)),trivial⟩ trivial func112 rfl rfl (fun _=>rfl) (by intro a K D; kernel_rfl) a K D w hs h
theorem zag3:Entry prog 112 za6s false:=zd9 za9b (fun a K D w hs h=>h.elim fun m h=>za9h m a K D w hs h)
noncomputable def za6t:FSem:=mkE (ArgT.cons tyTSketch ArgT.nil) (Ty.leaf .bool) fun a=>F.zlg a.1
theorem zag4:Entry prog 55 za6t false:=eo { P:=prog,n:=139,tab:=[(111,za6r),(112,za6s)],rtL:=[(9,1),(14,1),(20,1),(26,1),(32,1),(38,1),(44,1),(50,1),(59,1),(69,1),(75,1),(84,1),(90,1),(98,1),(104,1),(109,7),(114,7),(120,7),(126,7),(132,7)],locL:=[1,7] } (.seq .leaf (.join [] (.seq .leaf (.cond (.seq .leaf .leaf) .leaf)) (.seq (.seq .leaf (.block (.loop [(3,.leaf (.int .i64))] (.seq (.seq .leaf (.cond .leaf .leaf)) (.join [] (.block (.seq .leaf (.cond (.seq .leaf .leaf) .leaf))) .leaf))))) (.seq (.seq .leaf (.block (.loop [(4,.leaf (.int .i64))] (.seq (.seq .leaf (.cond .leaf .leaf)) (.seq (.block (.seq .leaf (.cond (.seq .leaf .leaf) .leaf))) .leaf))))) (.seq (.seq .leaf (.block (.loop [(5,.leaf (.int .i64))] (.seq (.seq .leaf (.cond .leaf .leaf)) (.seq (.block (.seq .leaf (.cond (.seq .leaf .leaf) .leaf))) .leaf))))) (.seq (.seq .leaf (.block (.loop [(6,.leaf (.int .i64))] (.seq (.seq .leaf (.cond .leaf .leaf)) (.seq (.block (.seq .leaf (.join [] (.seq .leaf (.cond (.seq .leaf .leaf) .leaf)) (.seq .leaf (.block (.loop [(8,.leaf (.int .i64))] (.seq (.seq .leaf (.cond .leaf .leaf)) (.seq (.block (.seq .leaf (.cond (.seq .leaf .leaf) .leaf))) .leaf)))))))) .leaf))))) (.seq .leaf .leaf))))))) func55 ⟨zag2,zag3,trivial⟩
noncomputable def zet:FSem:=mkE (ArgT.cons tyTSketch (ArgT.cons (Ty.leaf .sl) ArgT.nil)) (Ty.leaf .bool) fun a=>F.zdc a.1 a.2.1
theorem zfq:Entry prog 18 zet false:=eo { P:=prog,n:=12,tab:=[(55,za6t)],locL:=[2] } (.seq .leaf (.seq .leaf .leaf)) func18 ⟨zag4,trivial⟩
end
end Den
end

section
set_option maxRecDepth 100000
namespace Den
open Go Go.Proofs.Tryz
noncomputable section
noncomputable def zoo:FSem:=mkE (ArgT.cons tyTSketch ArgT.nil) (Ty.leaf .bool) fun a=>F.zhl a.1
theorem za27:Entry prog 3 zoo false:=eo { P:=prog,n:=33,tab:=[(19,zt0),(20,zxg),(21,zt9),(17,zes),(18,zet)],locL:=[1] } (.seq .leaf (.join [] (.seq .leaf (.cond (.seq .leaf .leaf) .leaf)) (.seq .leaf (.seq .leaf (.seq .leaf .leaf))))) func3 ⟨zz3,za91,zzc,zfp,zfq,trivial⟩
noncomputable def za6u:FSem:=mkE (ArgT.cons tyTSketch (ArgT.cons (Ty.leaf (.int .i64)) (ArgT.cons (Ty.leaf .sl) ArgT.nil))) tyTStep fun a=>F.zmm a.1 a.2.1 a.2.2.1
theorem zag5:Entry prog 61 za6u false:=eo { P:=prog,n:=71,tab:=[(72,zqg),(73,zt6),(97,zt8),(142,zxd)],rtL:=[(21,9),(22,9),(26,9),(30,9),(31,9),(54,9),(57,9),(60,9),(69,9)],locL:=[3,6,9] } (.seq .leaf (.seq (.draw [0,2,1,3,4,5]) (.seq .leaf (.seq (.seq .leaf (.cond (.seq .leaf (.join [(9,.box [.int .i64,.int .i64,.sl,.int .i64])] (.seq .leaf (.cond .leaf .leaf)) (.seq .leaf .leaf))) .leaf)) (.join [(9,.box [.int .i64,.int .i64,.sl,.int .i64])] (.seq .leaf (.block (.seq .leaf (.cond .leaf (.seq .leaf (.cond (.seq .leaf (.seq .leaf (.cond .leaf .leaf))) (.seq .leaf (.seq .leaf (.cond .leaf .leaf))))))))) (.seq .leaf .leaf)))))) func61 ⟨zu6,zz9,zzb,za8y,trivial⟩
noncomputable def za6v:FSem:=mkE (ArgT.cons tyTSketch ArgT.nil) (Ty.tup (.cons tyTPlan (.cons (Ty.leaf (.int .i64)) .nil)) (fun x=>(x.1,x.2,())) (fun y=>(y.1,y.2.1)) (fun _=>rfl) (fun _=>rfl)) fun a=>F.zml a.1
theorem zag6:Entry prog 23 za6v false:=eo { P:=prog,n:=52,tab:=[(25,zn0),(20,zxg),(62,zt7),(61,za6u)],rtL:=[(31,7),(50,7)],locL:=[1,2,7,48] } (.seq .leaf (.seq (.seq .leaf (.seq .leaf (.cond (.seq .leaf .leaf) .leaf))) (.seq .leaf (.seq (.seq .leaf (.cond (.seq .leaf .leaf) .leaf)) (.seq .leaf (.seq (.seq .leaf (.block (.loop [(7,.box [.sl,.sl]),(8,.leaf (.int .i64))] (.seq (.seq .leaf (.cond .leaf .leaf)) (.seq (.block (.draw [0,1,2,3,4,5,6,7,8,9,10,11,12,13,14,15,16,17,18,19,20])) .leaf))))) (.seq .leaf .leaf))))))) func23 ⟨zp4,za91,zza,zag5,trivial⟩
noncomputable def zop:FSem:=mkE (ArgT.cons tyTSketch ArgT.nil) (Ty.leaf .bool) fun a=>F.zhm a.1
theorem za28:Entry prog 4 zop false:=eo { P:=prog,n:=33,tab:=[(22,zxh),(23,za6v),(24,zxi),(17,zes),(18,zet)],locL:=[1,3,5] } (.seq .leaf (.join [] (.seq .leaf (.cond (.seq .leaf .leaf) .leaf)) (.seq .leaf (.seq .leaf (.seq .leaf .leaf))))) func4 ⟨za92,zag6,za93,zfp,zfq,trivial⟩
noncomputable def zo1:FSem:=mkE (ArgT.cons tyTSketch (ArgT.cons (Ty.leaf .sl) ArgT.nil)) (Ty.leaf .bool) fun a=>F.zgy a.1 a.2.1
theorem za13:Entry prog 5 zo1 false:=eo { P:=prog,n:=102,tab:=[(26,zoq),(19,zt0),(27,zxf),(17,zes),(18,zet),(25,zn0)],locL:=[2] } (.seq .leaf (.join [] (.seq .leaf (.cond (.seq .leaf .leaf) .leaf)) (.seq .leaf (.seq (.seq .leaf (.block (.loop [(35,.leaf (.int .i64))] (.seq .leaf (.seq (.cond .leaf .leaf) (.join [] (.block (.seq .leaf (.seq .leaf (.cond (.seq .leaf (.draw [0,1,2,3,4,5,6,7,8,9,10,11,12,13,14,15])) .leaf)))) .leaf)))))) (.seq .leaf (.seq .leaf (.seq (.seq .leaf (.cond (.seq .leaf .leaf) .leaf)) (.seq (.seq .leaf (.block (.loop [(82,.leaf (.int .i64))] (.seq .leaf (.seq (.cond .leaf .leaf) (.seq (.block (.seq .leaf (.seq .leaf (.seq (.seq .leaf (.block (.loop [(15,.leaf (.bool)),(88,.leaf (.int .i64))] (.seq .leaf (.seq (.cond .leaf .leaf) (.join [(15,.leaf (.bool))] (.block (.seq .leaf .leaf)) .leaf)))))) (.seq .leaf (.cond (.seq .leaf .leaf) .leaf)))))) .leaf)))))) (.seq .leaf .leaf))))))))) func5 ⟨zqy,zz3,za90,zfp,zfq,zp4,trivial⟩
noncomputable def zxj:FSem:=mkE (ArgT.cons (Ty.leaf .ptr) (ArgT.cons (Ty.leaf (.int .i64)) ArgT.nil)) (Ty.leaf .bool) fun a=>F.y_henneberg_peeler_exists a.1 a.2.1
theorem za94:Entry prog 70 zxj false:=eo { P:=prog,n:=32,tab:=[] } (.seq .leaf (.seq .leaf .leaf)) func70 trivial
noncomputable def zxk:FSem:=mkE (ArgT.cons tyTSketch (ArgT.cons (Ty.leaf (.int .i64)) (ArgT.cons (Ty.leaf .sl) ArgT.nil))) (Ty.leaf .bool) fun a=>F.zcy a.1 a.2.1 a.2.2.1
theorem za95:Entry prog 28 zxk false:=eo { P:=prog,n:=22,tab:=[(56,zqd),(57,zqe),(70,zxj),(71,zwv)],locL:=[3] } (.seq .leaf (.seq (.seq .leaf (.cond (.seq .leaf .leaf) .leaf)) (.seq .leaf (.seq .leaf .leaf)))) func28 ⟨zu3,zu4,za94,za8g,trivial⟩
noncomputable def zm3:FSem:=mkE (ArgT.cons tyTSketch (ArgT.cons (Ty.leaf (.int .i64)) (ArgT.cons (Ty.leaf .sl) ArgT.nil))) (Ty.leaf .bool) fun a=>F.zfg a.1 a.2.1 a.2.2.1
theorem zw3:Entry prog 6 zm3 false:=eo { P:=prog,n:=25,tab:=[(28,zxk),(29,zxe),(17,zes),(18,zet)],locL:=[3] } (.seq .leaf (.join [] (.seq .leaf (.cond (.seq .leaf .leaf) .leaf)) (.seq (.draw [0,1,2,4,5,6,3,7,8,9]) .leaf))) func6 ⟨za95,za8z,zfp,zfq,trivial⟩
noncomputable def zm2:FSem:=mkE (ArgT.cons tyTSketch (ArgT.cons (Ty.leaf .sl) (ArgT.cons (Ty.leaf .sl) ArgT.nil))) (Ty.leaf .bool) fun a=>F.zff a.1 a.2.1 a.2.2.1
theorem zw2:Entry prog 7 zm2 false:=eo { P:=prog,n:=74,tab:=[(26,zoq),(28,zxk),(17,zes),(18,zet),(25,zn0)],locL:=[3] } (.seq .leaf (.join [] (.seq .leaf (.cond (.seq .leaf .leaf) .leaf)) (.seq .leaf (.seq (.seq .leaf (.block (.loop [(41,.leaf (.int .i64))] (.seq .leaf (.seq (.cond .leaf .leaf) (.join [] (.block (.seq .leaf (.seq .leaf (.seq (.seq .leaf (.block (.loop [(10,.leaf (.bool)),(47,.leaf (.int .i64))] (.seq .leaf (.seq (.cond .leaf .leaf) (.join [(10,.leaf (.bool))] (.block (.seq .leaf .leaf)) .leaf)))))) (.seq .leaf (.cond (.seq .leaf .leaf) .leaf)))))) .leaf)))))) (.seq .leaf .leaf))))) func7 ⟨zqy,za95,zfp,zfq,zp4,trivial⟩
noncomputable def za6w:FSem:=mkE (ArgT.cons tyTSketch (ArgT.cons (Ty.leaf (.int .i64)) (ArgT.cons (Ty.leaf .sl) ArgT.nil))) (Ty.leaf (.int .i64)) fun a=>F.zgw a.1 a.2.1 a.2.2.1
theorem zag7:Entry prog 30 za6w false:=eo { P:=prog,n:=23,tab:=[(56,zqd),(57,zqe),(70,zxj),(60,zsy),(76,zwt)],locL:=[3] } (.seq .leaf (.seq (.seq .leaf (.cond (.seq .leaf .leaf) .leaf)) (.seq .leaf (.seq (.seq .leaf (.cond (.seq .leaf .leaf) .leaf)) (.seq .leaf .leaf))))) func30 ⟨zu3,zu4,za94,zz1,za8e,trivial⟩
noncomputable def za6x:FSem:=mkE (ArgT.cons tyTSketch (ArgT.cons (Ty.leaf (.int .i64)) (ArgT.cons (Ty.leaf .sl) ArgT.nil))) (Ty.leaf (.int .i64)) fun a=>F.zkf a.1 a.2.1 a.2.2.1
theorem zag8:Entry prog 31 za6x false:=eo { P:=prog,n:=23,tab:=[(62,zt7),(74,zx9),(25,zn0),(26,zoq),(69,zqh)],locL:=[3] } (.seq .leaf (.join [] (.seq .leaf (.cond (.seq .leaf .leaf) .leaf)) (.seq (.draw [0,1,2,3,4,5,6]) .leaf))) func31 ⟨zza,za8u,zp4,zqy,zu7,trivial⟩
noncomputable def zni:FSem:=mkE (ArgT.cons tyTSketch (ArgT.cons (Ty.leaf (.int .i64)) (ArgT.cons (Ty.leaf .sl) ArgT.nil))) (Ty.leaf .bool) fun a=>F.zgc a.1 a.2.1 a.2.2.1
theorem zzo:Entry prog 8 zni false:=eo { P:=prog,n:=25,tab:=[(30,za6w),(31,za6x),(17,zes),(18,zet)],locL:=[3] } (.seq .leaf (.join [] (.seq .leaf (.cond (.seq .leaf .leaf) .leaf)) (.seq (.draw [0,1,2,4,5,6,3,7,8,9]) .leaf))) func8 ⟨zag7,zag8,zfp,zfq,trivial⟩
end
end Den
end

section
set_option maxRecDepth 100000
namespace Den
open Go Go.Proofs.Tryz
noncomputable section
end
end Den
end

section
set_option maxRecDepth 100000
namespace Den
open Go Go.Proofs.Tryz
noncomputable section
end
end Den
end
