/-
  Part 6 of the tools and contracts from which the statement is proved.
-/
import Derived.Test.YthifcokendanpaaGreatDoorPartg5
import Derived.Test.YthifcokendanpaaGreatDoorProg
import Derived.Laws.Externs
import Derived.Lib.Builder
import Derived.Lib.UnsafeStr
import Derived.WalkKit
import Derived.ProofKit
set_option linter.all false
section
set_option maxRecDepth 100000
namespace Den
open Go Go.Proofs.Tryz
noncomputable section
noncomputable def e_x0:FSem:=mkE (ArgT.cons (Ty.leaf .sl) ArgT.nil) (Ty.leaf .bool) fun a=>F.zi4 a.1
theorem t_x0:Entry prog 169 e_x0 false:=eo { P:=prog,n:=6,tab:=[] } (.seq .leaf (.seq .leaf .leaf)) func169 trivial
noncomputable def e_x1:FSem:=mkE (ArgT.cons (Ty.leaf .sl) (ArgT.fn 169 ArgT.nil)) (Ty.leaf (.int .i64)) fun a=>F.zbm a.1
theorem t_x1:Entry prog 210 e_x1 false:=eo { P:=prog,n:=19,tab:=[(169,e_x0)] } (.seq .leaf (.seq (.seq .leaf (.block (.loop [(8,.leaf (.int .i64))] (.seq .leaf (.seq (.cond .leaf .leaf) (.seq (.block (.seq .leaf (.seq .leaf (.cond (.seq .leaf .leaf) .leaf)))) .leaf)))))) (.seq .leaf .leaf))) func210 ⟨t_x0,trivial⟩
noncomputable def e_x2:FSem:=mkE (ArgT.cons (Ty.leaf .sl) (ArgT.fn 169 ArgT.nil)) (Ty.leaf .bool) fun a=>F.zbe a.1
theorem t_x2:Entry prog 168 e_x2 false:=eo { P:=prog,n:=9,tab:=[(210,e_x1)] } (.seq .leaf (.seq .leaf .leaf)) func168 ⟨t_x1,trivial⟩
noncomputable def e_x3:FSem:=mkE (ArgT.cons tyTSketch ArgT.nil) (Ty.leaf .bool) fun a=>F.zhe a.1
theorem t_x3:Entry prog 113 e_x3 false:=eo { P:=prog,n:=35,tab:=[(168,e_x2)],rtL:=[(5,1),(8,1),(11,1),(14,1),(17,1),(20,1),(32,1)],locL:=[1] } (.seq .leaf (.seq (.seq .leaf (.block (.loop [(25,.leaf (.int .i64))] (.seq .leaf (.seq (.cond .leaf .leaf) (.seq (.block (.seq .leaf (.seq .leaf (.cond (.seq .leaf .leaf) .leaf)))) .leaf)))))) (.seq .leaf .leaf))) func113 ⟨t_x2,trivial⟩
noncomputable def e_x4:FSem:=mkE (ArgT.cons tyTInt ArgT.nil) (Ty.leaf .bool) fun a=>F.zg1 a.1
theorem t_x4:Entry prog 172 e_x4 false:=eo { P:=prog,n:=27,tab:=[],rtL:=[(4,1),(10,1),(18,1)],locL:=[1] } (.seq .leaf (.seq .leaf (.seq .leaf .leaf))) func172 trivial
noncomputable def e_x5:FSem:=mkE (ArgT.cons (Ty.leaf .sl) ArgT.nil) (Ty.leaf .sl) fun a=>F.zac a.1
theorem t_x5:Entry prog 212 e_x5 false:=eo { P:=prog,n:=21,tab:=[] } (.seq .leaf (.seq (.block (.loop [(0,.leaf (.sl))] (.join [] (.seq .leaf (.cond .leaf .leaf)) (.block .leaf)))) (.seq .leaf .leaf))) func212 trivial
noncomputable def e_x6:FSem:=mkE (ArgT.cons tyTInt ArgT.nil) (Ty.leaf (.int .i64)) fun a=>F.ze1 a.1
theorem t_x6:Entry prog 173 e_x6 false:=eo { P:=prog,n:=12,tab:=[(212,e_x5)],rtL:=[(4,1),(10,1)],locL:=[1] } (.seq .leaf (.seq (.block (.seq .leaf (.cond (.seq .leaf .leaf) (.seq .leaf (.cond (.seq .leaf .leaf) .leaf))))) (.seq .leaf .leaf))) func173 ⟨t_x5,trivial⟩
noncomputable def e_x7:FSem:=mkE (ArgT.cons (Ty.leaf .sl) ArgT.nil) (Ty.leaf .sl) fun a=>F.zb2 a.1
theorem t_x7:Entry prog 215 e_x7 false:=eo { P:=prog,n:=8,tab:=[] } (.seq .leaf (.seq (.seq .leaf (.cond (.seq .leaf .leaf) .leaf)) (.seq .leaf .leaf))) func215 trivial
noncomputable def e_x8:FSem:=mkE (ArgT.cons (Ty.leaf .bool) (ArgT.cons (Ty.leaf .sl) ArgT.nil)) tyTInt fun a=>F.zc0 a.1 a.2.1
theorem t_x8:Entry prog 214 e_x8 false:=eo { P:=prog,n:=14,tab:=[(212,e_x5)],locL:=[4] } (.seq .leaf (.seq .leaf (.seq (.seq .leaf (.cond (.seq .leaf .leaf) .leaf)) (.seq .leaf .leaf)))) func214 ⟨t_x5,trivial⟩
noncomputable def e_x9:FSem:=mkE (ArgT.cons (Ty.leaf .sl) ArgT.nil) (Ty.clo 257) fun a=>F.zbs a.1
theorem t_x9:Entry prog 246 e_x9 false:=eo { P:=prog,n:=4,tab:=[] } (.seq .leaf (.seq .leaf .leaf)) func246 trivial
noncomputable def e_x10:FSem:=mkE (ArgT.cons (Ty.leaf .sl) ArgT.nil) (Ty.leaf (.int .u64)) fun a=>F.zd0 a.1
theorem t_x10:Entry prog 216 e_x10 false:=eo { P:=prog,n:=16,tab:=[(246,e_x9)],locL:=[3],backs:=[(257,(.leaf (.int .u32)))] } (.seq .leaf (.seq .leaf (.seq (.seq .leaf (.block (.back [(3,.box [.int .u64])] .leaf (.block .leaf)))) (.seq .leaf .leaf)))) func216 ⟨t_x9,trivial⟩ ⟨zz8,trivial⟩
noncomputable def e_x11:FSem:=mkE (ArgT.cons (Ty.leaf (.int .u64)) ArgT.nil) (Ty.leaf .sl) fun a=>F.zc5 a.1
theorem t_x11:Entry prog 217 e_x11 false:=eo { P:=prog,n:=10,tab:=[(212,e_x5)] } (.seq .leaf (.seq .leaf .leaf)) func217 ⟨t_x5,trivial⟩
noncomputable def e_x12:FSem:=mkE (ArgT.cons (Ty.leaf (.int .i64)) ArgT.nil) (Ty.leaf .bool) fun a=>F.zfz a.1
theorem t_x12:Entry prog 209 e_x12 false:=eo { P:=prog,n:=6,tab:=[] } (.seq .leaf (.seq .leaf .leaf)) func209 trivial
noncomputable def e_x13:FSem:=mkE (ArgT.cons (Ty.leaf (.int .i64)) (ArgT.cons (Ty.leaf (.int .i64)) ArgT.nil)) (Ty.leaf (.int .i64)) fun a=>F.zce a.1 a.2.1
theorem t_x13:Entry prog 163 e_x13 false:=eo { P:=prog,n:=20,tab:=[(209,e_x12)] } (.seq .leaf (.seq .leaf (.seq .leaf (.seq (.seq .leaf (.cond (.seq (.seq .leaf (.cond (.seq .leaf .leaf) .leaf)) (.seq .leaf .leaf)) .leaf)) (.seq (.seq .leaf (.cond (.seq .leaf .leaf) .leaf)) (.seq (.seq .leaf (.cond (.seq .leaf .leaf) .leaf)) (.seq (.seq .leaf (.cond (.seq .leaf .leaf) .leaf)) (.seq .leaf .leaf)))))))) func163 ⟨t_x12,trivial⟩
noncomputable def e_x14:FSem:=mkE (ArgT.cons (Ty.leaf (.int .u32)) ArgT.nil) (Ty.leaf .bool) fun a=>F.zek a.1
theorem t_x14:Entry prog 272 e_x14 false:=eo { P:=prog,n:=6,tab:=[] } (.seq .leaf (.seq .leaf .leaf)) func272 trivial
noncomputable def e_x15:FSem:=mkE (ArgT.cons (Ty.leaf (.int .u32)) (ArgT.cons (Ty.leaf (.int .u32)) ArgT.nil)) (Ty.leaf (.int .i64)) fun a=>F.zes a.1 a.2.1
theorem t_x15:Entry prog 255 e_x15 false:=eo { P:=prog,n:=20,tab:=[(272,e_x14)] } (.seq .leaf (.seq .leaf (.seq .leaf (.seq (.seq .leaf (.cond (.seq (.seq .leaf (.cond (.seq .leaf .leaf) .leaf)) (.seq .leaf .leaf)) .leaf)) (.seq (.seq .leaf (.cond (.seq .leaf .leaf) .leaf)) (.seq (.seq .leaf (.cond (.seq .leaf .leaf) .leaf)) (.seq (.seq .leaf (.cond (.seq .leaf .leaf) .leaf)) (.seq .leaf .leaf)))))))) func255 ⟨t_x14,trivial⟩
noncomputable def e_x16:FSem:=mkE (ArgT.cons (Ty.leaf .sl) (ArgT.cons (Ty.leaf .sl) ArgT.nil)) (Ty.leaf (.int .i64)) fun a=>F.ze5 a.1 a.2.1
theorem t_x16:Entry prog 239 e_x16 false:=eo { P:=prog,n:=41,tab:=[(163,e_x13),(255,e_x15)] } (.seq .leaf (.seq (.seq .leaf (.cond (.seq .leaf .leaf) .leaf)) (.seq (.seq .leaf (.block (.loop [(5,.leaf (.int .i64))] (.seq (.seq .leaf (.cond .leaf .leaf)) (.seq (.block (.seq (.draw [0,1,2,3,4,5,6,7,8]) (.cond (.seq (.draw [0,1,2,3,4,5,6,7,8,9]) .leaf) .leaf))) .leaf))))) (.seq .leaf .leaf)))) func239 ⟨t_x13,t_x15,trivial⟩
noncomputable def e_x17:FSem:=mkE (ArgT.cons (Ty.leaf .sl) (ArgT.cons (Ty.leaf (.int .u32)) ArgT.nil)) (Ty.tup (.cons (Ty.leaf .sl) (.cons (Ty.leaf .sl) .nil)) (fun x=>(x.1,x.2,())) (fun y=>(y.1,y.2.1)) (fun _=>rfl) (fun _=>rfl)) fun a=>F.zew a.1 a.2.1
theorem t_x17:Entry prog 240 e_x17 false:=eo { P:=prog,n:=43,tab:=[(212,e_x5),(217,e_x11)] } (.seq .leaf (.seq .leaf (.seq .leaf (.seq (.seq .leaf (.block (.loop [(7,.leaf (.int .u64)),(8,.leaf (.int .i64))] (.seq (.seq .leaf (.cond .leaf .leaf)) (.seq (.block (.seq .leaf (.seq .leaf .leaf))) .leaf))))) (.seq .leaf .leaf))))) func240 ⟨t_x5,t_x11,trivial⟩
noncomputable def e_x18:FSem:=mkE (ArgT.cons (Ty.leaf (.int .u32)) ArgT.nil) (Ty.leaf (.int .i64)) fun a=>F.zgj a.1
theorem t_x18:Entry prog 256 e_x18 false:=eo { P:=prog,n:=19,tab:=[] } (.seq .leaf (.join [(0,.leaf (.int .u32)),(2,.leaf (.int .i64))] (.seq .leaf (.cond (.seq .leaf .leaf) .leaf)) (.join [(0,.leaf (.int .u32)),(2,.leaf (.int .i64))] (.seq .leaf (.cond (.seq .leaf .leaf) .leaf)) (.seq .leaf .leaf)))) func256 trivial
noncomputable def e_x19:FSem:=mkE (ArgT.cons (Ty.leaf (.int .u32)) ArgT.nil) (Ty.leaf (.int .i64)) fun a=>F.zd7 a.1
theorem t_x19:Entry prog 241 e_x19 false:=eo { P:=prog,n:=6,tab:=[(256,e_x18)] } (.seq .leaf (.seq .leaf .leaf)) func241 ⟨t_x18,trivial⟩
noncomputable def e_x20:FSem:=mkE (ArgT.cons (Ty.leaf .sl) (ArgT.cons (Ty.leaf (.int .i64)) ArgT.nil)) (Ty.leaf .sl) fun a=>F.zdg a.1 a.2.1
theorem t_x20:Entry prog 242 e_x20 false:=eo { P:=prog,n:=41,tab:=[] } (.seq .leaf (.seq .leaf (.seq (.seq .leaf (.block (.loop [(15,.leaf (.int .i64))] (.seq .leaf (.seq (.cond .leaf .leaf) (.seq (.block (.seq .leaf (.seq .leaf (.seq .leaf .leaf)))) .leaf)))))) (.seq .leaf .leaf)))) func242 trivial
noncomputable def e_x21:FSem:=mkM (ArgT.cons (Ty.leaf .sl) (ArgT.cons (Ty.leaf .sl) (ArgT.cons (Ty.leaf (.int .u64)) ArgT.nil))) (Ty.leaf .bool) fun a=>F.zfu a.1 a.2.1 a.2.2.1
theorem t_x21:Entry prog 243 e_x21 true:=eoM { P:=prog,n:=63,tab:=[] } (.seq .leaf (.seq .leaf (.seq (.seq .leaf (.block (.loop [(7,.leaf (.int .u64)),(15,.leaf (.int .i64))] (.seq .leaf (.seq (.cond .leaf .leaf) (.seq (.block (.seq .leaf (.seq .leaf (.seq .leaf (.seq .leaf .leaf))))) .leaf)))))) (.seq .leaf (.seq .leaf (.seq .leaf .leaf)))))) func243 trivial
noncomputable def e_x22:FSem:=mkM (ArgT.cons (Ty.leaf .sl) (ArgT.cons (Ty.leaf .sl) ArgT.nil)) Ty.unit fun a=>F.zgi a.1 a.2.1
theorem t_x22:Entry prog 244 e_x22 true:=eoM { P:=prog,n:=41,tab:=[] } (.seq .leaf (.seq (.seq .leaf (.block (.loop [(4,.leaf (.int .u64)),(9,.leaf (.int .i64))] (.seq .leaf (.seq (.cond .leaf .leaf) (.seq (.block (.seq .leaf (.seq .leaf (.seq .leaf .leaf)))) .leaf)))))) .leaf)) func244 trivial
noncomputable def e_x23:FSem:=mkE (ArgT.cons (Ty.leaf .sl) (ArgT.cons (Ty.leaf (.int .i64)) ArgT.nil)) (Ty.leaf .sl) fun a=>F.zex a.1 a.2.1
theorem t_x23:Entry prog 245 e_x23 false:=eo { P:=prog,n:=47,tab:=[] } (.seq .leaf (.seq .leaf (.seq (.seq .leaf (.block (.loop [(13,.leaf (.int .i64))] (.seq .leaf (.seq (.cond .leaf .leaf) (.join [] (.block (.seq .leaf (.seq .leaf (.seq .leaf (.cond (.draw [0,1,2,3,4,5,6,7,8,9,10,11,12,13,14,15,16]) .leaf))))) .leaf)))))) (.seq .leaf .leaf)))) func245 trivial
noncomputable def e_x24:FSem:=mkE (ArgT.cons (Ty.leaf .sl) (ArgT.cons (Ty.leaf .sl) ArgT.nil)) (Ty.tup (.cons (Ty.leaf .sl) (.cons (Ty.leaf .sl) .nil)) (fun x=>(x.1,x.2,())) (fun y=>(y.1,y.2.1)) (fun _=>rfl) (fun _=>rfl)) fun a=>F.zdn a.1 a.2.1
theorem t_x24:Entry prog 213 e_x24 false:=eo { P:=prog,n:=177,tab:=[(239,e_x16),(215,e_x7),(216,e_x10),(217,e_x11),(240,e_x17),(241,e_x19),(242,e_x20),(212,e_x5),(243,e_x21),(244,e_x22),(245,e_x23)],mutL:=[243,244] } (.seq .leaf (.seq (.block (.seq .leaf (.cond (.seq .leaf .leaf) (.seq .leaf (.cond (.seq .leaf (.seq (.draw [0,1,2,4,5,6,3,7,8,9]) .leaf)) (.seq .leaf (.cond (.seq .leaf .leaf) .leaf))))))) (.seq .leaf (.seq .leaf (.seq .leaf (.seq .leaf (.seq (.draw [0,1,2,3,4,5,6,7,8,9,10,11,12,13]) (.seq (.seq .leaf (.block (.loop [(15,.leaf (.int .i64))] (.seq (.seq .leaf (.cond .leaf .leaf)) (.seq (.block (.seq (.draw [0,1,2,3,4,5,6,7,8,9,10,11,12,13,14,15,16,17]) (.seq (.draw [0,1,2,3,4,5,6,7]) (.join [(17,.leaf (.int .u64))] (.block (.loop [(17,.leaf (.int .u64)),(18,.leaf (.int .u64))] (.join [] (.seq .leaf (.cond .leaf .leaf)) (.block (.seq .leaf (.seq .leaf (.seq .leaf (.cond .leaf .leaf)))))))) (.join [(17,.leaf (.int .u64))] (.seq .leaf (.cond (.seq .leaf .leaf) .leaf)) .leaf))))) .leaf))))) (.seq (.draw [0,2,3,4,6,1,5,7,8,9,10]) .leaf))))))))) func213 ⟨t_x16,t_x7,t_x10,t_x11,t_x17,t_x19,t_x20,t_x5,t_x21,t_x22,t_x23,trivial⟩
noncomputable def e_x25:FSem:=mkE (ArgT.cons tyTInt (ArgT.cons tyTInt ArgT.nil)) tyTInt fun a=>F.zg9 a.1 a.2.1
theorem t_x25:Entry prog 175 e_x25 false:=eo { P:=prog,n:=57,tab:=[(212,e_x5),(215,e_x7),(214,e_x8),(216,e_x10),(217,e_x11),(213,e_x24)],rtL:=[(11,2),(14,3)],locL:=[2,3,4] } (.seq .leaf (.seq (.draw [0,1,3,4,2,5,6,7]) (.join [(5,.leaf (.sl)),(6,.leaf (.sl))] (.block (.loop [(5,.leaf (.sl)),(6,.leaf (.sl))] (.join [] (.seq .leaf (.cond .leaf .leaf)) (.block (.seq .leaf .leaf))))) (.seq (.seq .leaf (.cond (.seq .leaf .leaf) .leaf)) (.seq .leaf (.seq (.block (.loop [(9,.leaf (.int .u64)),(10,.leaf (.int .u64))] (.seq (.seq .leaf (.cond .leaf .leaf)) (.block (.draw [0,1,2,3,4,5]))))) (.seq .leaf .leaf))))))) func175 ⟨t_x5,t_x7,t_x8,t_x10,t_x11,t_x24,trivial⟩
noncomputable def e_x26:FSem:=mkE (ArgT.cons tyTInt ArgT.nil) (Ty.leaf .bool) fun a=>F.zdo a.1
theorem t_x26:Entry prog 174 e_x26 false:=eo { P:=prog,n:=19,tab:=[],rtL:=[(3,1),(7,1),(13,1)],locL:=[1] } (.seq .leaf (.seq .leaf .leaf)) func174 trivial
noncomputable def e_x27:FSem:=mkE (ArgT.cons tyTRat ArgT.nil) (Ty.leaf .bool) fun a=>F.zd2 a.1
theorem t_x27:Entry prog 116 e_x27 false:=eo { P:=prog,n:=25,tab:=[(172,e_x4),(173,e_x6),(175,e_x25),(174,e_x26)],rtL:=[(3,1),(7,1),(12,1),(18,1),(20,1)],locL:=[1] } (.seq .leaf (.seq .leaf .leaf)) func116 ⟨t_x4,t_x6,t_x25,t_x26,trivial⟩
noncomputable def e_x28:FSem:=mkE (ArgT.cons tyTPoint ArgT.nil) (Ty.leaf .bool) fun a=>F.zj8 a.1
theorem t_x28:Entry prog 115 e_x28 false:=eo { P:=prog,n:=11,tab:=[(116,e_x27)],rtL:=[(3,1),(7,1)],locL:=[1] } (.seq .leaf (.seq .leaf .leaf)) func115 ⟨t_x27,trivial⟩
noncomputable def e_x29:FSem:=mkE (ArgT.cons tyTPoint (ArgT.cons (Ty.leaf .ptr) ArgT.nil)) (Ty.leaf .bool) fun a=>F.zcn a.1 a.2.1
theorem t_x29:Entry prog 171 e_x29 false:=eo { P:=prog,n:=8,tab:=[(115,e_x28)],locL:=[2],fnL:=[(4,115,0)] } (.seq .leaf (.seq .leaf .leaf)) func171 ⟨t_x28,trivial⟩
noncomputable def e_x30:FSem:=mkE (ArgT.cons (Ty.leaf .sl) (ArgT.fnc 171 1 ArgT.nil)) (Ty.leaf (.int .i64)) fun a=>F.zas a.1 a.2.1
theorem t_x30:Entry prog 211 e_x30 false:=eo { P:=prog,n:=19,tab:=[(171,e_x29)] } (.seq .leaf (.seq (.seq .leaf (.block (.loop [(8,.leaf (.int .i64))] (.seq .leaf (.seq (.cond .leaf .leaf) (.seq (.block (.seq .leaf (.seq .leaf (.cond (.seq .leaf .leaf) .leaf)))) .leaf)))))) (.seq .leaf .leaf))) func211 ⟨t_x29,trivial⟩
noncomputable def e_x31:FSem:=mkE (ArgT.cons (Ty.leaf .sl) (ArgT.fnc 171 1 ArgT.nil)) (Ty.leaf .bool) fun a=>F.zam a.1 a.2.1
theorem t_x31:Entry prog 170 e_x31 false:=eo { P:=prog,n:=9,tab:=[(211,e_x30)] } (.seq .leaf (.seq .leaf .leaf)) func170 ⟨t_x30,trivial⟩
noncomputable def e_x32:FSem:=mkE (ArgT.cons (Ty.leaf .sl) (ArgT.fn 115 ArgT.nil)) (Ty.leaf .bool) fun a=>F.zc9 a.1
theorem t_x32:Entry prog 114 e_x32 false:=eo { P:=prog,n:=9,tab:=[(170,e_x31)] } (.seq .leaf (.seq .leaf .leaf)) func114 ⟨t_x31,trivial⟩
noncomputable def e_x33:FSem:=mkE (ArgT.cons (Ty.leaf (.int .i64)) (ArgT.cons (Ty.leaf (.int .i64)) ArgT.nil)) (Ty.leaf .bool) fun a=>F.zdu a.1 a.2.1
theorem t_x33:Entry prog 119 e_x33 false:=eo { P:=prog,n:=12,tab:=[] } (.seq .leaf (.seq .leaf .leaf)) func119 trivial
noncomputable def e_x34:FSem:=mkE (ArgT.cons tyTRat ArgT.nil) (Ty.leaf (.int .i64)) fun a=>F.zeq a.1
theorem t_x34:Entry prog 120 e_x34 false:=eo { P:=prog,n:=6,tab:=[(173,e_x6)],rtL:=[(3,1)],locL:=[1] } (.seq .leaf (.seq .leaf .leaf)) func120 ⟨t_x6,trivial⟩
noncomputable def e_x35:FSem:=mkE (ArgT.cons tyTRound (ArgT.cons (Ty.leaf .ptr) ArgT.nil)) (Ty.leaf .bool) fun a=>F.zj9 a.1 a.2.1
theorem t_x35:Entry prog 118 e_x35 false:=eo { P:=prog,n:=19,tab:=[(119,e_x33),(116,e_x27),(120,e_x34)],rtL:=[(5,2),(9,2),(14,2)],locL:=[2] } (.seq .leaf (.seq .leaf .leaf)) func118 ⟨t_x33,t_x27,t_x34,trivial⟩
noncomputable def e_x36:FSem:=mkE (ArgT.cons tyTRound (ArgT.cons (Ty.leaf .ptr) ArgT.nil)) (Ty.leaf .bool) fun a=>F.zco a.1 a.2.1
theorem t_x36:Entry prog 177 e_x36 false:=eo { P:=prog,n:=8,tab:=[(118,e_x35)],locL:=[2],fnL:=[(4,118,1)] } (.seq .leaf (.seq .leaf .leaf)) func177 ⟨t_x35,trivial⟩
noncomputable def e_x37:FSem:=mkE (ArgT.cons (Ty.leaf .sl) (ArgT.fnc 177 1 ArgT.nil)) (Ty.leaf (.int .i64)) fun a=>F.zat a.1 a.2.1
theorem t_x37:Entry prog 218 e_x37 false:=eo { P:=prog,n:=19,tab:=[(177,e_x36)] } (.seq .leaf (.seq (.seq .leaf (.block (.loop [(8,.leaf (.int .i64))] (.seq .leaf (.seq (.cond .leaf .leaf) (.seq (.block (.seq .leaf (.seq .leaf (.cond (.seq .leaf .leaf) .leaf)))) .leaf)))))) (.seq .leaf .leaf))) func218 ⟨t_x36,trivial⟩
noncomputable def e_x38:FSem:=mkE (ArgT.cons (Ty.leaf .sl) (ArgT.fnc 177 1 ArgT.nil)) (Ty.leaf .bool) fun a=>F.zan a.1 a.2.1
theorem t_x38:Entry prog 176 e_x38 false:=eo { P:=prog,n:=9,tab:=[(218,e_x37)] } (.seq .leaf (.seq .leaf .leaf)) func176 ⟨t_x37,trivial⟩
noncomputable def e_x39:FSem:=mkE (ArgT.cons (Ty.leaf .sl) (ArgT.fnc 118 1 ArgT.nil)) (Ty.leaf .bool) fun a=>F.zca a.1 a.2.1
theorem t_x39:Entry prog 117 e_x39 false:=eo { P:=prog,n:=9,tab:=[(176,e_x38)] } (.seq .leaf (.seq .leaf .leaf)) func117 ⟨t_x38,trivial⟩
end
end Den
end

section
set_option maxRecDepth 100000
namespace Den
open Go Go.Proofs.Tryz
noncomputable section
noncomputable def e_x40:FSem:=mkE (ArgT.cons tyTSegment (ArgT.cons (Ty.leaf .ptr) ArgT.nil)) (Ty.leaf .bool) fun a=>F.zja a.1 a.2.1
theorem t_x40:Entry prog 122 e_x40 false:=eo { P:=prog,n:=21,tab:=[(119,e_x33)],rtL:=[(5,2),(10,2),(15,2),(17,2)],locL:=[2] } (.seq .leaf (.seq .leaf .leaf)) func122 ⟨t_x33,trivial⟩
noncomputable def e_x41:FSem:=mkE (ArgT.cons tyTSegment (ArgT.cons (Ty.leaf .ptr) ArgT.nil)) (Ty.leaf .bool) fun a=>F.zci a.1 a.2.1
theorem t_x41:Entry prog 179 e_x41 false:=eo { P:=prog,n:=8,tab:=[(122,e_x40)],locL:=[2],fnL:=[(4,122,1)] } (.seq .leaf (.seq .leaf .leaf)) func179 ⟨t_x40,trivial⟩
noncomputable def e_x42:FSem:=mkE (ArgT.cons (Ty.leaf .sl) (ArgT.fnc 179 1 ArgT.nil)) (Ty.leaf (.int .i64)) fun a=>F.zai a.1 a.2.1
theorem t_x42:Entry prog 219 e_x42 false:=eo { P:=prog,n:=19,tab:=[(179,e_x41)] } (.seq .leaf (.seq (.seq .leaf (.block (.loop [(8,.leaf (.int .i64))] (.seq .leaf (.seq (.cond .leaf .leaf) (.seq (.block (.seq .leaf (.seq .leaf (.cond (.seq .leaf .leaf) .leaf)))) .leaf)))))) (.seq .leaf .leaf))) func219 ⟨t_x41,trivial⟩
noncomputable def e_x43:FSem:=mkE (ArgT.cons (Ty.leaf .sl) (ArgT.fnc 179 1 ArgT.nil)) (Ty.leaf .bool) fun a=>F.zah a.1 a.2.1
theorem t_x43:Entry prog 178 e_x43 false:=eo { P:=prog,n:=9,tab:=[(219,e_x42)] } (.seq .leaf (.seq .leaf .leaf)) func178 ⟨t_x42,trivial⟩
noncomputable def e_x44:FSem:=mkE (ArgT.cons (Ty.leaf .sl) (ArgT.fnc 122 1 ArgT.nil)) (Ty.leaf .bool) fun a=>F.zby a.1 a.2.1
theorem t_x44:Entry prog 121 e_x44 false:=eo { P:=prog,n:=9,tab:=[(178,e_x43)] } (.seq .leaf (.seq .leaf .leaf)) func121 ⟨t_x43,trivial⟩
noncomputable def e_x45:FSem:=mkE (ArgT.cons tyTSketch (ArgT.cons tyTArc ArgT.nil)) (Ty.leaf .bool) fun a=>F.zgn a.1 a.2.1
theorem t_x45:Entry prog 125 e_x45 false:=eo { P:=prog,n:=48,tab:=[(119,e_x33)],rtL:=[(6,2),(9,3),(14,2),(17,3),(23,2),(26,3),(31,2),(33,3),(38,3),(43,3)],locL:=[2,3] } (.seq .leaf (.join [] (.seq .leaf (.cond (.seq .leaf .leaf) .leaf)) (.seq .leaf (.seq .leaf .leaf)))) func125 ⟨t_x33,trivial⟩
noncomputable def e_x46:FSem:=mkE (ArgT.cons tyTArc (ArgT.cons (Ty.leaf .ptr) ArgT.nil)) (Ty.leaf .bool) fun a=>F.zjb a.1 a.2.1
theorem t_x46:Entry prog 124 e_x46 false:=eo { P:=prog,n:=7,tab:=[(125,e_x45)],locL:=[2] } (.seq .leaf (.seq .leaf .leaf)) func124 ⟨t_x45,trivial⟩
noncomputable def e_x47:FSem:=mkE (ArgT.cons tyTArc (ArgT.cons (Ty.leaf .ptr) ArgT.nil)) (Ty.leaf .bool) fun a=>F.zcv a.1 a.2.1
theorem t_x47:Entry prog 181 e_x47 false:=eo { P:=prog,n:=8,tab:=[(124,e_x46)],locL:=[2],fnL:=[(4,124,1)] } (.seq .leaf (.seq .leaf .leaf)) func181 ⟨t_x46,trivial⟩
noncomputable def e_x48:FSem:=mkE (ArgT.cons (Ty.leaf .sl) (ArgT.fnc 181 1 ArgT.nil)) (Ty.leaf (.int .i64)) fun a=>F.zay a.1 a.2.1
theorem t_x48:Entry prog 220 e_x48 false:=eo { P:=prog,n:=19,tab:=[(181,e_x47)] } (.seq .leaf (.seq (.seq .leaf (.block (.loop [(8,.leaf (.int .i64))] (.seq .leaf (.seq (.cond .leaf .leaf) (.seq (.block (.seq .leaf (.seq .leaf (.cond (.seq .leaf .leaf) .leaf)))) .leaf)))))) (.seq .leaf .leaf))) func220 ⟨t_x47,trivial⟩
noncomputable def e_x49:FSem:=mkE (ArgT.cons (Ty.leaf .sl) (ArgT.fnc 181 1 ArgT.nil)) (Ty.leaf .bool) fun a=>F.zav a.1 a.2.1
theorem t_x49:Entry prog 180 e_x49 false:=eo { P:=prog,n:=9,tab:=[(220,e_x48)] } (.seq .leaf (.seq .leaf .leaf)) func180 ⟨t_x48,trivial⟩
noncomputable def e_x50:FSem:=mkE (ArgT.cons (Ty.leaf .sl) (ArgT.fnc 124 1 ArgT.nil)) (Ty.leaf .bool) fun a=>F.zcf a.1 a.2.1
theorem t_x50:Entry prog 123 e_x50 false:=eo { P:=prog,n:=9,tab:=[(180,e_x49)] } (.seq .leaf (.seq .leaf .leaf)) func123 ⟨t_x49,trivial⟩
noncomputable def e_x51:FSem:=mkE (ArgT.cons tyTSketch (ArgT.cons tyTPiece ArgT.nil)) (Ty.tup (.cons (Ty.leaf (.int .i64)) (.cons (Ty.leaf (.int .i64)) .nil)) (fun x=>(x.1,x.2,())) (fun y=>(y.1,y.2.1)) (fun _=>rfl) (fun _=>rfl)) fun a=>F.zhq a.1 a.2.1
theorem t_x51:Entry prog 183 e_x51 false:=eo { P:=prog,n:=44,tab:=[],rtL:=[(8,3),(10,2),(12,3),(17,2),(19,3),(24,2),(26,3),(31,2),(33,3),(38,3)],locL:=[2,3] } (.seq .leaf (.seq .leaf (.join [(6,.leaf (.int .i64)),(7,.leaf (.int .i64))] (.seq .leaf (.cond (.draw [0,1,2,3,4,5,6,7,8,9,10,11,12,13,14,15]) (.draw [0,1,2,3,4,5,6,7,8,9,10,11,12,13,14,15]))) (.seq (.seq .leaf (.cond (.seq .leaf .leaf) .leaf)) (.seq .leaf .leaf))))) func183 trivial
noncomputable def e_x52:FSem:=mkE (ArgT.cons tyTSketch (ArgT.cons (Ty.leaf .sl) ArgT.nil)) (Ty.leaf .bool) fun a=>F.zf9 a.1 a.2.1
theorem t_x52:Entry prog 128 e_x52 false:=eo { P:=prog,n:=49,tab:=[(119,e_x33),(183,e_x51)],rtL:=[(18,2),(21,7),(23,2),(27,7)],locL:=[2,7] } (.seq .leaf (.seq .leaf (.seq (.seq .leaf (.block (.loop [(5,.leaf (.int .i64)),(13,.leaf (.int .i64))] (.seq .leaf (.seq (.cond .leaf .leaf) (.join [(5,.leaf (.int .i64))] (.block (.seq .leaf (.seq .leaf (.join [(8,.leaf (.int .i64))] (.seq .leaf (.cond .leaf .leaf)) (.seq (.seq .leaf (.cond (.seq .leaf .leaf) .leaf)) (.seq .leaf (.seq (.seq .leaf (.cond (.seq .leaf .leaf) .leaf)) .leaf))))))) .leaf)))))) (.seq .leaf .leaf)))) func128 ⟨t_x33,t_x51,trivial⟩
noncomputable def e_x53:FSem:=mkE (ArgT.cons (Ty.leaf .sl) (ArgT.cons (Ty.leaf .ptr) ArgT.nil)) (Ty.leaf .bool) fun a=>F.zjc a.1 a.2.1
theorem t_x53:Entry prog 127 e_x53 false:=eo { P:=prog,n:=7,tab:=[(128,e_x52)] } (.seq .leaf (.seq .leaf .leaf)) func127 ⟨t_x52,trivial⟩
noncomputable def e_x54:FSem:=mkE (ArgT.cons (Ty.leaf .sl) (ArgT.cons (Ty.leaf .ptr) ArgT.nil)) (Ty.leaf .bool) fun a=>F.zcm a.1 a.2.1
theorem t_x54:Entry prog 182 e_x54 false:=eo { P:=prog,n:=8,tab:=[(127,e_x53)],fnL:=[(4,127,1)] } (.seq .leaf (.seq .leaf .leaf)) func182 ⟨t_x53,trivial⟩
noncomputable def e_x55:FSem:=mkE (ArgT.cons (Ty.leaf .sl) (ArgT.fnc 182 1 ArgT.nil)) (Ty.leaf (.int .i64)) fun a=>F.zar a.1 a.2.1
theorem t_x55:Entry prog 210 e_x55 false:=eo { P:=prog,n:=19,tab:=[(182,e_x54)] } (.seq .leaf (.seq (.seq .leaf (.block (.loop [(8,.leaf (.int .i64))] (.seq .leaf (.seq (.cond .leaf .leaf) (.seq (.block (.seq .leaf (.seq .leaf (.cond (.seq .leaf .leaf) .leaf)))) .leaf)))))) (.seq .leaf .leaf))) func210 ⟨t_x54,trivial⟩
noncomputable def e_x56:FSem:=mkE (ArgT.cons (Ty.leaf .sl) (ArgT.fnc 182 1 ArgT.nil)) (Ty.leaf .bool) fun a=>F.zal a.1 a.2.1
theorem t_x56:Entry prog 168 e_x56 false:=eo { P:=prog,n:=9,tab:=[(210,e_x55)] } (.seq .leaf (.seq .leaf .leaf)) func168 ⟨t_x55,trivial⟩
noncomputable def e_x57:FSem:=mkE (ArgT.cons (Ty.leaf .sl) (ArgT.fnc 127 1 ArgT.nil)) (Ty.leaf .bool) fun a=>F.zc8 a.1 a.2.1
theorem t_x57:Entry prog 126 e_x57 false:=eo { P:=prog,n:=9,tab:=[(168,e_x56)] } (.seq .leaf (.seq .leaf .leaf)) func126 ⟨t_x56,trivial⟩
noncomputable def e_x58:FSem:=mkE (ArgT.cons (Ty.leaf (.int .i64)) ArgT.nil) (Ty.tup (.cons zng (.cons (Ty.leaf .bool) .nil)) (fun x=>(x.1,x.2,())) (fun y=>(y.1,y.2.1)) (fun _=>rfl) (fun _=>rfl)) fun a=>F.zdz a.1
theorem t_x58:Entry prog 109 e_x58 false:=eo { P:=prog,n:=15,tab:=[],locL:=[2] } (.seq .leaf (.join [(2,.box [.int .i64,.int .i64,.int .i64,.int .i64,.bool,.bool,.bool])] (.seq .leaf (.cond (.seq .leaf .leaf) .leaf)) (.seq .leaf .leaf))) func109 trivial
noncomputable def e_x59:FSem:=mkE (ArgT.cons (Ty.leaf (.int .i64)) ArgT.nil) tyTInt fun a=>F.ze4 a.1
theorem t_x59:Entry prog 259 e_x59 false:=eo { P:=prog,n:=15,tab:=[(217,e_x11),(214,e_x8)],locL:=[2] } (.seq .leaf (.seq .leaf (.join [(3,.leaf (.int .u64))] (.seq .leaf (.cond .leaf .leaf)) (.seq .leaf .leaf)))) func259 ⟨t_x11,t_x8,trivial⟩
noncomputable def e_x60:FSem:=mkE ArgT.nil tyTInt fun a=>F.zgy
theorem t_x60:Entry prog 273 e_x60 false:=eo { P:=prog,n:=2,tab:=[(259,e_x59)],locL:=[0] } (.seq .leaf (.seq .leaf .leaf)) func273 ⟨t_x59,trivial⟩
noncomputable def e_x61:FSem:=mkE (ArgT.cons (Ty.leaf (.int .i64)) ArgT.nil) tyTRat fun a=>F.zfw a.1
theorem t_x61:Entry prog 258 e_x61 false:=eo { P:=prog,n:=7,tab:=[(259,e_x59),(273,e_x60)],locL:=[2] } (.seq .leaf (.seq .leaf .leaf)) func258 ⟨t_x59,t_x60,trivial⟩
noncomputable def e_x62:FSem:=mkE (ArgT.cons tyTInt (ArgT.cons tyTInt ArgT.nil)) (Ty.leaf (.int .i64)) fun a=>F.zjk a.1 a.2.1
theorem t_x62:Entry prog 260 e_x62 false:=eo { P:=prog,n:=26,tab:=[(173,e_x6),(163,e_x13),(212,e_x5),(239,e_x16)],rtL:=[(18,2),(21,3)],locL:=[2,3] } (.seq .leaf (.seq (.draw [0,2,1,3,4,5]) (.seq (.seq .leaf (.cond (.seq .leaf .leaf) .leaf)) (.seq (.draw [0,1,2,4,5,3,6,7,8,9]) .leaf)))) func260 ⟨t_x6,t_x13,t_x5,t_x16,trivial⟩
noncomputable def e_x63:FSem:=mkE (ArgT.cons (Ty.leaf .sl) (ArgT.cons (Ty.leaf .sl) ArgT.nil)) (Ty.leaf .sl) fun a=>F.zg3 a.1 a.2.1
theorem t_x63:Entry prog 289 e_x63 false:=eo { P:=prog,n:=75,tab:=[(212,e_x5)] } (.seq .leaf (.join [] (.seq .leaf (.cond (.seq .leaf .leaf) .leaf)) (.seq .leaf (.seq (.seq .leaf (.block (.loop [(27,.leaf (.int .i64))] (.seq .leaf (.seq (.cond .leaf .leaf) (.seq (.block (.seq .leaf (.seq .leaf (.seq (.seq .leaf (.block (.loop [(8,.leaf (.int .u64)),(34,.leaf (.int .i64))] (.seq .leaf (.seq (.cond .leaf .leaf) (.seq (.block (.seq .leaf (.seq .leaf (.seq .leaf .leaf)))) .leaf)))))) .leaf)))) .leaf)))))) (.seq .leaf .leaf))))) func289 ⟨t_x5,trivial⟩
noncomputable def e_x64:FSem:=mkE (ArgT.cons tyTInt (ArgT.cons tyTInt ArgT.nil)) tyTInt fun a=>F.zga a.1 a.2.1
theorem t_x64:Entry prog 274 e_x64 false:=eo { P:=prog,n:=18,tab:=[(212,e_x5),(289,e_x63),(214,e_x8)],rtL:=[(5,2),(7,3),(10,2),(13,3)],locL:=[2,3,4] } (.seq .leaf (.seq (.draw [0,1,2,3,4,5,6,8,9,7,10,11,12,13]) .leaf)) func274 ⟨t_x5,t_x63,t_x8,trivial⟩
noncomputable def e_x65:FSem:=mkE (ArgT.cons (Ty.leaf .sl) (ArgT.cons (Ty.leaf .sl) ArgT.nil)) (Ty.leaf .sl) fun a=>F.zgv a.1 a.2.1
theorem t_x65:Entry prog 308 e_x65 false:=eo { P:=prog,n:=58,tab:=[],locL:=[45,55] } (.seq .leaf (.join [(0,.leaf (.sl)),(1,.leaf (.sl))] (.seq .leaf (.cond .leaf .leaf)) (.seq .leaf (.seq .leaf (.seq (.seq .leaf (.block (.loop [(5,.leaf (.sl)),(6,.leaf (.int .u64)),(22,.leaf (.int .i64))] (.seq .leaf (.seq (.cond .leaf .leaf) (.seq (.block (.seq .leaf (.seq .leaf (.join [(6,.leaf (.int .u64))] (.seq .leaf (.cond .leaf .leaf)) (.seq .leaf .leaf))))) .leaf)))))) (.seq (.seq .leaf (.cond .leaf .leaf)) (.seq .leaf .leaf))))))) func308 trivial
noncomputable def e_x66:FSem:=mkE (ArgT.cons (Ty.leaf .sl) (ArgT.cons (Ty.leaf .sl) ArgT.nil)) (Ty.leaf .sl) fun a=>F.zg2 a.1 a.2.1
theorem t_x66:Entry prog 309 e_x66 false:=eo { P:=prog,n:=45,tab:=[(212,e_x5)] } (.seq .leaf (.seq .leaf (.seq .leaf (.seq (.seq .leaf (.block (.loop [(6,.leaf (.int .u64)),(15,.leaf (.int .i64))] (.seq .leaf (.seq (.cond .leaf .leaf) (.seq (.block (.seq .leaf (.seq .leaf (.join [(9,.leaf (.int .u64))] (.seq .leaf (.cond .leaf .leaf)) (.seq .leaf .leaf))))) .leaf)))))) (.seq .leaf .leaf))))) func309 ⟨t_x5,trivial⟩
noncomputable def e_x67:FSem:=mkE (ArgT.cons tyTInt (ArgT.cons tyTInt ArgT.nil)) (Ty.tup (.cons tyTInt (.cons tyTInt (.cons (Ty.leaf (.int .i64)) .nil))) (fun x=>(x.1,x.2.1,x.2.2,())) (fun y=>(y.1,y.2.1,y.2.2.1)) (fun _=>rfl) (fun _=>rfl)) fun a=>F.zh9 a.1 a.2.1
theorem t_x67:Entry prog 299 e_x67 false:=eo { P:=prog,n:=53,tab:=[(212,e_x5),(213,e_x24),(214,e_x8),(308,e_x65),(309,e_x66)],rtL:=[(10,3),(19,2),(26,2),(28,3),(42,2),(44,3),(49,3)],locL:=[2,3,4,5] } (.seq .leaf (.seq .leaf (.seq (.seq .leaf (.cond (.seq .leaf .leaf) .leaf)) (.seq .leaf (.join [(8,.leaf (.sl)),(9,.leaf (.sl))] (.seq .leaf (.cond (.seq .leaf .leaf) .leaf)) (.seq (.draw [0,1,2,3,4,5,7,8,9,6,10,11,12,13]) .leaf)))))) func299 ⟨t_x5,t_x24,t_x8,t_x65,t_x66,trivial⟩
noncomputable def e_x68:FSem:=mkE (ArgT.cons tyTInt (ArgT.cons tyTInt ArgT.nil)) tyTInt fun a=>F.zgz a.1 a.2.1
theorem t_x68:Entry prog 291 e_x68 false:=eo { P:=prog,n:=19,tab:=[(174,e_x26),(299,e_x67)],locL:=[2,3,4,5,6] } (.seq .leaf (.seq (.seq .leaf (.cond (.seq .leaf .leaf) .leaf)) (.seq .leaf (.seq .leaf .leaf)))) func291 ⟨t_x26,t_x67,trivial⟩
noncomputable def e_x69:FSem:=mkE (ArgT.cons tyTInt ArgT.nil) tyTInt fun a=>F.zjl a.1
theorem t_x69:Entry prog 290 e_x69 false:=eo { P:=prog,n:=11,tab:=[(212,e_x5),(215,e_x7),(214,e_x8)],rtL:=[(3,1),(6,1)],locL:=[1,2] } (.seq .leaf (.seq (.draw [0,1,2,3,4,5,6,7,8]) .leaf)) func290 ⟨t_x5,t_x7,t_x8,trivial⟩
noncomputable def e_x70:FSem:=mkE (ArgT.cons tyTInt (ArgT.cons tyTInt ArgT.nil)) tyTRat fun a=>F.zgm a.1 a.2.1
theorem t_x70:Entry prog 275 e_x70 false:=eo { P:=prog,n:=20,tab:=[(175,e_x25),(291,e_x68),(290,e_x69)],rtL:=[(9,3)],locL:=[2,3,4,5] } (.seq .leaf (.seq .leaf (.join [(5,.box [.bool,.sl])] (.seq .leaf (.cond .leaf .leaf)) (.seq (.draw [0,1,3,4,2,5,6,7]) .leaf)))) func275 ⟨t_x25,t_x68,t_x69,trivial⟩
noncomputable def e_x71:FSem:=mkE (ArgT.cons tyTRat (ArgT.cons tyTRat ArgT.nil)) tyTRat fun a=>F.ziq a.1 a.2.1
theorem t_x71:Entry prog 261 e_x71 false:=eo { P:=prog,n:=31,tab:=[(274,e_x64),(275,e_x70),(174,e_x26),(273,e_x60)],rtL:=[(5,2),(9,3),(13,2),(15,3),(20,2),(22,3),(25,2),(27,3)],locL:=[2,3,4] } (.seq .leaf (.join [(4,.box [.bool,.sl,.bool,.sl])] (.seq .leaf (.cond (.seq .leaf .leaf) .leaf)) (.seq (.draw [0,1,2,3,5,6,7,8,4,9,10,11]) .leaf))) func261 ⟨t_x64,t_x70,t_x26,t_x60,trivial⟩
noncomputable def e_x72:FSem:=mkE (ArgT.cons (Ty.leaf (.int .i64)) ArgT.nil) (Ty.leaf .str) fun a=>F.zf6 a.1
theorem t_x72:Entry prog 301 e_x72 false:=eo { P:=prog,n:=15,tab:=[] } (.seq .leaf (.seq (.seq .leaf (.cond (.seq .leaf .leaf) .leaf)) (.seq .leaf .leaf))) func301 trivial
noncomputable def e_x73:FSem:=mkE (ArgT.cons (Ty.leaf (.int .u64)) ArgT.nil) (Ty.leaf (.int .i64)) fun a=>F.zgk a.1
theorem t_x73:Entry prog 311 e_x73 false:=eo { P:=prog,n:=25,tab:=[] } (.seq .leaf (.join [(0,.leaf (.int .u64)),(2,.leaf (.int .i64))] (.seq .leaf (.cond (.seq .leaf .leaf) .leaf)) (.join [(0,.leaf (.int .u64)),(2,.leaf (.int .i64))] (.seq .leaf (.cond (.seq .leaf .leaf) .leaf)) (.join [(0,.leaf (.int .u64)),(2,.leaf (.int .i64))] (.seq .leaf (.cond (.seq .leaf .leaf) .leaf)) (.seq .leaf .leaf))))) func311 trivial
noncomputable def e_x74:FSem:=mkE (ArgT.cons (Ty.leaf (.int .i64)) ArgT.nil) (Ty.leaf (.int .i64)) fun a=>F.ze8 a.1
theorem t_x74:Entry prog 310 e_x74 false:=eo { P:=prog,n:=6,tab:=[] } (.seq .leaf (.seq .leaf .leaf)) func310 trivial
noncomputable def e_x75:FSem:=mkE (ArgT.cons (Ty.leaf .bool) ArgT.nil) (Ty.leaf (.int .i64)) fun a=>F.ze7 a.1
theorem t_x75:Entry prog 312 e_x75 false:=eo { P:=prog,n:=4,tab:=[] } (.seq .leaf (.seq (.seq .leaf (.cond (.seq .leaf .leaf) .leaf)) (.seq .leaf .leaf))) func312 trivial
noncomputable def e_x76:FSem:=mkE (ArgT.cons (Ty.leaf (.int .u64)) ArgT.nil) (Ty.leaf (.int .i64)) fun a=>F.zcz a.1
theorem t_x76:Entry prog 302 e_x76 false:=eo { P:=prog,n:=15,tab:=[(311,e_x73),(310,e_x74),(312,e_x75)] } (.seq .leaf (.seq .leaf (.seq .leaf .leaf))) func302 ⟨t_x73,t_x74,t_x75,trivial⟩
noncomputable def e_x77:FSem:=mkM (ArgT.cons (Ty.leaf .sl) (ArgT.cons (Ty.leaf (.int .u64)) ArgT.nil)) Ty.unit fun a=>F.zcr a.1 a.2.1
theorem t_x77:Entry prog 303 e_x77 true:=eoM { P:=prog,n:=167,tab:=[] } (.seq .leaf (.seq (.block (.loop [(1,.leaf (.int .u64)),(4,.leaf (.int .i64))] (.seq (.seq .leaf (.cond .leaf .leaf)) (.block (.seq .leaf (.seq .leaf (.seq .leaf (.seq .leaf (.seq .leaf (.seq (.draw [0,1,2,3,4,5,6,7,8,9,10,11,12,13,14]) (.seq (.draw [0,1,2,3,4,5,6,7,8,9,10,11,12,13,14]) (.seq (.draw [0,1,2,3,4,5,6,7,8,9,10,11,12,13,14]) (.seq (.draw [0,1,2,3,4,5,6,7,8,9,10,11,12,13,14]) .leaf))))))))))))) (.seq .leaf (.join [(4,.leaf (.int .i64)),(12,.leaf (.int .u32))] (.seq .leaf (.cond (.seq .leaf (.seq .leaf (.seq .leaf (.seq (.draw [0,1,2,3,4,5,6,7,8,9,10,11,12,13,14]) (.seq (.draw [0,1,2,3,4,5,6,7,8,9,10,11,12,13,14]) .leaf))))) .leaf)) (.join [(4,.leaf (.int .i64)),(12,.leaf (.int .u32))] (.seq .leaf (.cond (.seq .leaf (.seq .leaf (.seq (.draw [0,1,2,3,4,5,6,7,8,9,10,11,12,13,14]) .leaf))) .leaf)) (.seq .leaf (.cond .leaf .leaf))))))) func303 trivial
noncomputable def e_x78:FSem:=mkE (ArgT.cons (Ty.leaf (.int .u64)) (ArgT.cons (Ty.leaf (.int .i64)) ArgT.nil)) (Ty.leaf .str) fun a=>F.ze2 a.1 a.2.1
theorem t_x78:Entry prog 293 e_x78 false:=eo { P:=prog,n:=32,tab:=[(301,e_x72),(302,e_x76),(303,e_x77)],mutL:=[303] } (.seq .leaf (.seq (.seq .leaf (.cond (.seq (.seq .leaf (.cond (.seq .leaf .leaf) .leaf)) (.seq .leaf (.seq .leaf (.seq .leaf (.seq .leaf .leaf))))) .leaf)) (.seq .leaf (.seq .leaf .leaf)))) func293 ⟨t_x72,t_x76,t_x77,trivial⟩
noncomputable def e_x79:FSem:=mkE (ArgT.cons (Ty.leaf (.int .u64)) (ArgT.cons (Ty.leaf (.int .i64)) ArgT.nil)) (Ty.leaf .str) fun a=>F.ze3 a.1 a.2.1
theorem t_x79:Entry prog 277 e_x79 false:=eo { P:=prog,n:=8,tab:=[(293,e_x78)] } (.seq .leaf (.seq .leaf .leaf)) func277 ⟨t_x78,trivial⟩
end
end Den
end

section
set_option maxRecDepth 100000
namespace Den
open Go Go.Proofs.Tryz
noncomputable section
noncomputable def zjs:ArgT ((Option Addr)×Unit):=(ArgT.cons (Ty.leaf .ptr) ArgT.nil)
noncomputable def zdx:Ty Unit:=Ty.unit
noncomputable def ze0:FSem:=mkM zjs zdx (fun a=>F.zd3 a.1)
set_option maxHeartbeats 1000000 in
set_option maxRecDepth 100000 in
theorem zj7 (b:Nat) (w:World) (h0:w.cell? ⟨b,0,none⟩=some (.pointer (some ⟨b,0,none⟩))) :
 Calls Go.Proofs.Tryz.prog 292 #[.pointer (some ⟨b,0,none⟩)] w fun e w'=>e=.returned (.tuple #[])∧w'=w:=by
 obtain ⟨j,hj,_⟩:=Option.map_eq_some_iff.1 (show (Go.Proofs.Tryz.prog.info? 239).map (·.size)=some 2 by kernel_rfl)
 go_enter Go.Proofs.Tryz.func292,Go.Proofs.Tryz.ntmps292
 go_wp2
 rw [Lib.run_neq_ptr_same w _ Go.Proofs.Tryz.underlying237 hj]
 go_wp2
 go_end0
 exact ⟨rfl,rfl⟩
set_option maxHeartbeats 1000000 in
set_option maxRecDepth 100000 in
theorem zj6 (b:Nat) (w:World) (h0:w.cell? ⟨b,0,none⟩=some (.pointer none)) (hsh:w.shape? b=some (239,2)) (hfz:w.frozen? ⟨b,0,none⟩=false) :
 Calls Go.Proofs.Tryz.prog 292 #[.pointer (some ⟨b,0,none⟩)] w fun e w'=>e=.returned (.tuple #[])∧w'=w.setCell ⟨b,0,none⟩ (.pointer (some ⟨b,0,none⟩)):=by
 obtain ⟨j,hj,hjs⟩:=Option.map_eq_some_iff.1 (show (Go.Proofs.Tryz.prog.info? 239).map (·.size)=some 2 by kernel_rfl)
 have hli:liesAt Go.Proofs.Tryz.prog Go.Proofs.Tryz.prog.depth 239 (2/Go.Proofs.Tryz.prog.cellsOf 239) 0 239 1=true:=by kernel_rfl
 go_enter Go.Proofs.Tryz.func292,Go.Proofs.Tryz.ntmps292
 go_wp2
 rw [Lib.run_to_unsafe w ⟨b,0,none⟩ Go.Proofs.Tryz.underlying237 Go.Proofs.Tryz.underlying259 hj (by rw [hjs]; decide) hsh (Nat.zero_lt_succ 1)]
 simp only [Result.andThen]
 rw [Oper.upon_value]
 go_wp2
 rw [run_callFunc_extern Go.Proofs.Tryz.func300 (by kernel_rfl) (by kernel_rfl) (by kernel_rfl) (e:=Extern.AbiNoEscape.same) (by kernel_rfl)]
 rw [Lib.run_noEscape]
 simp only [Result.andThen]
 rw [Oper.upon_value]
 go_wp2
 rw [Lib.run_from_unsafe w ⟨b,0,none⟩ Go.Proofs.Tryz.underlying259 Go.Proofs.Tryz.underlying237 hj hsh hli]
 simp only [Result.andThen]
 rw [Oper.upon_value]
 go_wp2
 go_end0
 exact ⟨rfl,rfl⟩
theorem zfm:Entry Go.Proofs.Tryz.prog 292 ze0 true:=
 znx ⟨_,Go.Proofs.Tryz.func292,rfl,by decide⟩ (fun a K D w hs hk=>by
  obtain ⟨p,u⟩:=a
  obtain ⟨b,bl,hp,hb,he,hf,hl,hc⟩:=hk
  simp only at hp
  subst hp
  have hw:=hs _ _ hb
  have hlt:=zct hw
  rw [he,hf] at hw
  rcases hc with ⟨h0,hK⟩ | ⟨h0,hK⟩
  · have c0:w.cell? ⟨b,0,none⟩=some (.pointer none):=by unfold World.cell?; simp only [hw]; simp [h0]
    refine (zj6 b w c0 (by simp [World.shape?,hw,hl]) (by unfold World.frozen?; simp only [hw]; simp)).mono ?_
    rintro e w' ⟨rfl,rfl⟩
    refine ⟨_,_,rfl,(zdx.cmp _ _).2 hK,?_,?_,?_⟩
    · intro k c hk
      rw [zlv hw]
      by_cases hkb:k=b
      · subst hkb
        rw [Hp.ins_same] at hk; cases hk
        rw [zge hlt]
        simp [he,hf]
      · rw [Hp.ins_ne hkb] at hk; rw [zh3 hkb]; exact hs k c hk
    · rw [zlv hw]
      refine ⟨by rw [zhp]; exact Nat.le_refl _,fun k hk1 hk2=>?_,rfl,rfl,rfl,Nat.le_refl _⟩
      exact zh3 fun hh=>by rw [hh,hb] at hk2; cases hk2
    · intro k hk1 hk2
      have hkb:k≠b:=fun hh=>by rw [hh,hb] at hk2; cases hk2
      rw [Hp.ins_ne hkb] at hk1; exact absurd hk2 hk1
  · have c0:w.cell? ⟨b,0,none⟩=some (.pointer (some ⟨b,0,none⟩)):=by unfold World.cell?; simp only [hw]; simp [h0]
    refine (zj7 b w c0).mono ?_
    rintro e w' ⟨rfl,rfl⟩
    exact ⟨_,D,rfl,(zdx.cmp _ _).2 hK,hs,Fr.refl _ _,fun k h1 h2=>absurd h2 h1⟩)
noncomputable def e_x80:FSem:=mkM (ArgT.cons (Ty.leaf .ptr) (ArgT.cons (Ty.leaf .str) ArgT.nil)) (Ty.tup (.cons (Ty.leaf (.int .i64)) (.cons (Ty.leaf .val) .nil)) (fun x=>(x.1,x.2,())) (fun y=>(y.1,y.2.1)) (fun _=>rfl) (fun _=>rfl)) fun a=>F.zaz a.1 a.2.1
theorem t_x80:Entry prog 278 e_x80 true:=eoM { P:=prog,n:=19,tab:=[(292,ze0)],mutL:=[292],tyL:=[5] } (.seq .leaf (.seq .leaf (.seq .leaf (.seq .leaf .leaf)))) func278 ⟨zfm,trivial⟩
noncomputable def e_x81:FSem:=mkE (ArgT.cons (Ty.leaf (.int .u64)) (ArgT.cons (Ty.leaf (.int .u64)) ArgT.nil)) (Ty.tup (.cons (Ty.leaf (.int .u64)) (.cons (Ty.leaf (.int .u64)) .nil)) (fun x=>(x.1,x.2,())) (fun y=>(y.1,y.2.1)) (fun _=>rfl) (fun _=>rfl)) fun a=>F.zin a.1 a.2.1
theorem t_x81:Entry prog 295 e_x81 false:=eo { P:=prog,n:=51,tab:=[] } (.seq .leaf (.seq .leaf (.seq .leaf (.seq .leaf (.seq .leaf (.seq .leaf (.seq .leaf (.seq .leaf (.seq .leaf (.seq .leaf (.seq .leaf (.seq .leaf .leaf)))))))))))) func295 trivial
noncomputable def e_x82:FSem:=mkE (ArgT.cons (Ty.leaf (.int .u64)) (ArgT.cons (Ty.leaf (.int .u64)) ArgT.nil)) (Ty.tup (.cons (Ty.leaf (.int .u64)) (.cons (Ty.leaf (.int .u64)) .nil)) (fun x=>(x.1,x.2,())) (fun y=>(y.1,y.2.1)) (fun _=>rfl) (fun _=>rfl)) fun a=>F.zhx a.1 a.2.1
theorem t_x82:Entry prog 280 e_x82 false:=eo { P:=prog,n:=30,tab:=[(295,e_x81)] } (.seq .leaf (.seq (.cond (.seq .leaf (.seq .leaf .leaf)) .leaf) (.seq .leaf (.seq .leaf .leaf)))) func280 ⟨t_x81,trivial⟩
noncomputable def e_x83:FSem:=mkE (ArgT.cons (Ty.leaf .str) (ArgT.cons (Ty.leaf .str) ArgT.nil)) (Ty.leaf .bool) fun a=>F.zd6 a.1 a.2.1
theorem t_x83:Entry prog 296 e_x83 false:=eo { P:=prog,n:=18,tab:=[] } (.seq .leaf (.seq .leaf .leaf)) func296 trivial
noncomputable def e_x84:FSem:=mkE (ArgT.cons (Ty.leaf .str) (ArgT.cons (Ty.leaf .str) ArgT.nil)) (Ty.leaf .bool) fun a=>F.za7 a.1 a.2.1
theorem t_x84:Entry prog 281 e_x84 false:=eo { P:=prog,n:=8,tab:=[(296,e_x83)] } (.seq .leaf (.seq .leaf .leaf)) func281 ⟨t_x83,trivial⟩
noncomputable def e_x85:FSem:=mkE (ArgT.cons (Ty.leaf .str) (ArgT.cons (Ty.leaf (.int .i64)) ArgT.nil)) (Ty.leaf .str) fun a=>F.zeh a.1 a.2.1
theorem t_x85:Entry prog 263 e_x85 false:=eo { P:=prog,n:=125,tab:=[(280,e_x82),(281,e_x84)],tyL:=[239] } (.seq .leaf (.seq (.seq .leaf (.block (.seq .leaf (.cond (.seq .leaf .leaf) (.seq .leaf (.cond (.seq .leaf .leaf) .leaf)))))) (.join [] (.seq .leaf (.cond .leaf .leaf)) (.seq .leaf (.join [] (.seq .leaf (.cond .leaf .leaf)) (.seq .leaf (.seq (.seq .leaf (.cond (.seq .leaf .leaf) .leaf)) (.join [] (.seq .leaf (.block (.join [(43,.leaf (.bool))] (.seq .leaf (.cond .leaf (.seq .leaf (.cond .leaf (.seq .leaf (.cond .leaf (.seq .leaf (.cond .leaf .leaf)))))))) (.cond (.block (.seq .leaf (.cond (.seq .leaf .leaf) (.seq .leaf (.cond (.seq .leaf .leaf) (.seq .leaf (.cond (.seq .leaf .leaf) (.seq .leaf (.cond (.seq .leaf .leaf) (.seq .leaf (.cond (.seq .leaf .leaf) .leaf))))))))))) .leaf)))) (.seq .leaf (.join [(8,.leaf (.int .i64))] (.seq .leaf (.cond (.seq .leaf (.seq .leaf (.cond .leaf .leaf))) .leaf)) (.seq .leaf (.seq .leaf (.seq .leaf (.seq (.block (.loop [] (.seq (.seq .leaf (.cond .leaf .leaf)) (.block (.seq .leaf .leaf))))) (.seq .leaf .leaf))))))))))))))) func263 ⟨t_x82,t_x84,trivial⟩
noncomputable def zkt:ArgT ((Option Addr)×Unit):=(ArgT.cons (Ty.leaf .ptr) ArgT.nil)
noncomputable def zei:Ty ByteArray:=(Ty.leaf .str)
noncomputable def zgq:FSem:=mkM zkt zei (fun a=>F.zdw a.1)
set_option maxHeartbeats 2000000 in
set_option maxRecDepth 100000 in
theorem zke (b:Nat) (p:Value) (w:World) (hbk:w.heap[b]?=some (.cells #[p,.slice none 0 0] 239 (0,0))) :
 Calls Go.Proofs.Tryz.prog 279 #[.pointer (some ⟨b,0,none⟩)] w fun e w'=>e=.returned (.string ⟨#[]⟩)∧w'=w.drew:=by
 have hUS:∀(W:World) (q:Option Addr),(Builtin.unsafeString_ #[252,3] 9 #[.pointer q,.int .i64 0]).run Go.Proofs.Tryz.prog W=.ok (.string .empty) W:=fun W q=>Lib.run_unsafeString_none W _ _ _ q
 have c1:w.drew.cell? ⟨b,1,none⟩=some (.slice none 0 0):=by
  have:w.drew.heap[b]?=some (.cells #[p,.slice none 0 0] 239 (0,0)):=hbk
  rw [Lib.cell_of_heap this]; rfl
 have hSD:(Builtin.unsafeSliceData_ #[44] 252 #[.slice none 0 0]).run Go.Proofs.Tryz.prog w.drew=.ok (.pointer none) w.drew:=rfl
 go_enter Go.Proofs.Tryz.func279,Go.Proofs.Tryz.ntmps279
 go_wp2
 go_region
 all_goals (go_wp2; go_ret; exact ⟨rfl,rfl⟩)
set_option maxHeartbeats 2000000 in
set_option maxRecDepth 100000 in
theorem zkf (b g cap cells:Nat) (p:Value) (l:List UInt8) (w:World) (h0:l≠[]) (hbk:w.heap[b]?=some (.cells #[p,.slice (some ⟨g,0,none⟩) l.length cap] 239 (0,0))) (hc:l.length≤cap) (hsh:w.shape? g=some (5,cells)) (hn:l.length≤cells) (h63:l.length≤140737488355328)
 (hcell:∀j x,l[j]?=some x→w.cell? ((⟨g,0,none⟩:Addr).add j)=some (.int .u8 x.toNat)) :
 Calls Go.Proofs.Tryz.prog 279 #[.pointer (some ⟨b,0,none⟩)] w fun e w'=>e=.returned (.string ⟨l.toArray⟩)∧w'=w.drew.freeze ⟨g,0,none⟩ l.length:=by
 have hl0:l.length≠0:=by simpa using h0
 have c1:w.drew.cell? ⟨b,1,none⟩=some (.slice (some ⟨g,0,none⟩) l.length cap):=by
  have:w.drew.heap[b]?=some (.cells #[p,.slice (some ⟨g,0,none⟩) l.length cap] 239 (0,0)):=hbk
  rw [Lib.cell_of_heap this]; rfl
 have hSD:(Builtin.unsafeSliceData_ #[44] 252 #[.slice (some ⟨g,0,none⟩) l.length cap]).run Go.Proofs.Tryz.prog w.drew=.ok (.pointer (some ⟨g,0,none⟩)) w.drew:=
  Lib.run_unsafeSliceData_row _ _ _ _ _ _ (by omega)
 have hUS:(Builtin.unsafeString_ #[252,3] 9 #[.pointer (some ⟨g,0,none⟩),.int .i64 l.length]).run Go.Proofs.Tryz.prog w.drew=.ok (.string ⟨l.toArray⟩) (w.drew.freeze ⟨g,0,none⟩ l.length):=
  Lib.run_unsafeString_row w.drew 252 3 9 5 Go.Proofs.Tryz.underlying252 (by kernel_rfl) g cells hsh l h0 hn (by omega) hcell
 go_enter Go.Proofs.Tryz.func279,Go.Proofs.Tryz.ntmps279
 go_wp2
 go_region
 all_goals (go_wp2; go_ret; exact ⟨rfl,rfl⟩)
theorem zld:Entry Go.Proofs.Tryz.prog 279 zgq true:=
 znx ⟨_,Go.Proofs.Tryz.func279,rfl,by decide⟩ (fun a K D w hs hk=>by
  obtain ⟨q,u⟩:=a
  obtain ⟨b,bl,p,hp,hb,he,hf,hc⟩:=hk
  simp only at hp
  subst hp
  have hw:=hs _ _ hb
  rw [he,hf] at hw
  rcases hc with ⟨hcs,hK⟩ | ⟨g,c,l,bg,h0,hcs,hlc,hg,hge,hlg,h63,hall,hK⟩
  · rw [hcs] at hw
    refine (zke b p w hw).mono ?_
    rintro e w' ⟨rfl,rfl⟩
    exact ⟨_,D,rfl,(zei.cmp _ _).2 hK,hs,zm2 D w,fun k h1 h2=>absurd h2 h1⟩
  · rw [hcs] at hw
    have hwg:=hs _ _ hg
    rw [hge] at hwg
    have hltg:=zct hwg
    refine (zkf b g c bg.cells.length p l w h0 hw hlc (by simp [World.shape?,hwg]) hlg h63 (fun j x hj=>?_)).mono ?_
    · rw [zf2,Nat.zero_add]
      unfold World.cell?
      simp only [hwg]
      simp [hall j x hj]
    · rintro e w' ⟨rfl,rfl⟩
      have hsz:(w.drew.freeze ⟨g,0,none⟩ l.length).heap.size=w.heap.size:=by
       unfold World.freeze
       split
       · rfl
       · simp only [Array.size_modify]
         rfl
      have hne:∀k,k≠g→(w.drew.freeze ⟨g,0,none⟩ l.length).heap[k]?=w.heap[k]?:=fun k hk=>by
       unfold World.freeze
       split
       · rfl
       · simp only [Array.getElem?_modify]
         rw [if_neg (fun hh=>hk hh.symm)]
         rfl
      refine ⟨_,_,rfl,(zei.cmp _ _).2 hK,?_,?_,?_⟩
      · intro k cb hk
        by_cases hkg:k=g
        · simp [hkg] at hk
        · simp only [if_neg hkg] at hk
          rw [hne k hkg]; exact hs k cb hk
      · refine ⟨Nat.le_of_eq hsz.symm,fun k hk1 hk2=>?_,?_,?_,?_,?_⟩
        · exact hne k fun hh=>by rw [hh,hg] at hk2; cases hk2
        · unfold World.freeze; split<;>rfl
        · unfold World.freeze; split<;>rfl
        · unfold World.freeze; split<;>rfl
        · unfold World.freeze; split<;>exact Nat.le_succ _
      · intro k hk1 hk2
        by_cases hkg:k=g
        · simp [hkg] at hk1
        · simp only [if_neg hkg] at hk1; exact absurd hk2 hk1)
noncomputable def e_x86:FSem:=mkM (ArgT.cons (Ty.leaf .ptr) (ArgT.cons (Ty.leaf (.int .u8)) ArgT.nil)) (Ty.leaf .val) fun a=>F.zgo a.1 a.2.1
theorem t_x86:Entry prog 276 e_x86 true:=eoM { P:=prog,n:=17,tab:=[(292,ze0)],mutL:=[292],locL:=[13],tyL:=[5] } (.seq .leaf (.seq .leaf (.seq .leaf (.seq .leaf .leaf)))) func276 ⟨zfm,trivial⟩
noncomputable def e_x87:FSem:=mkE (ArgT.cons tyTInt ArgT.nil) (Ty.leaf .str) fun a=>F.zha a.1
theorem t_x87:Entry prog 262 e_x87 false:=eo { P:=prog,n:=74,tab:=[(212,e_x5),(215,e_x7),(246,e_x9),(277,e_x79),(278,e_x80),(263,e_x85),(279,zgq),(276,e_x86)],mutL:=[278,279,276],rtL:=[(11,1),(51,1)],locL:=[1,4,49],backs:=[(257,(.leaf (.int .u32)))],tyL:=[239] } (.seq .leaf (.seq .leaf (.seq (.seq .leaf (.cond (.seq .leaf .leaf) .leaf)) (.seq .leaf (.seq (.block (.loop [(3,.leaf (.sl)),(4,.box [.sl])] (.seq (.seq .leaf (.cond .leaf .leaf)) (.block (.seq .leaf (.seq (.seq .leaf (.block (.loop [(5,.leaf (.int .u64)),(6,.leaf (.int .i64))] (.seq (.seq .leaf (.cond .leaf .leaf)) (.seq (.block (.seq .leaf (.seq .leaf .leaf))) .leaf))))) (.seq .leaf .leaf))))))) (.seq .leaf (.join [] (.seq .leaf (.cond .leaf .leaf)) (.seq (.seq .leaf (.block (.back [] (.seq .leaf .leaf) (.block (.seq .leaf (.join [] (.seq .leaf (.cond .leaf .leaf)) .leaf)))))) (.seq .leaf .leaf))))))))) func262 ⟨t_x5,t_x7,t_x9,t_x79,t_x80,t_x85,zld,t_x86,trivial⟩ ⟨zz8,trivial⟩
noncomputable def e_x88:FSem:=mkE (ArgT.cons tyTRat ArgT.nil) (Ty.tup (.cons (Ty.leaf .str) (.cons (Ty.leaf .bool) .nil)) (fun x=>(x.1,x.2,())) (fun y=>(y.1,y.2.1)) (fun _=>rfl) (fun _=>rfl)) fun a=>F.zgh a.1
theorem t_x88:Entry prog 247 e_x88 false:=eo { P:=prog,n:=65,tab:=[(258,e_x61),(259,e_x59),(260,e_x62),(261,e_x71),(262,e_x87),(263,e_x85),(116,e_x27),(120,e_x34)],rtL:=[(23,1),(31,1)],locL:=[1,4,5] } (.seq .leaf (.join [] (.seq .leaf (.cond (.seq .leaf .leaf) .leaf)) (.seq .leaf (.seq .leaf (.seq (.seq .leaf (.block (.loop [(1,.box [.bool,.sl,.bool,.sl]),(6,.leaf (.int .i64))] (.seq (.seq .leaf (.cond .leaf .leaf)) (.seq (.block (.seq (.seq .leaf (.cond (.seq .leaf .leaf) .leaf)) (.seq .leaf (.join [(7,.leaf (.str))] (.seq .leaf (.cond (.join [(7,.leaf (.str))] (.seq .leaf (.seq .leaf (.cond .leaf .leaf))) (.draw [0,1,2,3,4,5,6,7,8,9,10,11,12,13,14])) .leaf)) (.seq .leaf .leaf))))) .leaf))))) (.seq .leaf .leaf)))))) func247 ⟨t_x61,t_x59,t_x62,t_x71,t_x87,t_x85,t_x27,t_x34,trivial⟩
noncomputable def e_x89:FSem:=mkE (ArgT.cons (Ty.leaf (.int .u8)) ArgT.nil) (Ty.leaf .bool) fun a=>F.zfg a.1
theorem t_x89:Entry prog 264 e_x89 false:=eo { P:=prog,n:=17,tab:=[] } (.seq .leaf (.seq .leaf .leaf)) func264 trivial
noncomputable def e_x90:FSem:=mkE (ArgT.cons (Ty.leaf (.int .u8)) ArgT.nil) (Ty.leaf .bool) fun a=>F.zg4 a.1
theorem t_x90:Entry prog 284 e_x90 false:=eo { P:=prog,n:=9,tab:=[] } (.seq .leaf (.seq .leaf .leaf)) func284 trivial
noncomputable def e_x91:FSem:=mkE (ArgT.cons (Ty.leaf (.int .u8)) ArgT.nil) (Ty.leaf .bool) fun a=>F.zik a.1
theorem t_x91:Entry prog 266 e_x91 false:=eo { P:=prog,n:=13,tab:=[(264,e_x89),(284,e_x90)] } (.seq .leaf (.seq .leaf .leaf)) func266 ⟨t_x89,t_x90,trivial⟩
noncomputable def e_x92:FSem:=mkE (ArgT.cons (Ty.leaf .str) (ArgT.fn 266 ArgT.nil)) (Ty.leaf (.int .i64)) fun a=>F.zdh a.1
theorem t_x92:Entry prog 265 e_x92 false:=eo { P:=prog,n:=20,tab:=[(266,e_x91)] } (.seq .leaf (.seq .leaf (.seq (.block (.loop [(5,.leaf (.int .i64))] (.join [] (.seq .leaf (.cond .leaf .leaf)) (.block .leaf)))) (.seq .leaf .leaf)))) func265 ⟨t_x91,trivial⟩
noncomputable def e_x93:FSem:=mkE (ArgT.cons (Ty.leaf .str) ArgT.nil) (Ty.leaf .bool) fun a=>F.zff a.1
theorem t_x93:Entry prog 248 e_x93 false:=eo { P:=prog,n:=22,tab:=[(264,e_x89),(265,e_x92)] } (.seq .leaf (.seq .leaf .leaf)) func248 ⟨t_x89,t_x92,trivial⟩
noncomputable def e_x94:FSem:=mkE (ArgT.cons tyTRat ArgT.nil) (Ty.leaf .bool) fun a=>F.zgs a.1
theorem t_x94:Entry prog 249 e_x94 false:=eo { P:=prog,n:=27,tab:=[],rtL:=[(3,1),(4,1),(9,1),(10,1),(16,1),(17,1),(22,1),(23,1)],locL:=[1] } (.seq .leaf (.seq .leaf .leaf)) func249 trivial
noncomputable def A_x98:ArgT (TExpr×Unit):=(ArgT.cons tyTExpr ArgT.nil)
noncomputable def R_x98:Ty Bool:=(Ty.leaf .bool)
noncomputable def A_x95:ArgT (TExpr×Unit):=(ArgT.cons tyTExpr ArgT.nil)
noncomputable def R_x95:Ty Bool:=(Ty.leaf .bool)
noncomputable def e_x95 (Q_formula_formed:TExpr→(Bool→Hp→Prop)→Hp→Prop):FSem:=mkE A_x95 R_x95 fun a=>F.zft Q_formula_formed a.1
theorem t_x95 (Q_formula_formed:TExpr→(Bool→Hp→Prop)→Hp→Prop) (h_formula_formed:Entry prog 224 (mkE A_x98 R_x98 (fun a=>Q_formula_formed a.1)) false):Entry prog 250 (e_x95 Q_formula_formed) false:=eo { P:=prog,n:=6,tab:=[(224,mkE A_x98 R_x98 (fun a=>Q_formula_formed a.1))],locL:=[1] } (.seq .leaf (.seq .leaf .leaf)) func250 ⟨h_formula_formed,trivial⟩
noncomputable def A_x96:ArgT (Sl×Unit):=(ArgT.cons (Ty.leaf .sl) (ArgT.fn 250 ArgT.nil))
noncomputable def R_x96:Ty Int:=(Ty.leaf (.int .i64))
noncomputable def e_x96 (Q_formula_formed:TExpr→(Bool→Hp→Prop)→Hp→Prop):FSem:=mkE A_x96 R_x96 fun a=>F.zbq Q_formula_formed a.1
theorem t_x96 (Q_formula_formed:TExpr→(Bool→Hp→Prop)→Hp→Prop) (h_formula_formed:Entry prog 224 (mkE A_x98 R_x98 (fun a=>Q_formula_formed a.1)) false):Entry prog 223 (e_x96 Q_formula_formed) false:=eo { P:=prog,n:=19,tab:=[(250,(e_x95 Q_formula_formed))] } (.seq .leaf (.seq (.seq .leaf (.block (.loop [(8,.leaf (.int .i64))] (.seq .leaf (.seq (.cond .leaf .leaf) (.seq (.block (.seq .leaf (.seq .leaf (.cond (.seq .leaf .leaf) .leaf)))) .leaf)))))) (.seq .leaf .leaf))) func223 ⟨(t_x95 Q_formula_formed h_formula_formed),trivial⟩
noncomputable def A_x97:ArgT (Sl×Unit):=(ArgT.cons (Ty.leaf .sl) (ArgT.fn 250 ArgT.nil))
noncomputable def R_x97:Ty Bool:=(Ty.leaf .bool)
noncomputable def e_x97 (Q_formula_formed:TExpr→(Bool→Hp→Prop)→Hp→Prop):FSem:=mkE A_x97 R_x97 fun a=>F.zbh Q_formula_formed a.1
theorem t_x97 (Q_formula_formed:TExpr→(Bool→Hp→Prop)→Hp→Prop) (h_formula_formed:Entry prog 224 (mkE A_x98 R_x98 (fun a=>Q_formula_formed a.1)) false):Entry prog 187 (e_x97 Q_formula_formed) false:=eo { P:=prog,n:=9,tab:=[(223,(e_x96 Q_formula_formed))] } (.seq .leaf (.seq .leaf .leaf)) func187 ⟨(t_x96 Q_formula_formed h_formula_formed),trivial⟩
noncomputable def e_x98:FSem:=mkE A_x98 R_x98 fun a=>F.zh8 a.1
noncomputable def c_x98 (n:Nat):Cfg:={ P:=prog,n:=68,tab:=[(247,e_x88),(248,e_x93),(249,e_x94),(187,(e_x97 (F.zcl n)))],rtL:=[(5,1),(9,1),(14,1),(17,1),(23,1),(28,1),(35,1),(39,1),(46,1),(50,1),(54,1),(58,1),(63,1)],locL:=[1] }
theorem u_x98:∃fn,prog.funcs[224]?=some fn∧fn.body.isNone=false∧(fn.name == "runtime.NumGoroutine")=false:=⟨_,func224,rfl,by decide⟩
theorem v_x98:∀n a K D w,Sub D w→F.zcl n a.1 K D→Calls prog 224 (A_x98.up a).toArray w (Post (fun v h=>R_x98.dn v fun r=>K r h) D w)
 | 0,_,_,_,_,_,h=>h.elim
 | n+1,a,K,D,w,hs,h=>zkn (C:=c_x98 n) (F:=fun a=>F.zcl (n+1) a.1) (fn:=f224) (c:=bd f224) (an:=(.seq .leaf (.join [] (.seq (.draw [0,1,2,3,4,5,6,7,8,9,10,11,12,13,14,15,16,17]) (.cond (.seq .leaf .leaf) .leaf)) (.seq (.seq .leaf (.block (.seq .leaf (.cond (.seq .leaf (.seq .leaf .leaf)) (.seq .leaf (.cond (.seq .leaf .leaf) .leaf)))))) (.seq .leaf .leaf))))) ⟨t_x88,t_x93,t_x94,(t_x97 (F.zcl n) (zez u_x98 (v_x98 n))),trivial⟩ trivial func224 rfl rfl (fun _=>rfl) (by intro a K D; kernel_rfl) a K D w hs h
theorem t_x98:Entry prog 224 e_x98 false:=zez u_x98 (fun a K D w hs h=>h.elim fun m h=>v_x98 m a K D w hs h)
noncomputable def A_x99:ArgT (TExpr×Unit):=(ArgT.cons tyTExpr ArgT.nil)
noncomputable def R_x99:Ty Int:=(Ty.leaf (.int .i64))
noncomputable def e_x99:FSem:=mkE A_x99 R_x99 fun a=>F.zht a.1
noncomputable def c_x99 (n:Nat):Cfg:={ P:=prog,n:=20,tab:=[(225,mkE A_x99 R_x99 (fun a=>F.zdm n a.1))],rtL:=[(6,1)],locL:=[1,5] }
theorem u_x99:∃fn,prog.funcs[225]?=some fn∧fn.body.isNone=false∧(fn.name == "runtime.NumGoroutine")=false:=⟨_,func225,rfl,by decide⟩
theorem v_x99:∀n a K D w,Sub D w→F.zdm n a.1 K D→Calls prog 225 (A_x99.up a).toArray w (Post (fun v h=>R_x99.dn v fun r=>K r h) D w)
 | 0,_,_,_,_,_,h=>h.elim
 | n+1,a,K,D,w,hs,h=>zkn (C:=c_x99 n) (F:=fun a=>F.zdm (n+1) a.1) (fn:=f225) (c:=bd f225) (an:=(.seq .leaf (.seq .leaf (.seq (.seq .leaf (.block (.loop [(3,.leaf (.int .i64)),(9,.leaf (.int .i64))] (.seq .leaf (.seq (.cond .leaf .leaf) (.seq (.block (.seq .leaf .leaf)) .leaf)))))) (.seq .leaf .leaf))))) ⟨(zez u_x99 (v_x99 n)),trivial⟩ trivial func225 rfl rfl (fun _=>rfl) (by intro a K D; kernel_rfl) a K D w hs h
theorem t_x99:Entry prog 225 e_x99 false:=zez u_x99 (fun a K D w hs h=>h.elim fun m h=>v_x99 m a K D w hs h)
noncomputable def zzs:FSem:=mkE (ArgT.cons tyTExpr ArgT.nil) (Ty.leaf (.int .i64)) fun a=>F.zhu a.1
theorem za8v:Entry prog 189 zzs false:=eo { P:=prog,n:=11,tab:=[(224,e_x98),(225,e_x99)],locL:=[1] } (.seq .leaf (.seq (.block (.seq .leaf (.cond (.seq .leaf .leaf) (.seq .leaf (.cond (.seq .leaf .leaf) .leaf))))) (.seq .leaf .leaf))) func189 ⟨t_x98,t_x99,trivial⟩
noncomputable def zzt:FSem:=mkE (ArgT.cons tyTExpr ArgT.nil) (Ty.leaf .bool) fun a=>F.zet a.1
theorem za8w:Entry prog 188 zzt false:=eo { P:=prog,n:=6,tab:=[(189,zzs)],locL:=[1] } (.seq .leaf (.seq .leaf .leaf)) func188 ⟨za8v,trivial⟩
noncomputable def zzu:FSem:=mkE (ArgT.cons (Ty.leaf .sl) (ArgT.fn 188 ArgT.nil)) (Ty.leaf (.int .i64)) fun a=>F.zbl a.1
theorem za8x:Entry prog 223 zzu false:=eo { P:=prog,n:=19,tab:=[(188,zzt)] } (.seq .leaf (.seq (.seq .leaf (.block (.loop [(8,.leaf (.int .i64))] (.seq .leaf (.seq (.cond .leaf .leaf) (.seq (.block (.seq .leaf (.seq .leaf (.cond (.seq .leaf .leaf) .leaf)))) .leaf)))))) (.seq .leaf .leaf))) func223 ⟨za8w,trivial⟩
noncomputable def zzv:FSem:=mkE (ArgT.cons (Ty.leaf .sl) (ArgT.fn 188 ArgT.nil)) (Ty.leaf .bool) fun a=>F.zax a.1
theorem za8y:Entry prog 187 zzv false:=eo { P:=prog,n:=9,tab:=[(223,zzu)] } (.seq .leaf (.seq .leaf .leaf)) func187 ⟨za8x,trivial⟩
noncomputable def zzw:FSem:=mkE (ArgT.cons (Ty.leaf .sl) ArgT.nil) (Ty.leaf .bool) fun a=>F.zfr a.1
theorem za8z:Entry prog 190 zzw false:=eo { P:=prog,n:=49,tab:=[] } (.seq .leaf (.seq (.draw [0,1,2,3,4,5,6,7,8,9,10,11,12,13,14,15]) (.seq .leaf .leaf))) func190 trivial
noncomputable def zta:FSem:=mkE (ArgT.cons (Ty.leaf .sl) (ArgT.cons (Ty.leaf (.int .i64)) ArgT.nil)) (Ty.leaf (.int .i64)) fun a=>F.zde a.1 a.2.1
theorem za3j:Entry prog 162 zta false:=eo { P:=prog,n:=19,tab:=[] } (.seq .leaf (.seq (.seq .leaf (.block (.loop [(8,.leaf (.int .i64))] (.seq .leaf (.seq (.cond .leaf .leaf) (.seq (.block (.seq .leaf (.seq .leaf (.cond (.seq .leaf .leaf) .leaf)))) .leaf)))))) (.seq .leaf .leaf))) func162 trivial
noncomputable def zhi:FSem:=mkE (ArgT.cons (Ty.leaf .sl) (ArgT.cons (Ty.leaf (.int .i64)) ArgT.nil)) (Ty.leaf .bool) fun a=>F.zaq a.1 a.2.1
theorem ziv:Entry prog 98 zhi false:=eo { P:=prog,n:=9,tab:=[(162,zta)] } (.seq .leaf (.seq .leaf .leaf)) func98 ⟨za3j,trivial⟩
noncomputable def zzx:FSem:=mkE (ArgT.cons (Ty.leaf .sl) ArgT.nil) (Ty.leaf .bool) fun a=>F.zd4 a.1
theorem za90:Entry prog 191 zzx false:=eo { P:=prog,n:=18,tab:=[(98,zhi)] } (.seq .leaf (.seq (.seq .leaf (.block (.loop [(7,.leaf (.int .i64))] (.seq .leaf (.seq (.cond .leaf .leaf) (.seq (.block (.seq .leaf (.seq .leaf (.cond (.seq .leaf .leaf) .leaf)))) .leaf)))))) (.seq .leaf .leaf))) func191 ⟨ziv,trivial⟩
noncomputable def zzy:FSem:=mkE (ArgT.cons (Ty.leaf (.int .i64)) (ArgT.cons (Ty.leaf .ptr) ArgT.nil)) (Ty.leaf .bool) fun a=>F.zgg a.1 a.2.1
theorem za91:Entry prog 222 zzy false:=eo { P:=prog,n:=11,tab:=[] } (.seq .leaf (.seq .leaf .leaf)) func222 trivial
noncomputable def zzz:FSem:=mkE (ArgT.cons (Ty.leaf .sl) (ArgT.fnc 222 1 ArgT.nil)) (Ty.leaf (.int .i64)) fun a=>F.zc6 a.1 a.2.1
theorem za92:Entry prog 135 zzz false:=eo { P:=prog,n:=19,tab:=[(222,zzy)] } (.seq .leaf (.seq (.seq .leaf (.block (.loop [(8,.leaf (.int .i64))] (.seq .leaf (.seq (.cond .leaf .leaf) (.seq (.block (.seq .leaf (.seq .leaf (.cond (.seq .leaf .leaf) .leaf)))) .leaf)))))) (.seq .leaf .leaf))) func135 ⟨za91,trivial⟩
noncomputable def za00:FSem:=mkE (ArgT.cons (Ty.leaf .sl) (ArgT.fnc 222 1 ArgT.nil)) (Ty.leaf .bool) fun a=>F.zbx a.1 a.2.1
theorem za93:Entry prog 102 za00 false:=eo { P:=prog,n:=9,tab:=[(135,zzz)] } (.seq .leaf (.seq .leaf .leaf)) func102 ⟨za92,trivial⟩
noncomputable def za01:FSem:=mkE (ArgT.cons (Ty.leaf .sl) (ArgT.cons (Ty.leaf (.int .i64)) (ArgT.cons (Ty.leaf (.int .i64)) ArgT.nil))) (Ty.leaf .bool) fun a=>F.zeb a.1 a.2.1 a.2.2.1
theorem za94:Entry prog 186 za01 false:=eo { P:=prog,n:=17,tab:=[(102,za00)] } (.seq .leaf (.seq .leaf .leaf)) func186 ⟨za93,trivial⟩
noncomputable def za02:FSem:=mkE (ArgT.cons tyTConstraint (ArgT.cons (Ty.leaf (.int .i64)) (ArgT.cons (Ty.leaf (.int .i64)) ArgT.nil))) (Ty.leaf .bool) fun a=>F.zfq a.1 a.2.1 a.2.2.1
theorem za95:Entry prog 131 za02 false:=eo { P:=prog,n:=86,tab:=[(109,e_x58),(187,zzv),(190,zzw),(191,zzx),(186,za01)],rtL:=[(10,3),(18,3),(20,7),(27,3),(29,7),(36,3),(39,7),(43,3),(46,7),(49,3),(54,3),(59,7),(63,3),(68,3),(75,3),(78,3),(82,3)],locL:=[3,7] } (.seq .leaf (.seq .leaf (.join [] (.seq .leaf (.cond (.seq .leaf .leaf) .leaf)) (.seq (.seq .leaf (.cond (.seq .leaf .leaf) .leaf)) (.join [] (.seq .leaf (.cond (.seq .leaf .leaf) .leaf)) (.seq (.seq .leaf (.block (.join [(70,.leaf (.bool))] (.seq .leaf (.cond .leaf (.seq .leaf (.cond .leaf (.seq .leaf (.cond .leaf .leaf)))))) (.cond (.seq .leaf .leaf) .leaf)))) (.seq .leaf .leaf))))))) func131 ⟨t_x58,za8y,za8z,za90,za94,trivial⟩
noncomputable def za03:FSem:=mkE (ArgT.cons tyTConstraint (ArgT.cons (Ty.leaf .ptr) (ArgT.cons (Ty.leaf .ptr) ArgT.nil))) (Ty.leaf .bool) fun a=>F.zjd a.1 a.2.1 a.2.2.1
theorem za96:Entry prog 130 za03 false:=eo { P:=prog,n:=9,tab:=[(131,za02)],locL:=[3] } (.seq .leaf (.seq .leaf .leaf)) func130 ⟨za95,trivial⟩
noncomputable def za04:FSem:=mkE (ArgT.cons tyTConstraint (ArgT.cons (Ty.leaf .ptr) ArgT.nil)) (Ty.leaf .bool) fun a=>F.zcd a.1 a.2.1
theorem za97:Entry prog 185 za04 false:=eo { P:=prog,n:=8,tab:=[(130,za03)],locL:=[2],fnL:=[(4,130,2)] } (.seq .leaf (.seq .leaf .leaf)) func185 ⟨za96,trivial⟩
noncomputable def za05:FSem:=mkE (ArgT.cons (Ty.leaf .sl) (ArgT.fnc 185 1 ArgT.nil)) (Ty.leaf (.int .i64)) fun a=>F.zag a.1 a.2.1
theorem za98:Entry prog 221 za05 false:=eo { P:=prog,n:=19,tab:=[(185,za04)] } (.seq .leaf (.seq (.seq .leaf (.block (.loop [(8,.leaf (.int .i64))] (.seq .leaf (.seq (.cond .leaf .leaf) (.seq (.block (.seq .leaf (.seq .leaf (.cond (.seq .leaf .leaf) .leaf)))) .leaf)))))) (.seq .leaf .leaf))) func221 ⟨za97,trivial⟩
noncomputable def za06:FSem:=mkE (ArgT.cons (Ty.leaf .sl) (ArgT.fnc 185 1 ArgT.nil)) (Ty.leaf .bool) fun a=>F.zaf a.1 a.2.1
theorem za99:Entry prog 184 za06 false:=eo { P:=prog,n:=9,tab:=[(221,za05)] } (.seq .leaf (.seq .leaf .leaf)) func184 ⟨za98,trivial⟩
noncomputable def za07:FSem:=mkE (ArgT.cons (Ty.leaf .sl) (ArgT.fnc 130 2 ArgT.nil)) (Ty.leaf .bool) fun a=>F.zbt a.1 a.2.1
theorem za9a:Entry prog 129 za07 false:=eo { P:=prog,n:=9,tab:=[(184,za06)] } (.seq .leaf (.seq .leaf .leaf)) func129 ⟨za99,trivial⟩
end
end Den
end

section
set_option maxRecDepth 100000
namespace Den
open Go Go.Proofs.Tryz
noncomputable section
noncomputable def zm3:FSem:=mkE (ArgT.cons tyTSketch ArgT.nil) (Ty.leaf (.int .i64)) fun a=>F.zdb a.1
theorem zo6:Entry prog 56 zm3 false:=eo { P:=prog,n:=49,tab:=[(113,e_x3),(114,e_x32),(117,e_x39),(121,e_x44),(123,e_x50),(126,e_x57),(129,za07)],locL:=[3,4] } (.seq .leaf (.seq (.seq .leaf (.cond (.seq .leaf .leaf) .leaf)) (.seq (.drawP [0,1,2,3,4,5,6,7,8,9] [3,4]) (.join [(5,.leaf (.bool))] .leaf (.seq (.seq .leaf (.cond (.seq .leaf .leaf) .leaf)) (.seq .leaf .leaf)))))) func56 ⟨t_x3,t_x32,t_x39,t_x44,t_x50,t_x57,za9a,trivial⟩
noncomputable def za08:FSem:=mkE (ArgT.cons (Ty.leaf .sl) (ArgT.cons (Ty.leaf .sl) ArgT.nil)) (Ty.leaf .bool) fun a=>F.zdd a.1 a.2.1
theorem za9b:Entry prog 95 za08 false:=eo { P:=prog,n:=26,tab:=[] } (.seq .leaf (.seq (.seq .leaf (.cond (.seq .leaf .leaf) .leaf)) (.seq (.seq .leaf (.block (.loop [(13,.leaf (.int .i64))] (.seq .leaf (.seq (.cond .leaf .leaf) (.seq (.block (.seq .leaf (.seq (.draw [0,1,2,3,4,5,6,7,8]) (.cond (.seq .leaf .leaf) .leaf)))) .leaf)))))) (.seq .leaf .leaf)))) func95 trivial
noncomputable def za09:FSem:=mkE (ArgT.cons (Ty.leaf .sl) (ArgT.cons (Ty.leaf .sl) ArgT.nil)) (Ty.leaf .bool) fun a=>F.zg7 a.1 a.2.1
theorem za9c:Entry prog 267 za09 false:=eo { P:=prog,n:=26,tab:=[] } (.seq .leaf (.seq (.seq .leaf (.cond (.seq .leaf .leaf) .leaf)) (.seq (.seq .leaf (.block (.loop [(13,.leaf (.int .i64))] (.seq .leaf (.seq (.cond .leaf .leaf) (.seq (.block (.seq .leaf (.seq (.draw [0,1,2,3,4,5,6,7,8]) (.cond (.seq .leaf .leaf) .leaf)))) .leaf)))))) (.seq .leaf .leaf)))) func267 trivial
noncomputable def za0a:FSem:=mkE (ArgT.cons tyTInt (ArgT.cons tyTInt ArgT.nil)) (Ty.leaf .bool) fun a=>F.zi1 a.1 a.2.1
theorem za9d:Entry prog 251 za0a false:=eo { P:=prog,n:=17,tab:=[(267,za09)],rtL:=[(5,2),(7,3),(11,2),(13,3)],locL:=[2,3] } (.seq .leaf (.seq .leaf .leaf)) func251 ⟨za9c,trivial⟩
noncomputable def zpt:ArgT (Sl×Sl×Unit):=(ArgT.cons (Ty.leaf .sl) (ArgT.cons (Ty.leaf .sl) (ArgT.fn 227 ArgT.nil)))
noncomputable def zpw:Ty Bool:=(Ty.leaf .bool)
noncomputable def za7e:ArgT (TExpr×TExpr×Unit):=(ArgT.cons tyTExpr (ArgT.cons tyTExpr ArgT.nil))
noncomputable def za7f:Ty Bool:=(Ty.leaf .bool)
noncomputable def za0b (Q_slices_EqualFunc_api_Expr_api_Expr_api_Expr_api_Expr_formula_Equal:Sl→Sl→(Bool→Hp→Prop)→Hp→Prop):FSem:=mkE za7e za7f fun a=>F.znb Q_slices_EqualFunc_api_Expr_api_Expr_api_Expr_api_Expr_formula_Equal a.1 a.2.1
theorem za9e (Q_slices_EqualFunc_api_Expr_api_Expr_api_Expr_api_Expr_formula_Equal:Sl→Sl→(Bool→Hp→Prop)→Hp→Prop) (h_slices_EqualFunc_api_Expr_api_Expr_api_Expr_api_Expr_formula_Equal:Entry prog 226 (mkE zpt zpw (fun a=>Q_slices_EqualFunc_api_Expr_api_Expr_api_Expr_api_Expr_formula_Equal a.1 a.2.1)) false):Entry prog 227 (za0b Q_slices_EqualFunc_api_Expr_api_Expr_api_Expr_api_Expr_formula_Equal) false:=eo { P:=prog,n:=42,tab:=[(251,za0a),(226,mkE zpt zpw (fun a=>Q_slices_EqualFunc_api_Expr_api_Expr_api_Expr_api_Expr_formula_Equal a.1 a.2.1))],rtL:=[(5,2),(7,3),(11,2),(13,3),(18,2),(19,2),(21,3),(22,3),(27,2),(28,2),(30,3),(31,3),(36,2),(38,3)],locL:=[2,3] } (.seq .leaf (.seq .leaf .leaf)) func227 ⟨za9d,h_slices_EqualFunc_api_Expr_api_Expr_api_Expr_api_Expr_formula_Equal,trivial⟩
noncomputable def za0c:FSem:=mkE zpt zpw fun a=>F.zb0 a.1 a.2.1
noncomputable def za7i (n:Nat):Cfg:={ P:=prog,n:=32,tab:=[(227,(za0b (F.za8 n)))],locL:=[8,9] }
theorem za3y:∃fn,prog.funcs[226]?=some fn∧fn.body.isNone=false∧(fn.name == "runtime.NumGoroutine")=false:=⟨_,func226,rfl,by decide⟩
theorem za42:∀n a K D w,Sub D w→F.za8 n a.1 a.2.1 K D→Calls prog 226 (zpt.up a).toArray w (Post (fun v h=>zpw.dn v fun r=>K r h) D w)
 | 0,_,_,_,_,_,h=>h.elim
 | n+1,a,K,D,w,hs,h=>zkn (C:=za7i n) (F:=fun a=>F.za8 (n+1) a.1 a.2.1) (fn:=f226) (c:=bd f226) (an:=(.seq .leaf (.seq (.seq .leaf (.cond (.seq .leaf .leaf) .leaf)) (.seq (.seq .leaf (.block (.loop [(17,.leaf (.int .i64))] (.seq .leaf (.seq (.cond .leaf .leaf) (.seq (.block (.seq .leaf (.seq .leaf (.seq .leaf (.cond (.seq .leaf .leaf) .leaf))))) .leaf)))))) (.seq .leaf .leaf))))) ⟨(za9e (F.za8 n) (zez za3y (za42 n))),trivial⟩ trivial func226 rfl rfl (fun _=>rfl) (by intro a K D; kernel_rfl) a K D w hs h
theorem za9f:Entry prog 226 za0c false:=zez za3y (fun a K D w hs h=>h.elim fun m h=>za42 m a K D w hs h)
noncomputable def za0d:FSem:=mkE (ArgT.cons tyTConstraint (ArgT.cons tyTConstraint ArgT.nil)) (Ty.leaf .bool) fun a=>F.zfp a.1 a.2.1
theorem za9g:Entry prog 194 za0d false:=eo { P:=prog,n:=38,tab:=[(95,za08),(226,za0c)],rtL:=[(5,2),(7,3),(11,2),(13,3),(18,2),(20,3),(25,2),(27,3),(32,2),(34,3)],locL:=[2,3] } (.seq .leaf (.seq .leaf .leaf)) func194 ⟨za9b,za9f,trivial⟩
noncomputable def za0e:FSem:=mkE (ArgT.cons tyTConstraint (ArgT.cons (Ty.leaf .ptr) ArgT.nil)) (Ty.leaf .bool) fun a=>F.zfx a.1 a.2.1
theorem za9h:Entry prog 193 za0e false:=eo { P:=prog,n:=7,tab:=[(194,za0d)],locL:=[2] } (.seq .leaf (.seq .leaf .leaf)) func193 ⟨za9g,trivial⟩
noncomputable def za0f:FSem:=mkE (ArgT.cons (Ty.leaf .sl) (ArgT.fnc 193 1 ArgT.nil)) (Ty.leaf (.int .i64)) fun a=>F.zb5 a.1 a.2.1
theorem za9i:Entry prog 221 za0f false:=eo { P:=prog,n:=19,tab:=[(193,za0e)] } (.seq .leaf (.seq (.seq .leaf (.block (.loop [(8,.leaf (.int .i64))] (.seq .leaf (.seq (.cond .leaf .leaf) (.seq (.block (.seq .leaf (.seq .leaf (.cond (.seq .leaf .leaf) .leaf)))) .leaf)))))) (.seq .leaf .leaf))) func221 ⟨za9h,trivial⟩
noncomputable def za0g:FSem:=mkE (ArgT.cons (Ty.leaf .sl) (ArgT.fnc 193 1 ArgT.nil)) (Ty.leaf .bool) fun a=>F.za9 a.1 a.2.1
theorem za9j:Entry prog 184 za0g false:=eo { P:=prog,n:=9,tab:=[(221,za0f)] } (.seq .leaf (.seq .leaf .leaf)) func184 ⟨za9i,trivial⟩
noncomputable def ztb:FSem:=mkE (ArgT.cons tyTSketch ArgT.nil) (Ty.leaf .sl) fun a=>F.zfi a.1
theorem za3k:Entry prog 133 ztb false:=eo { P:=prog,n:=52,tab:=[(184,za0g)],rtL:=[(10,1),(17,5),(19,5),(29,5),(34,1)],locL:=[1,5,47] } (.seq .leaf (.seq .leaf (.seq (.seq .leaf (.block (.loop [(3,.leaf (.sl)),(13,.leaf (.int .i64))] (.seq .leaf (.seq (.cond .leaf .leaf) (.seq (.block (.seq .leaf (.seq .leaf (.block (.loop [(3,.leaf (.sl)),(23,.leaf (.int .i64))] (.seq .leaf (.seq (.cond .leaf .leaf) (.join [(3,.leaf (.sl))] (.block (.seq .leaf (.seq .leaf (.seq .leaf (.seq .leaf (.cond .leaf .leaf)))))) .leaf)))))))) .leaf)))))) (.seq .leaf .leaf)))) func133 ⟨za9j,trivial⟩
noncomputable def za0h:FSem:=mkE (ArgT.cons (Ty.leaf .sl) (ArgT.cons (Ty.leaf (.int .i64)) ArgT.nil)) (Ty.leaf .sl) fun a=>F.zbp a.1 a.2.1
theorem za9k:Entry prog 192 za0h false:=eo { P:=prog,n:=27,tab:=[] } (.seq .leaf (.join [] (.seq .leaf (.cond .leaf .leaf)) (.seq (.seq .leaf (.seq .leaf (.cond .leaf .leaf))) (.seq .leaf .leaf)))) func192 trivial
noncomputable def za0i:FSem:=mkE (ArgT.cons (Ty.leaf .sl) ArgT.nil) (Ty.leaf .sl) fun a=>F.zbk a.1
theorem za9l:Entry prog 132 za0i false:=eo { P:=prog,n:=36,tab:=[(192,za0h)] } (.seq .leaf (.seq .leaf (.seq (.seq .leaf (.block (.loop [(3,.leaf (.int .i64)),(11,.leaf (.int .i64))] (.seq .leaf (.seq (.cond .leaf .leaf) (.join [(3,.leaf (.int .i64))] (.block (.seq .leaf (.seq .leaf (.seq .leaf (.cond .leaf .leaf))))) .leaf)))))) (.seq .leaf (.seq (.seq .leaf (.block (.loop [(6,.leaf (.sl)),(27,.leaf (.int .i64))] (.seq .leaf (.seq (.cond .leaf .leaf) (.seq (.block (.seq .leaf .leaf)) .leaf)))))) (.seq .leaf .leaf)))))) func132 ⟨za9k,trivial⟩
noncomputable def ztc:FSem:=mkE (ArgT.cons (Ty.leaf .sl) ArgT.nil) (Ty.leaf .sl) fun a=>F.zdc a.1
theorem za3l:Entry prog 134 ztc false:=eo { P:=prog,n:=8,tab:=[] } (.seq .leaf (.seq (.seq .leaf (.cond (.seq .leaf .leaf) .leaf)) (.seq .leaf .leaf))) func134 trivial
noncomputable def ztd:FSem:=mkE (ArgT.cons tyTSketch ArgT.nil) (Ty.leaf .ptr) fun a=>F.zec a.1
theorem za3m:Entry prog 57 ztd false:=eo { P:=prog,n:=99,tab:=[(133,ztb),(132,za0i),(134,ztc)],rtL:=[(12,1),(20,1),(32,5),(48,7),(51,7),(63,7),(67,7),(72,7)],locL:=[1,5,7,34,61,84,93] } (.seq .leaf (.seq (.draw [0,1,2,3,4,5,6,7,8,9]) (.seq (.seq .leaf (.block (.loop [(23,.leaf (.int .i64))] (.seq .leaf (.seq (.cond .leaf .leaf) (.seq (.block (.seq .leaf (.draw [0,1,2,3,4,5,6,7,8,9,10,11]))) .leaf)))))) (.seq (.seq .leaf (.block (.loop [(44,.leaf (.int .i64))] (.seq .leaf (.seq (.cond .leaf .leaf) (.seq (.block (.seq .leaf (.seq .leaf (.seq (.seq .leaf (.block (.loop [(8,.leaf (.sl)),(54,.leaf (.int .i64))] (.seq .leaf (.seq (.cond .leaf .leaf) (.join [(8,.leaf (.sl))] (.block (.seq .leaf (.seq .leaf (.seq .leaf (.cond .leaf .leaf))))) .leaf)))))) .leaf)))) .leaf)))))) (.seq .leaf .leaf))))) func57 ⟨za3k,za9l,za3l,trivial⟩
noncomputable def za0j:FSem:=mkE (ArgT.cons (Ty.leaf .ptr) ArgT.nil) (Ty.leaf .sl) fun a=>F.y_henneberg_peeler_all a.1
theorem za9m:Entry prog 136 za0j false:=eo { P:=prog,n:=36,tab:=[],locL:=[17,32] } (.seq .leaf (.seq .leaf (.seq (.seq .leaf (.block (.loop [(3,.leaf (.sl)),(12,.leaf (.int .i64))] (.seq .leaf (.seq (.cond .leaf .leaf) (.seq (.block (.seq .leaf .leaf)) .leaf)))))) (.seq (.seq .leaf (.block (.loop [(3,.leaf (.sl)),(26,.leaf (.int .i64))] (.seq .leaf (.seq (.cond .leaf .leaf) (.seq (.block (.seq .leaf .leaf)) .leaf)))))) (.seq .leaf .leaf))))) func136 trivial
noncomputable def za0k:FSem:=mkE (ArgT.cons (Ty.leaf (.int .i64)) (ArgT.cons (Ty.leaf .ptr) ArgT.nil)) (Ty.leaf .bool) fun a=>F.y_henneberg_peeler_remaining_1 a.1 a.2.1
theorem za9n:Entry prog 141 za0k false:=eo { P:=prog,n:=7,tab:=[(98,zhi)] } (.seq .leaf (.seq .leaf .leaf)) func141 ⟨ziv,trivial⟩
noncomputable def za0l:FSem:=mkE (ArgT.cons (Ty.leaf .sl) (ArgT.fnc 141 1 ArgT.nil)) (Ty.leaf (.int .i64)) fun a=>F.zbi a.1 a.2.1
theorem za9o:Entry prog 135 za0l false:=eo { P:=prog,n:=19,tab:=[(141,za0k)] } (.seq .leaf (.seq (.seq .leaf (.block (.loop [(8,.leaf (.int .i64))] (.seq .leaf (.seq (.cond .leaf .leaf) (.seq (.block (.seq .leaf (.seq .leaf (.cond (.seq .leaf .leaf) .leaf)))) .leaf)))))) (.seq .leaf .leaf))) func135 ⟨za9n,trivial⟩
noncomputable def za0m:FSem:=mkE (ArgT.cons (Ty.leaf .sl) (ArgT.fnc 141 1 ArgT.nil)) (Ty.leaf .bool) fun a=>F.zbb a.1 a.2.1
theorem za9p:Entry prog 102 za0m false:=eo { P:=prog,n:=9,tab:=[(135,za0l)] } (.seq .leaf (.seq .leaf .leaf)) func102 ⟨za9o,trivial⟩
noncomputable def za0n:FSem:=mkE (ArgT.cons (Ty.leaf .ptr) (ArgT.cons (Ty.leaf (.int .i64)) (ArgT.cons (Ty.leaf .sl) ArgT.nil))) (Ty.leaf .sl) fun a=>F.y_henneberg_peeler_remaining a.1 a.2.1 a.2.2.1
theorem za9q:Entry prog 60 za0n false:=eo { P:=prog,n:=35,tab:=[(98,zhi),(102,za0m)],locL:=[31] } (.seq .leaf (.seq .leaf (.seq (.seq .leaf (.block (.loop [(7,.leaf (.sl)),(15,.leaf (.int .i64))] (.seq .leaf (.seq (.cond .leaf .leaf) (.join [(7,.leaf (.sl))] (.block (.seq .leaf (.seq .leaf (.cond .leaf .leaf)))) .leaf)))))) (.seq .leaf .leaf)))) func60 ⟨ziv,za9p,trivial⟩
noncomputable def zte:FSem:=mkE (ArgT.cons (Ty.leaf .ptr) (ArgT.cons (Ty.leaf (.int .i64)) ArgT.nil)) (Ty.leaf (.int .i64)) fun a=>F.y_henneberg_peeler_equations a.1 a.2.1
theorem za3n:Entry prog 140 zte false:=eo { P:=prog,n:=21,tab:=[(109,e_x58)],rtL:=[(19,5)],locL:=[5] } (.seq .leaf (.seq .leaf (.seq .leaf .leaf))) func140 ⟨t_x58,trivial⟩
noncomputable def za0o:FSem:=mkE (ArgT.cons (Ty.leaf .ptr) (ArgT.cons (Ty.leaf .sl) ArgT.nil)) (Ty.leaf (.int .i64)) fun a=>F.y_henneberg_peeler_weight a.1 a.2.1
theorem za9r:Entry prog 76 za0o false:=eo { P:=prog,n:=21,tab:=[(140,zte)] } (.seq .leaf (.seq .leaf (.seq (.seq .leaf (.block (.loop [(5,.leaf (.int .i64)),(10,.leaf (.int .i64))] (.seq .leaf (.seq (.cond .leaf .leaf) (.seq (.block (.seq .leaf .leaf)) .leaf)))))) (.seq .leaf .leaf)))) func76 ⟨za3n,trivial⟩
noncomputable def za0p:FSem:=mkE (ArgT.cons tyTConstraint (ArgT.cons (Ty.leaf .sl) (ArgT.cons (Ty.leaf (.int .i64)) ArgT.nil))) (Ty.leaf .bool) fun a=>F.zjn a.1 a.2.1 a.2.2.1
theorem za9s:Entry prog 154 za0p false:=eo { P:=prog,n:=52,tab:=[(162,zta),(98,zhi)],rtL:=[(8,3),(14,3),(22,3),(32,3),(37,3),(44,3)],locL:=[3] } (.seq .leaf (.seq .leaf (.seq (.seq .leaf (.cond (.seq .leaf .leaf) .leaf)) (.seq (.seq .leaf (.block (.join [(16,.leaf (.bool))] (.seq .leaf (.cond .leaf .leaf)) (.cond (.seq .leaf .leaf) (.join [(19,.leaf (.bool))] (.seq .leaf (.cond .leaf .leaf)) (.cond (.seq (.draw [0,1,2,3,4,5,6,7,8]) .leaf) (.seq .leaf (.cond (.seq (.draw [0,1,2,3,4,5,6,7,8,9,10,11,12,13,14,15,16,17,18,19,20]) .leaf) .leaf)))))))) (.seq .leaf .leaf))))) func154 ⟨za3j,ziv,trivial⟩
noncomputable def za0q:FSem:=mkE (ArgT.cons (Ty.leaf (.int .i64)) (ArgT.cons (Ty.leaf .ptr) (ArgT.cons (Ty.leaf .ptr) ArgT.nil))) (Ty.leaf .bool) fun a=>F.y_henneberg_peeler_removable_1 a.1 a.2.1 a.2.2.1
theorem za9t:Entry prog 153 za0q false:=eo { P:=prog,n:=20,tab:=[(154,za0p)] } (.seq .leaf (.seq (.draw [0,1,2,3,4,5,6,7,8,9,10,11,12,13,14,15]) .leaf)) func153 ⟨za9s,trivial⟩
noncomputable def za0r:FSem:=mkE (ArgT.cons (Ty.leaf .sl) (ArgT.fnc 153 2 ArgT.nil)) (Ty.leaf (.int .i64)) fun a=>F.zbj a.1 a.2.1
theorem za9u:Entry prog 135 za0r false:=eo { P:=prog,n:=19,tab:=[(153,za0q)] } (.seq .leaf (.seq (.seq .leaf (.block (.loop [(8,.leaf (.int .i64))] (.seq .leaf (.seq (.cond .leaf .leaf) (.seq (.block (.seq .leaf (.seq .leaf (.cond (.seq .leaf .leaf) .leaf)))) .leaf)))))) (.seq .leaf .leaf))) func135 ⟨za9t,trivial⟩
noncomputable def za0s:FSem:=mkE (ArgT.cons (Ty.leaf .sl) (ArgT.fnc 153 2 ArgT.nil)) (Ty.leaf .bool) fun a=>F.zbc a.1 a.2.1
theorem za9v:Entry prog 102 za0s false:=eo { P:=prog,n:=9,tab:=[(135,za0r)] } (.seq .leaf (.seq .leaf .leaf)) func102 ⟨za9u,trivial⟩
noncomputable def za0t:FSem:=mkE (ArgT.cons tyTConstraint (ArgT.cons (Ty.leaf (.int .i64)) ArgT.nil)) (Ty.leaf .sl) fun a=>F.zil a.1 a.2.1
theorem za9w:Entry prog 207 za0t false:=eo { P:=prog,n:=25,tab:=[],rtL:=[(8,2)],locL:=[2,21] } (.seq .leaf (.seq .leaf (.seq (.seq .leaf (.block (.loop [(5,.leaf (.sl)),(11,.leaf (.int .i64))] (.seq .leaf (.seq (.cond .leaf .leaf) (.join [(5,.leaf (.sl))] (.block (.seq .leaf (.seq .leaf (.cond .leaf .leaf)))) .leaf)))))) (.seq .leaf .leaf)))) func207 trivial
noncomputable def za0u:FSem:=mkE (ArgT.cons (Ty.leaf (.int .i64)) (ArgT.cons (Ty.leaf .ptr) (ArgT.cons (Ty.leaf .ptr) (ArgT.cons (Ty.leaf .ptr) ArgT.nil)))) (Ty.leaf .bool) fun a=>F.zel a.1 a.2.1 a.2.2.1 a.2.2.2.1
theorem za9x:Entry prog 208 za0u false:=eo { P:=prog,n:=16,tab:=[] } (.seq .leaf (.seq (.draw [0,1,2,3,4,5,6,7,8,9,10]) .leaf)) func208 trivial
noncomputable def za0v:FSem:=mkE (ArgT.cons tyTConstraint (ArgT.cons (Ty.leaf .sl) (ArgT.cons (Ty.leaf (.int .i64)) ArgT.nil))) (Ty.leaf (.int .i64)) fun a=>F.zkc a.1 a.2.1 a.2.2.1
theorem za9y:Entry prog 161 za0v false:=eo { P:=prog,n:=77,tab:=[(207,za0t),(208,za0u)] } (.seq .leaf (.seq .leaf (.seq .leaf (.seq (.seq .leaf (.block (.seq .leaf (.cond (.seq (.seq .leaf (.cond (.seq .leaf .leaf) .leaf)) (.seq .leaf .leaf)) (.seq .leaf (.cond (.seq (.seq .leaf (.cond (.seq .leaf .leaf) .leaf)) (.seq .leaf .leaf)) (.seq .leaf (.cond (.seq (.seq .leaf (.cond (.seq .leaf .leaf) .leaf)) (.seq .leaf .leaf)) .leaf)))))))) (.seq (.seq .leaf (.cond (.seq .leaf .leaf) .leaf)) (.seq (.seq .leaf (.block (.join [(44,.leaf (.bool))] (.seq .leaf (.cond .leaf .leaf)) (.cond (.seq .leaf .leaf) (.seq .leaf (.cond (.seq .leaf .leaf) (.join [(49,.leaf (.bool))] (.seq .leaf (.cond .leaf (.seq .leaf (.cond .leaf (.seq .leaf (.cond .leaf .leaf)))))) (.cond (.seq .leaf .leaf) (.seq .leaf (.cond (.seq .leaf (.cond (.seq .leaf .leaf) .leaf)) (.seq .leaf (.cond (.seq .leaf (.cond (.seq .leaf .leaf) .leaf)) (.join [(66,.leaf (.bool))] (.seq .leaf (.cond .leaf .leaf)) (.cond (.seq (.seq .leaf (.cond (.seq .leaf .leaf) .leaf)) (.seq .leaf .leaf)) (.seq .leaf (.cond (.seq (.seq .leaf (.cond (.seq .leaf .leaf) .leaf)) (.seq .leaf .leaf)) .leaf)))))))))))))))) (.seq .leaf .leaf))))))) func161 ⟨za9w,za9x,trivial⟩
noncomputable def za0w:FSem:=mkE (ArgT.cons (Ty.leaf .ptr) (ArgT.cons (Ty.leaf (.int .i64)) (ArgT.cons (Ty.leaf (.int .i64)) ArgT.nil))) (Ty.leaf (.int .i64)) fun a=>F.y_henneberg_peeler_kind a.1 a.2.1 a.2.2.1
theorem za9z:Entry prog 139 za0w false:=eo { P:=prog,n:=20,tab:=[(161,za0v)] } (.seq .leaf (.seq (.draw [0,1,2,3,4,5,6,7,8,9,10,11,12,13]) .leaf)) func139 ⟨za9y,trivial⟩
noncomputable def ztf:FSem:=mkE (ArgT.cons (Ty.leaf .ptr) (ArgT.cons (Ty.leaf (.int .i64)) (ArgT.cons (Ty.leaf .sl) ArgT.nil))) (Ty.leaf .bool) fun a=>F.y_henneberg_peeler_removable a.1 a.2.1 a.2.2.1
theorem za3o:Entry prog 71 ztf false:=eo { P:=prog,n:=60,tab:=[(98,zhi),(60,za0n),(76,za0o),(102,za0s),(139,za0w),(140,zte)] } (.seq .leaf (.seq (.seq .leaf (.cond (.seq .leaf .leaf) .leaf)) (.seq .leaf (.seq (.seq .leaf (.cond (.seq .leaf .leaf) .leaf)) (.seq (.seq .leaf (.cond (.seq .leaf .leaf) .leaf)) (.seq (.seq .leaf (.block (.loop [(37,.leaf (.int .i64))] (.seq .leaf (.seq (.cond .leaf .leaf) (.seq (.block (.seq .leaf (.seq .leaf (.join [(11,.leaf (.bool))] .leaf (.join [(11,.leaf (.bool))] (.seq .leaf (.cond .leaf .leaf)) (.seq .leaf (.cond (.seq .leaf .leaf) .leaf))))))) .leaf)))))) (.seq .leaf .leaf))))))) func71 ⟨ziv,za9q,za9r,za9v,za9z,za3n,trivial⟩
noncomputable def za0x:FSem:=mkE (ArgT.cons (Ty.leaf (.int .i64)) (ArgT.cons (Ty.leaf .ptr) (ArgT.cons (Ty.leaf .ptr) ArgT.nil))) (Ty.leaf .bool) fun a=>F.y_henneberg_peeler_peel_1 a.1 a.2.1 a.2.2.1
theorem zaa0:Entry prog 137 za0x false:=eo { P:=prog,n:=9,tab:=[(71,ztf)] } (.seq .leaf (.seq .leaf .leaf)) func137 ⟨za3o,trivial⟩
noncomputable def za0y:FSem:=mkE (ArgT.cons (Ty.leaf .sl) (ArgT.fnc 137 2 ArgT.nil)) (Ty.leaf (.int .i64)) fun a=>F.zb8 a.1 a.2.1
theorem zaa1:Entry prog 135 za0y false:=eo { P:=prog,n:=19,tab:=[(137,za0x)] } (.seq .leaf (.seq (.seq .leaf (.block (.loop [(8,.leaf (.int .i64))] (.seq .leaf (.seq (.cond .leaf .leaf) (.seq (.block (.seq .leaf (.seq .leaf (.cond (.seq .leaf .leaf) .leaf)))) .leaf)))))) (.seq .leaf .leaf))) func135 ⟨zaa0,trivial⟩
noncomputable def ztg:FSem:=mkE (ArgT.cons (Ty.leaf (.int .i64)) (ArgT.cons (Ty.leaf .ptr) ArgT.nil)) (Ty.leaf .bool) fun a=>F.y_henneberg_peeler_peel_2 a.1 a.2.1
theorem za3p:Entry prog 138 ztg false:=eo { P:=prog,n:=7,tab:=[(98,zhi)] } (.seq .leaf (.seq .leaf .leaf)) func138 ⟨ziv,trivial⟩
noncomputable def za0z:FSem:=mkE (ArgT.cons (Ty.leaf .sl) (ArgT.fnc 138 1 ArgT.nil)) (Ty.leaf (.int .i64)) fun a=>F.zbu a.1 a.2.1
theorem zaa2:Entry prog 135 za0z false:=eo { P:=prog,n:=19,tab:=[(138,ztg)] } (.seq .leaf (.seq (.seq .leaf (.block (.loop [(8,.leaf (.int .i64))] (.seq .leaf (.seq (.cond .leaf .leaf) (.seq (.block (.seq .leaf (.seq .leaf (.cond (.seq .leaf .leaf) .leaf)))) .leaf)))))) (.seq .leaf .leaf))) func135 ⟨za3p,trivial⟩
noncomputable def za10:FSem:=mkM (ArgT.cons (Ty.leaf .sl) (ArgT.fnc 138 1 ArgT.nil)) (Ty.leaf .sl) fun a=>F.zb6 a.1 a.2.1
theorem zaa3:Entry prog 100 za10 true:=eoM { P:=prog,n:=42,tab:=[(135,za0z),(138,ztg)] } (.seq .leaf (.seq .leaf (.seq (.seq .leaf (.cond (.seq .leaf .leaf) .leaf)) (.seq (.seq .leaf (.block (.loop [(5,.leaf (.int .i64)),(6,.leaf (.int .i64))] (.seq (.seq .leaf (.cond .leaf .leaf)) (.join [(5,.leaf (.int .i64))] (.block (.seq .leaf (.seq .leaf (.cond (.seq .leaf .leaf) .leaf)))) .leaf))))) (.seq .leaf (.seq .leaf .leaf)))))) func100 ⟨zaa2,za3p,trivial⟩
noncomputable def za11:FSem:=mkE (ArgT.cons (Ty.leaf .ptr) ArgT.nil) (Ty.tup (.cons (Ty.leaf .sl) (.cons (Ty.leaf .sl) .nil)) (fun x=>(x.1,x.2,())) (fun y=>(y.1,y.2.1)) (fun _=>rfl) (fun _=>rfl)) fun a=>F.y_henneberg_peeler_peel a.1
theorem zaa4:Entry prog 58 za11 false:=eo { P:=prog,n:=27,tab:=[(136,za0j),(135,za0y),(100,za10)],mutL:=[100],locL:=[19] } (.seq .leaf (.seq .leaf (.seq (.block (.loop [(4,.leaf (.ptr))] (.block (.seq .leaf (.seq (.seq .leaf (.cond .leaf .leaf)) (.draw [0,1,3,2,4,5,6,7,8])))))) (.seq .leaf (.seq .leaf .leaf))))) func58 ⟨za9m,zaa1,zaa3,trivial⟩
noncomputable def zth:FSem:=mkE (ArgT.cons tyTSketch ArgT.nil) (Ty.tup (.cons (Ty.leaf .sl) (.cons (Ty.leaf .sl) .nil)) (fun x=>(x.1,x.2,())) (fun y=>(y.1,y.2.1)) (fun _=>rfl) (fun _=>rfl)) fun a=>F.zfe a.1
theorem za3q:Entry prog 19 zth false:=eo { P:=prog,n:=12,tab:=[(56,zm3),(57,ztd),(58,za11)],locL:=[1] } (.seq .leaf (.seq (.seq .leaf (.cond (.seq .leaf .leaf) .leaf)) (.seq .leaf .leaf))) func19 ⟨zo6,za3m,zaa4,trivial⟩
end
end Den
end

section
set_option maxRecDepth 100000
namespace Den
open Go Go.Proofs.Tryz
noncomputable section
noncomputable def zgr:FSem:=mkE (ArgT.cons (Ty.leaf .sl) ArgT.nil) (Ty.leaf .sl) fun a=>F.zbf a.1
theorem zhr:Entry prog 196 zgr false:=eo { P:=prog,n:=21,tab:=[] } (.seq .leaf (.seq (.block (.loop [(0,.leaf (.sl))] (.join [] (.seq .leaf (.cond .leaf .leaf)) (.block .leaf)))) (.seq .leaf .leaf))) func196 trivial
noncomputable def za12:FSem:=mkE (ArgT.cons tyTInt ArgT.nil) (Ty.leaf .bool) fun a=>F.zhl a.1
theorem zaa5:Entry prog 144 za12 false:=eo { P:=prog,n:=22,tab:=[(196,zgr)],rtL:=[(3,1),(7,1),(12,1),(16,1)],locL:=[1] } (.seq .leaf (.seq (.draw [0,1,4,5,6,2,3,7,8,9,10,11,12,13,14,15,16,17,18,19]) .leaf)) func144 ⟨zhr,trivial⟩
noncomputable def zq5:FSem:=mkE (ArgT.cons (Ty.leaf .bool) (ArgT.cons (Ty.leaf .sl) ArgT.nil)) tyTInt fun a=>F.zda a.1 a.2.1
theorem zv0:Entry prog 199 zq5 false:=eo { P:=prog,n:=15,tab:=[(196,zgr)],locL:=[4] } (.seq .leaf (.seq .leaf (.seq .leaf .leaf))) func199 ⟨zhr,trivial⟩
noncomputable def za13:FSem:=mkE (ArgT.cons tyTInt ArgT.nil) tyTInt fun a=>F.zkg a.1
theorem zaa6:Entry prog 197 za13 false:=eo { P:=prog,n:=8,tab:=[(199,zq5)],rtL:=[(3,1),(5,1)],locL:=[1,2] } (.seq .leaf (.seq .leaf .leaf)) func197 ⟨zv0,trivial⟩
noncomputable def za14:FSem:=mkE (ArgT.cons tyTInt ArgT.nil) (Ty.leaf (.int .i64)) fun a=>F.zkh a.1
theorem zaa7:Entry prog 145 za14 false:=eo { P:=prog,n:=11,tab:=[(197,za13)],rtL:=[(5,1),(9,1)],locL:=[1] } (.seq .leaf (.seq .leaf (.seq (.seq .leaf (.cond (.seq .leaf .leaf) .leaf)) (.seq (.seq .leaf (.cond (.seq .leaf .leaf) .leaf)) (.seq .leaf .leaf))))) func145 ⟨zaa6,trivial⟩
noncomputable def zti:FSem:=mkE (ArgT.cons (Ty.leaf .sl) (ArgT.cons (Ty.leaf .sl) ArgT.nil)) (Ty.leaf (.int .i64)) fun a=>F.zer a.1 a.2.1
theorem za3r:Entry prog 230 zti false:=eo { P:=prog,n:=41,tab:=[] } (.seq .leaf (.seq (.seq .leaf (.cond (.seq (.seq .leaf (.cond (.seq .leaf .leaf) .leaf)) (.seq .leaf .leaf)) .leaf)) (.seq (.seq .leaf (.block (.loop [(5,.leaf (.int .i64))] (.seq (.seq .leaf (.cond .leaf .leaf)) (.seq (.block (.seq (.seq (.draw [0,1,2,3,4,5,6,7,8]) (.cond (.seq .leaf .leaf) .leaf)) (.seq (.draw [0,1,2,3,4,5,6,7,8]) (.cond (.seq .leaf .leaf) .leaf)))) .leaf))))) (.seq .leaf .leaf)))) func230 trivial
noncomputable def za15:FSem:=mkE (ArgT.cons (Ty.leaf .sl) ArgT.nil) (Ty.leaf (.int .u64)) fun a=>F.zgd a.1
theorem zaa8:Entry prog 231 za15 false:=eo { P:=prog,n:=21,tab:=[] } (.seq .leaf (.seq .leaf (.seq (.seq .leaf (.block (.loop [(3,.leaf (.int .u64)),(4,.leaf (.int .i64))] (.seq (.seq .leaf (.cond .leaf .leaf)) (.seq (.block .leaf) .leaf))))) (.seq .leaf .leaf)))) func231 trivial
noncomputable def ztj:FSem:=mkE (ArgT.cons (Ty.leaf (.int .u64)) ArgT.nil) (Ty.leaf .sl) fun a=>F.zds a.1
theorem za3s:Entry prog 206 ztj false:=eo { P:=prog,n:=10,tab:=[(196,zgr)] } (.seq .leaf (.seq .leaf .leaf)) func206 ⟨zhr,trivial⟩
noncomputable def za16:FSem:=mkE (ArgT.cons (Ty.leaf .sl) (ArgT.cons (Ty.leaf (.int .u32)) ArgT.nil)) (Ty.tup (.cons (Ty.leaf .sl) (.cons (Ty.leaf (.int .u32)) .nil)) (fun x=>(x.1,x.2,())) (fun y=>(y.1,y.2.1)) (fun _=>rfl) (fun _=>rfl)) fun a=>F.zn1 a.1 a.2.1
theorem zaa9:Entry prog 232 za16 false:=eo { P:=prog,n:=43,tab:=[(196,zgr)] } (.seq .leaf (.seq .leaf (.seq .leaf (.seq (.seq .leaf (.block (.loop [(7,.leaf (.int .u64)),(8,.leaf (.int .i64))] (.seq (.seq .leaf (.cond .leaf .leaf)) (.seq (.block (.seq .leaf (.seq .leaf .leaf))) .leaf))))) (.seq .leaf .leaf))))) func232 ⟨zhr,trivial⟩
noncomputable def za17:FSem:=mkE (ArgT.cons (Ty.leaf .sl) ArgT.nil) (Ty.leaf (.int .i64)) fun a=>F.zh1 a.1
theorem zaaa:Entry prog 233 za17 false:=eo { P:=prog,n:=26,tab:=[] } (.seq .leaf (.seq (.seq .leaf (.cond (.seq .leaf .leaf) .leaf)) (.seq .leaf (.seq (.seq .leaf (.block (.loop [(3,.leaf (.int .i64)),(4,.leaf (.int .u32))] (.seq (.seq .leaf (.cond .leaf .leaf)) (.seq (.block .leaf) .leaf))))) (.seq .leaf .leaf))))) func233 trivial
noncomputable def za18:FSem:=mkE (ArgT.cons (Ty.leaf .sl) (ArgT.cons (Ty.leaf (.int .i64)) ArgT.nil)) (Ty.leaf .sl) fun a=>F.zhy a.1 a.2.1
theorem zaab:Entry prog 234 za18 false:=eo { P:=prog,n:=43,tab:=[] } (.seq .leaf (.seq .leaf (.seq (.seq .leaf (.block (.loop [(6,.leaf (.int .i64))] (.seq (.seq .leaf (.cond .leaf .leaf)) (.seq (.block (.seq .leaf (.seq .leaf .leaf))) .leaf))))) (.seq .leaf .leaf)))) func234 trivial
noncomputable def za19:FSem:=mkE (ArgT.cons (Ty.leaf .sl) (ArgT.cons (Ty.leaf .sl) ArgT.nil)) (Ty.leaf .sl) fun a=>F.zhm a.1 a.2.1
theorem zaac:Entry prog 252 za19 false:=eo { P:=prog,n:=67,tab:=[(196,zgr)] } (.seq .leaf (.seq .leaf (.seq (.seq .leaf (.block (.loop [(6,.leaf (.int .i64))] (.seq (.seq .leaf (.cond .leaf .leaf)) (.seq (.block (.seq .leaf (.seq (.seq .leaf (.block (.loop [(7,.leaf (.int .u64)),(8,.leaf (.int .i64))] (.seq (.seq .leaf (.cond .leaf .leaf)) (.seq (.block (.seq (.draw [0,1,2,3,4,5,6,7,8,9,10,11,12,13,14,15,16,17,18,19,20,21]) (.seq .leaf .leaf))) .leaf))))) .leaf))) .leaf))))) (.seq .leaf .leaf)))) func252 ⟨zhr,trivial⟩
noncomputable def ztk:FSem:=mkE (ArgT.cons (Ty.leaf .sl) (ArgT.cons (Ty.leaf .sl) ArgT.nil)) (Ty.leaf .sl) fun a=>F.zgc a.1 a.2.1
theorem za3t:Entry prog 236 ztk false:=eo { P:=prog,n:=48,tab:=[(196,zgr)] } (.seq .leaf (.seq .leaf (.seq .leaf (.seq (.seq .leaf (.block (.loop [(6,.leaf (.int .u64)),(7,.leaf (.int .i64))] (.seq (.seq .leaf (.cond .leaf .leaf)) (.seq (.block (.seq .leaf (.join [(8,.leaf (.int .u64))] (.seq .leaf (.cond .leaf .leaf)) (.seq .leaf (.seq .leaf .leaf))))) .leaf))))) (.seq .leaf .leaf))))) func236 ⟨zhr,trivial⟩
noncomputable def za1a:FSem:=mkE (ArgT.cons (Ty.leaf .sl) (ArgT.cons (Ty.leaf .sl) ArgT.nil)) (Ty.tup (.cons (Ty.leaf (.int .u32)) (.cons (Ty.leaf .sl) .nil)) (fun x=>(x.1,x.2,())) (fun y=>(y.1,y.2.1)) (fun _=>rfl) (fun _=>rfl)) fun a=>F.zjo a.1 a.2.1
theorem zaad:Entry prog 235 za1a false:=eo { P:=prog,n:=51,tab:=[(252,za19),(196,zgr),(230,zti),(236,ztk)] } (.seq .leaf (.seq .leaf (.seq (.draw [0,1,2,3,4,5,6,7,8,9,10,11,12,13,14,15,16,17,18,19,20]) (.join [(7,.leaf (.int .u64))] (.seq .leaf (.cond .leaf .leaf)) (.seq .leaf (.seq (.block (.loop [(7,.leaf (.int .u64)),(8,.leaf (.sl))] (.seq (.seq .leaf (.cond .leaf .leaf)) (.block (.seq .leaf .leaf))))) (.seq .leaf .leaf))))))) func235 ⟨zaac,zhr,za3r,za3t,trivial⟩
noncomputable def za1b:FSem:=mkE (ArgT.cons (Ty.leaf .sl) (ArgT.cons (Ty.leaf (.int .i64)) ArgT.nil)) (Ty.leaf .sl) fun a=>F.zki a.1 a.2.1
theorem zaae:Entry prog 237 za1b false:=eo { P:=prog,n:=45,tab:=[(196,zgr)] } (.seq .leaf (.seq .leaf (.seq (.seq .leaf (.block (.loop [(6,.leaf (.int .i64))] (.seq (.seq .leaf (.cond .leaf .leaf)) (.seq (.block (.seq .leaf (.join [(7,.leaf (.int .u64))] (.seq .leaf (.cond .leaf .leaf)) .leaf))) .leaf))))) (.seq .leaf .leaf)))) func237 ⟨zhr,trivial⟩
noncomputable def za1c:FSem:=mkE (ArgT.cons (Ty.leaf .sl) (ArgT.cons (Ty.leaf .sl) ArgT.nil)) (Ty.tup (.cons (Ty.leaf .sl) (.cons (Ty.leaf .sl) .nil)) (fun x=>(x.1,x.2,())) (fun y=>(y.1,y.2.1)) (fun _=>rfl) (fun _=>rfl)) fun a=>F.zh0 a.1 a.2.1
theorem zaaf:Entry prog 198 za1c false:=eo { P:=prog,n:=128,tab:=[(230,zti),(231,za15),(206,ztj),(232,za16),(233,za17),(234,za18),(196,zgr),(235,za1a),(236,ztk),(237,za1b)] } (.seq .leaf (.seq (.seq .leaf (.cond (.seq .leaf .leaf) .leaf)) (.seq (.seq .leaf (.cond (.seq .leaf (.seq (.draw [0,1,2,4,5,6,3,7,8,9]) .leaf)) .leaf)) (.seq (.seq .leaf (.cond (.seq .leaf (.seq .leaf .leaf)) .leaf)) (.seq .leaf (.seq .leaf (.seq .leaf (.seq (.seq .leaf (.block (.loop [(14,.leaf (.int .i64))] (.seq (.seq .leaf (.cond .leaf .leaf)) (.seq (.block (.seq .leaf (.seq .leaf (.seq .leaf (.seq .leaf (.seq .leaf (.block (.loop [(19,.leaf (.int .i64))] (.seq (.seq .leaf (.cond .leaf .leaf)) (.join [] (.block (.seq .leaf (.seq .leaf (.cond .leaf .leaf)))) .leaf)))))))))) .leaf))))) (.seq .leaf .leaf))))))))) func198 ⟨za3r,zaa8,za3s,zaa9,zaaa,zaab,zhr,zaad,za3t,zaae,trivial⟩
noncomputable def za1d:FSem:=mkE (ArgT.cons tyTInt (ArgT.cons tyTInt ArgT.nil)) tyTInt fun a=>F.zll a.1 a.2.1
theorem zaag:Entry prog 147 za1d false:=eo { P:=prog,n:=28,tab:=[(196,zgr),(198,za1c),(199,zq5)],rtL:=[(9,2),(12,3)],locL:=[2,3,4] } (.seq .leaf (.seq (.draw [0,1,3,4,2,5,6,7]) (.seq (.block (.loop [(5,.leaf (.sl)),(6,.leaf (.sl))] (.seq (.seq .leaf (.cond .leaf .leaf)) (.block (.seq .leaf .leaf))))) (.seq .leaf .leaf)))) func147 ⟨zhr,zaaf,zv0,trivial⟩
noncomputable def za1e:FSem:=mkE (ArgT.cons tyTInt ArgT.nil) (Ty.leaf .bool) fun a=>F.zlm a.1
theorem zaah:Entry prog 146 za1e false:=eo { P:=prog,n:=19,tab:=[],rtL:=[(3,1),(8,1),(15,1)],locL:=[1] } (.seq .leaf (.seq .leaf .leaf)) func146 trivial
noncomputable def za1f:FSem:=mkE (ArgT.cons tyTRat ArgT.nil) (Ty.leaf .bool) fun a=>F.zhn a.1
theorem zaai:Entry prog 64 za1f false:=eo { P:=prog,n:=25,tab:=[(144,za12),(145,za14),(147,za1d),(146,za1e)],rtL:=[(3,1),(7,1),(12,1),(18,1),(20,1)],locL:=[1] } (.seq .leaf (.seq .leaf .leaf)) func64 ⟨zaa5,zaa7,zaag,zaah,trivial⟩
noncomputable def za1g:FSem:=mkE (ArgT.cons (Ty.leaf (.int .i64)) ArgT.nil) tyTInt fun a=>F.zg6 a.1
theorem zaaj:Entry prog 160 za1g false:=eo { P:=prog,n:=14,tab:=[(206,ztj),(199,zq5)],locL:=[2] } (.seq .leaf (.seq (.seq .leaf (.cond (.seq .leaf .leaf) .leaf)) (.seq .leaf .leaf))) func160 ⟨za3s,zv0,trivial⟩
noncomputable def za1h:FSem:=mkE (ArgT.cons (Ty.leaf (.int .i64)) ArgT.nil) tyTRat fun a=>F.zhz a.1
theorem zaak:Entry prog 86 za1h false:=eo { P:=prog,n:=7,tab:=[(160,za1g)],locL:=[2] } (.seq .leaf (.seq .leaf .leaf)) func86 ⟨zaaj,trivial⟩
end
end Den
end

section
set_option maxRecDepth 100000
namespace Den
open Go Go.Proofs.Tryz
noncomputable section
noncomputable def za1i:FSem:=mkE (ArgT.cons tyTRat (ArgT.cons (Ty.leaf (.int .i64)) ArgT.nil)) (Ty.leaf .bool) fun a=>F.zic a.1 a.2.1
theorem zaal:Entry prog 111 za1i false:=eo { P:=prog,n:=23,tab:=[(64,za1f)],rtL:=[(5,2),(6,2),(12,2),(13,2)],locL:=[2] } (.seq .leaf (.seq .leaf .leaf)) func111 ⟨zaai,trivial⟩
noncomputable def zsq:ArgT (TExpr×Int×Unit):=(ArgT.cons tyTExpr (ArgT.cons (Ty.leaf (.int .i64)) ArgT.nil))
noncomputable def zst:Ty Int:=(Ty.leaf (.int .i64))
noncomputable def za1j:FSem:=mkE zsq zst fun a=>F.zkj a.1 a.2.1
noncomputable def za7j (n:Nat):Cfg:={ P:=prog,n:=59,tab:=[(112,mkE zsq zst (fun a=>F.zf8 n a.1 a.2.1))],rtL:=[(10,2),(16,2),(22,2),(23,2),(24,2),(30,2),(31,2),(32,2),(38,2),(49,2)],locL:=[2] }
theorem za3z:∃fn,prog.funcs[112]?=some fn∧fn.body.isNone=false∧(fn.name == "runtime.NumGoroutine")=false:=⟨_,func112,rfl,by decide⟩
theorem za43:∀n a K D w,Sub D w→F.zf8 n a.1 a.2.1 K D→Calls prog 112 (zsq.up a).toArray w (Post (fun v h=>zst.dn v fun r=>K r h) D w)
 | 0,_,_,_,_,_,h=>h.elim
 | n+1,a,K,D,w,hs,h=>zkn (C:=za7j n) (F:=fun a=>F.zf8 (n+1) a.1 a.2.1) (fn:=f112) (c:=bd f112) (an:=(.seq .leaf (.join [] (.seq .leaf (.cond (.seq .leaf .leaf) .leaf)) (.seq .leaf (.seq (.seq .leaf (.block (.loop [(5,.leaf (.int .i64)),(6,.leaf (.int .i64))] (.join [] (.seq .leaf (.cond .leaf .leaf)) (.seq (.block .leaf) .leaf))))) (.seq .leaf .leaf)))))) ⟨(zez za3z (za43 n)),trivial⟩ trivial func112 rfl rfl (fun _=>rfl) (by intro a K D; kernel_rfl) a K D w hs h
theorem zaam:Entry prog 112 za1j false:=zez za3z (fun a K D w hs h=>h.elim fun m h=>za43 m a K D w hs h)
noncomputable def za1k:FSem:=mkE (ArgT.cons tyTSketch ArgT.nil) (Ty.leaf .bool) fun a=>F.zjp a.1
theorem zaan:Entry prog 55 za1k false:=eo { P:=prog,n:=139,tab:=[(111,za1i),(112,za1j)],rtL:=[(9,1),(14,1),(20,1),(26,1),(32,1),(38,1),(44,1),(50,1),(59,1),(69,1),(75,1),(84,1),(90,1),(98,1),(104,1),(109,7),(114,7),(120,7),(126,7),(132,7)],locL:=[1,7] } (.seq .leaf (.join [] (.seq .leaf (.cond (.seq .leaf .leaf) .leaf)) (.seq (.seq .leaf (.block (.loop [(3,.leaf (.int .i64))] (.seq (.seq .leaf (.cond .leaf .leaf)) (.join [] (.block (.seq .leaf (.cond (.seq .leaf .leaf) .leaf))) .leaf))))) (.seq (.seq .leaf (.block (.loop [(4,.leaf (.int .i64))] (.seq (.seq .leaf (.cond .leaf .leaf)) (.seq (.block (.seq .leaf (.cond (.seq .leaf .leaf) .leaf))) .leaf))))) (.seq (.seq .leaf (.block (.loop [(5,.leaf (.int .i64))] (.seq (.seq .leaf (.cond .leaf .leaf)) (.seq (.block (.seq .leaf (.cond (.seq .leaf .leaf) .leaf))) .leaf))))) (.seq (.seq .leaf (.block (.loop [(6,.leaf (.int .i64))] (.seq (.seq .leaf (.cond .leaf .leaf)) (.seq (.block (.seq .leaf (.join [] (.seq .leaf (.cond (.seq .leaf .leaf) .leaf)) (.seq .leaf (.block (.loop [(8,.leaf (.int .i64))] (.seq (.seq .leaf (.cond .leaf .leaf)) (.seq (.block (.seq .leaf (.cond (.seq .leaf .leaf) .leaf))) .leaf)))))))) .leaf))))) (.seq .leaf .leaf))))))) func55 ⟨zaal,zaam,trivial⟩
end
end Den
end

section
set_option maxRecDepth 100000
namespace Den
open Go Go.Proofs.Tryz
noncomputable section
noncomputable def za1l:FSem:=mkE (ArgT.cons (Ty.leaf .ptr) (ArgT.cons (Ty.leaf (.int .i64)) ArgT.nil)) (Ty.leaf .bool) fun a=>F.y_henneberg_peeler_exists a.1 a.2.1
theorem zaao:Entry prog 70 za1l false:=eo { P:=prog,n:=32,tab:=[] } (.seq .leaf (.seq .leaf .leaf)) func70 trivial
noncomputable def za1m:FSem:=mkE (ArgT.cons tyTSketch (ArgT.cons (Ty.leaf (.int .i64)) (ArgT.cons (Ty.leaf .sl) ArgT.nil))) (Ty.leaf .bool) fun a=>F.zen a.1 a.2.1 a.2.2.1
theorem zaap:Entry prog 28 za1m false:=eo { P:=prog,n:=22,tab:=[(56,zm3),(57,ztd),(70,za1l),(71,ztf)],locL:=[3] } (.seq .leaf (.seq (.seq .leaf (.cond (.seq .leaf .leaf) .leaf)) (.seq .leaf (.seq .leaf .leaf)))) func28 ⟨zo6,za3m,zaao,za3o,trivial⟩
noncomputable def za1n:FSem:=mkE (ArgT.cons tyTSketch ArgT.nil) (Ty.leaf .sl) fun a=>F.zig a.1
theorem zaaq:Entry prog 107 za1n false:=eo { P:=prog,n:=20,tab:=[],rtL:=[(6,1),(14,5)],locL:=[1,5,16] } (.seq .leaf (.seq .leaf (.seq (.seq .leaf (.block (.loop [(3,.leaf (.sl)),(9,.leaf (.int .i64))] (.seq .leaf (.seq (.cond .leaf .leaf) (.seq (.block (.seq .leaf .leaf)) .leaf)))))) (.seq .leaf .leaf)))) func107 trivial
noncomputable def za1o:FSem:=mkE (ArgT.cons (Ty.leaf .sl) ArgT.nil) (Ty.leaf .sl) fun a=>F.zbo a.1
theorem zaar:Entry prog 167 za1o false:=eo { P:=prog,n:=8,tab:=[] } (.seq .leaf (.seq (.seq .leaf (.cond (.seq .leaf .leaf) .leaf)) (.seq .leaf .leaf))) func167 trivial
noncomputable def za1p:FSem:=mkE (ArgT.cons tyTSketch ArgT.nil) (Ty.leaf .sl) fun a=>F.zmn a.1
theorem zaas:Entry prog 106 za1p false:=eo { P:=prog,n:=9,tab:=[(167,za1o),(133,ztb)],rtL:=[(3,1)],locL:=[1] } (.seq .leaf (.seq (.draw [0,1,3,2,4,5,6]) .leaf)) func106 ⟨zaar,za3k,trivial⟩
noncomputable def za1q:FSem:=mkE (ArgT.cons tyTConstraint (ArgT.cons (Ty.leaf .sl) ArgT.nil)) (Ty.leaf .sl) fun a=>F.zka a.1 a.2.1
theorem zaat:Entry prog 108 za1q false:=eo { P:=prog,n:=38,tab:=[(134,ztc)],rtL:=[(8,2),(11,2),(23,2)],locL:=[2,21,34] } (.seq .leaf (.seq .leaf (.seq (.seq .leaf (.block (.loop [(5,.leaf (.sl)),(14,.leaf (.int .i64))] (.seq .leaf (.seq (.cond .leaf .leaf) (.join [(5,.leaf (.sl))] (.block (.seq .leaf (.seq .leaf (.seq .leaf (.block (.join [(25,.leaf (.bool))] (.seq .leaf (.cond .leaf (.seq .leaf (.cond .leaf .leaf)))) (.cond .leaf .leaf))))))) .leaf)))))) (.seq .leaf .leaf)))) func108 ⟨za3l,trivial⟩
noncomputable def za1r:FSem:=mkE (ArgT.cons (Ty.leaf (.int .i64)) (ArgT.cons (Ty.leaf .ptr) ArgT.nil)) (Ty.leaf .bool) fun a=>F.zk8 a.1 a.2.1
theorem zaau:Entry prog 156 za1r false:=eo { P:=prog,n:=8,tab:=[(98,zhi)] } (.seq .leaf (.seq .leaf .leaf)) func156 ⟨ziv,trivial⟩
noncomputable def za1s:FSem:=mkE (ArgT.cons (Ty.leaf .sl) (ArgT.fnc 156 1 ArgT.nil)) (Ty.leaf (.int .i64)) fun a=>F.zck a.1 a.2.1
theorem zaav:Entry prog 135 za1s false:=eo { P:=prog,n:=19,tab:=[(156,za1r)] } (.seq .leaf (.seq (.seq .leaf (.block (.loop [(8,.leaf (.int .i64))] (.seq .leaf (.seq (.cond .leaf .leaf) (.seq (.block (.seq .leaf (.seq .leaf (.cond (.seq .leaf .leaf) .leaf)))) .leaf)))))) (.seq .leaf .leaf))) func135 ⟨zaau,trivial⟩
noncomputable def za1t:FSem:=mkE (ArgT.cons (Ty.leaf .sl) (ArgT.fnc 156 1 ArgT.nil)) (Ty.leaf .bool) fun a=>F.zcg a.1 a.2.1
theorem zaaw:Entry prog 102 za1t false:=eo { P:=prog,n:=9,tab:=[(135,za1s)] } (.seq .leaf (.seq .leaf .leaf)) func102 ⟨zaav,trivial⟩
noncomputable def za1u:FSem:=mkE (ArgT.cons tyTSketch (ArgT.cons (Ty.leaf .sl) ArgT.nil)) (Ty.leaf .sl) fun a=>F.zjh a.1 a.2.1
theorem zaax:Entry prog 77 za1u false:=eo { P:=prog,n:=33,tab:=[(107,za1n),(106,za1p),(108,za1q),(102,za1t)],locL:=[2,8,29] } (.seq .leaf (.seq .leaf (.seq .leaf (.seq (.seq .leaf (.block (.loop [(5,.leaf (.sl)),(15,.leaf (.int .i64))] (.seq .leaf (.seq (.cond .leaf .leaf) (.join [(5,.leaf (.sl))] (.block (.seq .leaf (.seq .leaf (.seq .leaf (.cond .leaf .leaf))))) .leaf)))))) (.seq .leaf .leaf))))) func77 ⟨zaaq,zaas,zaat,zaaw,trivial⟩
noncomputable def ztl:FSem:=mkE (ArgT.cons tyTSketch ArgT.nil) (Ty.tup (.cons (Ty.leaf .sl) (.cons (Ty.leaf .sl) .nil)) (fun x=>(x.1,x.2,())) (fun y=>(y.1,y.2.1)) (fun _=>rfl) (fun _=>rfl)) fun a=>F.zjx a.1
theorem za3u:Entry prog 34 ztl false:=eo { P:=prog,n:=21,tab:=[(56,zm3),(19,zth),(77,za1u)],locL:=[1] } (.seq .leaf (.seq (.seq .leaf (.cond (.seq .leaf .leaf) .leaf)) (.seq .leaf (.seq (.seq .leaf (.cond (.seq .leaf .leaf) .leaf)) (.seq .leaf .leaf))))) func34 ⟨zo6,za3q,zaax,trivial⟩
noncomputable def za1v:FSem:=mkE (ArgT.cons (Ty.leaf .sl) (ArgT.cons (Ty.leaf .sl) ArgT.nil)) (Ty.leaf .bool) fun a=>F.zn2 a.1 a.2.1
theorem zaay:Entry prog 81 za1v false:=eo { P:=prog,n:=26,tab:=[] } (.seq .leaf (.seq (.seq .leaf (.cond (.seq .leaf .leaf) .leaf)) (.seq (.seq .leaf (.block (.loop [(5,.leaf (.int .i64))] (.seq (.seq .leaf (.cond .leaf .leaf)) (.seq (.block (.seq (.draw [0,1,2,3,4,5,6,7,8]) (.cond (.seq .leaf .leaf) .leaf))) .leaf))))) (.seq .leaf .leaf)))) func81 trivial
noncomputable def zns:FSem:=mkE (ArgT.cons (Ty.leaf .sl) (ArgT.cons (Ty.leaf .sl) ArgT.nil)) (Ty.leaf .bool) fun a=>F.zhb a.1 a.2.1
theorem zuz:Entry prog 36 zns false:=eo { P:=prog,n:=8,tab:=[(81,za1v)] } (.seq .leaf (.seq .leaf .leaf)) func36 ⟨zaay,trivial⟩
noncomputable def za1w:FSem:=mkE (ArgT.cons tyTSketch ArgT.nil) (Ty.leaf .bool) fun a=>F.zeu a.1
theorem zaaz:Entry prog 37 za1w false:=eo { P:=prog,n:=16,tab:=[(56,zm3),(19,zth)],locL:=[1] } (.seq .leaf (.seq (.seq .leaf (.cond (.seq .leaf .leaf) .leaf)) (.seq .leaf (.seq .leaf .leaf)))) func37 ⟨zo6,za3q,trivial⟩
noncomputable def zn9:FSem:=mkE ArgT.nil tyTExpr fun a=>F.zhj
theorem zso:Entry prog 43 zn9 false:=eo { P:=prog,n:=3,tab:=[(86,za1h)],locL:=[0] } (.seq .leaf (.seq .leaf .leaf)) func43 ⟨zaak,trivial⟩
noncomputable def za1x:FSem:=mkE (ArgT.cons tyTGraph (ArgT.cons tyTExpr ArgT.nil)) tyTSketch fun a=>F.zir a.1 a.2.1
theorem zab0:Entry prog 42 za1x false:=eo { P:=prog,n:=53,tab:=[],rtL:=[(9,2),(14,5),(16,3),(18,3),(23,5),(25,2),(31,5),(33,2),(39,2),(51,5)],locL:=[2,3,4,5,21,49] } (.seq .leaf (.seq .leaf (.seq (.seq .leaf (.block (.loop [(5,.box [.sl,.sl,.sl,.sl,.sl,.sl]),(6,.leaf (.int .i64))] (.seq (.seq .leaf (.cond .leaf .leaf)) (.seq (.block .leaf) .leaf))))) (.seq (.seq .leaf (.block (.loop [(5,.box [.sl,.sl,.sl,.sl,.sl,.sl]),(7,.leaf (.int .i64))] (.seq (.seq .leaf (.cond .leaf .leaf)) (.seq (.block (.draw [0,1,2,3,4,5,6,7,8,9,10,11,12,13,15,14,16,17,18,19,20,21])) .leaf))))) (.seq .leaf .leaf))))) func42 trivial
noncomputable def za1y:FSem:=mkE (ArgT.cons (Ty.leaf (.int .i64)) (ArgT.cons (Ty.leaf (.int .i64)) ArgT.nil)) (Ty.leaf .bool) fun a=>F.zjz a.1 a.2.1
theorem zab1:Entry prog 158 za1y false:=eo { P:=prog,n:=12,tab:=[] } (.seq .leaf (.seq .leaf .leaf)) func158 trivial
noncomputable def za1z:FSem:=mkE (ArgT.cons (Ty.leaf .sl) ArgT.nil) (Ty.leaf (.int .i64)) fun a=>F.zmm a.1
theorem zab2:Entry prog 205 za1z false:=eo { P:=prog,n:=18,tab:=[] } (.seq .leaf (.seq .leaf (.seq (.seq .leaf (.block (.loop [(8,.leaf (.int .i64))] (.seq .leaf (.seq (.cond .leaf .leaf) (.seq (.block (.seq .leaf (.seq .leaf (.cond (.seq .leaf .leaf) .leaf)))) .leaf)))))) (.seq .leaf .leaf)))) func205 trivial
noncomputable def za20:FSem:=mkE (ArgT.cons zv4 (ArgT.cons zv4 ArgT.nil)) (Ty.leaf (.int .i64)) fun a=>F.zhv a.1 a.2.1
theorem zab3:Entry prog 159 za20 false:=eo { P:=prog,n:=17,tab:=[(163,e_x13),(205,za1z)],rtL:=[(5,2),(7,3),(10,2),(12,3)],locL:=[2,3] } (.seq .leaf (.seq (.draw [0,1,2,3,5,6,7,8,4,9,10,11,12]) .leaf)) func159 ⟨t_x13,zab2,trivial⟩
end
end Den
end

section
set_option maxRecDepth 100000
namespace Den
open Go Go.Proofs.Tryz
noncomputable section
noncomputable def za21:FSem:=mkE (ArgT.cons tyTGraph ArgT.nil) (Ty.leaf .bool) fun a=>F.zjj a.1
theorem zab4:Entry prog 82 za21 false:=eo { P:=prog,n:=58,tab:=[(158,za1y),(159,za20)],rtL:=[(5,1),(9,1),(13,1),(21,1),(23,4),(28,1),(30,4),(36,4),(38,4),(46,1)],locL:=[1,4] } (.seq .leaf (.join [] (.seq .leaf (.cond (.seq .leaf .leaf) .leaf)) (.seq (.seq .leaf (.block (.loop [(16,.leaf (.int .i64))] (.seq .leaf (.seq (.cond .leaf .leaf) (.join [] (.block (.seq .leaf (.seq (.draw [0,1,2,3,4,5,6,7,8,9,10,11,12,13,14,15,16,17,18,19,20,21,22,23,24,25,26,27,28,29,30,31,32,33,34,35]) (.cond (.seq .leaf .leaf) .leaf)))) .leaf)))))) (.seq .leaf .leaf)))) func82 ⟨zab1,zab3,trivial⟩
noncomputable def za22:FSem:=mkE (ArgT.cons tyTGraph ArgT.nil) (Ty.leaf .sl) fun a=>F.zie a.1
theorem zab5:Entry prog 39 za22 false:=eo { P:=prog,n:=94,tab:=[(82,za21)],rtL:=[(14,1),(18,1),(21,1),(29,7),(36,7),(43,7),(50,7)],locL:=[1,7,90] } (.seq .leaf (.seq (.seq .leaf (.cond (.seq .leaf .leaf) .leaf)) (.seq .leaf (.seq (.seq .leaf (.block (.loop [(4,.leaf (.bool))] (.seq (.seq .leaf (.cond .leaf .leaf)) (.block (.seq .leaf (.seq .leaf (.seq (.seq .leaf (.block (.loop [(24,.leaf (.int .i64))] (.seq .leaf (.seq (.cond .leaf .leaf) (.join [] (.block (.seq .leaf (.seq .leaf (.cond (.seq .leaf .leaf) .leaf)))) .leaf)))))) (.seq .leaf (.block (.loop [(4,.leaf (.bool)),(59,.leaf (.int .i64))] (.seq .leaf (.seq (.cond .leaf .leaf) (.join [(4,.leaf (.bool))] (.block (.seq .leaf (.seq .leaf (.cond .leaf .leaf)))) .leaf)))))))))))))) (.seq .leaf (.seq (.seq .leaf (.block (.loop [(9,.leaf (.sl)),(80,.leaf (.int .i64))] (.seq .leaf (.seq (.cond .leaf .leaf) (.join [(9,.leaf (.sl))] (.block (.seq .leaf (.seq .leaf (.cond .leaf .leaf)))) .leaf)))))) (.seq .leaf .leaf))))))) func39 ⟨zab4,trivial⟩
noncomputable def zn7:FSem:=mkE ArgT.nil (Ty.leaf .bool) fun a=>F.zf7
theorem zsm:Entry prog 32 zn7 false:=eo { P:=prog,n:=51,tab:=[(43,zn9),(42,za1x),(34,ztl),(36,zns),(37,za1w),(39,za22)],locL:=[1,2] } (.seq .leaf (.seq .leaf (.seq .leaf (.seq (.draw [0,1,2,3,4,5,6,7,8]) (.seq (.draw [0,1,2,3,4,5,6,7,8,9,10,11,12,13,14,15,16,17,18,19,20,21,22,23,24,25,26]) .leaf))))) func32 ⟨zso,zab0,za3u,zuz,zaaz,zab5,trivial⟩
noncomputable def zn8:FSem:=mkE (ArgT.cons tyTSketch ArgT.nil) (Ty.leaf .bool) fun a=>F.zjm a.1
theorem zsn:Entry prog 33 zn8 false:=eo { P:=prog,n:=23,tab:=[(55,za1k)],rtL:=[(6,1),(12,1),(18,1)],locL:=[1] } (.seq .leaf (.seq .leaf .leaf)) func33 ⟨zaan,trivial⟩
noncomputable def za23:FSem:=mkE (ArgT.cons (Ty.leaf (.int .i64)) (ArgT.cons (Ty.leaf (.int .i64)) ArgT.nil)) (Ty.leaf (.int .i64)) fun a=>F.zih a.1 a.2.1
theorem zab6:Entry prog 99 za23 false:=eo { P:=prog,n:=21,tab:=[(163,e_x13)] } (.seq .leaf (.seq (.seq .leaf (.cond (.seq .leaf .leaf) .leaf)) (.seq (.seq .leaf (.cond (.seq .leaf .leaf) .leaf)) (.seq .leaf .leaf)))) func99 ⟨t_x13,trivial⟩
noncomputable def ztm:FSem:=mkE (ArgT.cons (Ty.leaf (.int .i64)) (ArgT.cons (Ty.leaf .ptr) ArgT.nil)) (Ty.leaf .bool) fun a=>F.zfc a.1 a.2.1
theorem za3v:Entry prog 101 ztm false:=eo { P:=prog,n:=7,tab:=[(98,zhi)] } (.seq .leaf (.seq .leaf .leaf)) func101 ⟨ziv,trivial⟩
noncomputable def za24:FSem:=mkE (ArgT.cons (Ty.leaf .sl) (ArgT.fnc 101 1 ArgT.nil)) (Ty.leaf (.int .i64)) fun a=>F.zcp a.1 a.2.1
theorem zab7:Entry prog 135 za24 false:=eo { P:=prog,n:=19,tab:=[(101,ztm)] } (.seq .leaf (.seq (.seq .leaf (.block (.loop [(8,.leaf (.int .i64))] (.seq .leaf (.seq (.cond .leaf .leaf) (.seq (.block (.seq .leaf (.seq .leaf (.cond (.seq .leaf .leaf) .leaf)))) .leaf)))))) (.seq .leaf .leaf))) func135 ⟨za3v,trivial⟩
noncomputable def za25:FSem:=mkM (ArgT.cons (Ty.leaf .sl) (ArgT.fnc 101 1 ArgT.nil)) (Ty.leaf .sl) fun a=>F.zbw a.1 a.2.1
theorem zab8:Entry prog 100 za25 true:=eoM { P:=prog,n:=42,tab:=[(135,za24),(101,ztm)] } (.seq .leaf (.seq .leaf (.seq (.seq .leaf (.cond (.seq .leaf .leaf) .leaf)) (.seq (.seq .leaf (.block (.loop [(5,.leaf (.int .i64)),(6,.leaf (.int .i64))] (.seq (.seq .leaf (.cond .leaf .leaf)) (.join [(5,.leaf (.int .i64))] (.block (.seq .leaf (.seq .leaf (.cond (.seq .leaf .leaf) .leaf)))) .leaf))))) (.seq .leaf (.seq .leaf .leaf)))))) func100 ⟨zab7,za3v,trivial⟩
noncomputable def za26:FSem:=mkE (ArgT.cons (Ty.leaf (.int .i64)) (ArgT.cons (Ty.leaf .ptr) (ArgT.cons (Ty.leaf .ptr) ArgT.nil))) (Ty.leaf .bool) fun a=>F.zkz a.1 a.2.1 a.2.2.1
theorem zab9:Entry prog 103 za26 false:=eo { P:=prog,n:=9,tab:=[(28,za1m)] } (.seq .leaf (.seq .leaf .leaf)) func103 ⟨zaap,trivial⟩
noncomputable def za27:FSem:=mkE (ArgT.cons (Ty.leaf .sl) (ArgT.fnc 103 2 ArgT.nil)) (Ty.leaf (.int .i64)) fun a=>F.zcq a.1 a.2.1
theorem zaba:Entry prog 135 za27 false:=eo { P:=prog,n:=19,tab:=[(103,za26)] } (.seq .leaf (.seq (.seq .leaf (.block (.loop [(8,.leaf (.int .i64))] (.seq .leaf (.seq (.cond .leaf .leaf) (.seq (.block (.seq .leaf (.seq .leaf (.cond (.seq .leaf .leaf) .leaf)))) .leaf)))))) (.seq .leaf .leaf))) func135 ⟨zab9,trivial⟩
noncomputable def za28:FSem:=mkE (ArgT.cons (Ty.leaf .sl) (ArgT.fnc 103 2 ArgT.nil)) (Ty.leaf .bool) fun a=>F.zba a.1 a.2.1
theorem zabb:Entry prog 102 za28 false:=eo { P:=prog,n:=9,tab:=[(135,za27)] } (.seq .leaf (.seq .leaf .leaf)) func102 ⟨zaba,trivial⟩
noncomputable def za29:FSem:=mkE (ArgT.cons tyTSketch (ArgT.cons (Ty.leaf .sl) ArgT.nil)) (Ty.leaf .bool) fun a=>F.zif a.1 a.2.1
theorem zabc:Entry prog 50 za29 false:=eo { P:=prog,n:=74,tab:=[(98,zhi),(99,za23),(100,za25),(102,za28),(56,zm3)],mutL:=[100],locL:=[26,38] } (.seq .leaf (.join [] (.seq .leaf (.cond (.seq .leaf .leaf) .leaf)) (.seq .leaf (.seq (.seq .leaf (.block (.loop [(5,.leaf (.ptr)),(21,.leaf (.int .i64))] (.seq .leaf (.seq (.cond .leaf .leaf) (.seq (.block (.seq .leaf .leaf)) .leaf)))))) (.seq (.seq .leaf (.block (.loop [(5,.leaf (.ptr)),(32,.leaf (.int .i64))] (.seq .leaf (.seq (.cond .leaf .leaf) (.seq (.block (.seq .leaf .leaf)) .leaf)))))) (.seq (.seq .leaf (.block (.loop [(43,.leaf (.int .i64))] (.seq .leaf (.seq (.cond .leaf .leaf) (.join [] (.block (.seq .leaf (.seq .leaf (.cond (.seq .leaf .leaf) .leaf)))) .leaf)))))) (.seq .leaf (.seq .leaf .leaf)))))))) func50 ⟨ziv,zab6,zab8,zabb,zo6,trivial⟩
noncomputable def zmp:FSem:=mkE (ArgT.cons tyTSketch (ArgT.cons (Ty.leaf .sl) ArgT.nil)) (Ty.leaf .bool) fun a=>F.zgw a.1 a.2.1
theorem zyx:Entry prog 15 zmp false:=eo { P:=prog,n:=63,tab:=[(34,ztl),(50,za29),(32,zn7),(33,zn8)],locL:=[2] } (.seq .leaf (.join [] (.seq .leaf (.cond (.seq .leaf .leaf) .leaf)) (.seq .leaf (.seq (.seq .leaf (.cond (.seq .leaf .leaf) .leaf)) (.seq (.seq .leaf (.cond (.seq .leaf .leaf) .leaf)) (.seq (.seq .leaf (.block (.loop [(43,.leaf (.int .i64))] (.seq .leaf (.seq (.cond .leaf .leaf) (.seq (.block (.seq .leaf (.seq .leaf (.seq (.seq .leaf (.block (.loop [(9,.leaf (.bool)),(49,.leaf (.int .i64))] (.seq .leaf (.seq (.cond .leaf .leaf) (.join [(9,.leaf (.bool))] (.block (.seq .leaf .leaf)) .leaf)))))) (.seq .leaf (.cond (.seq .leaf .leaf) .leaf)))))) .leaf)))))) (.seq .leaf .leaf))))))) func15 ⟨za3u,zabc,zsm,zsn,trivial⟩
end
end Den
end

section
set_option maxRecDepth 100000
namespace Den
open Go Go.Proofs.Tryz
noncomputable section
end
end Den
end

section
namespace Den
open Go Iv Lx
def bc (b:Bool):Value:=.bool b
theorem zmt {α:Type} {f:α→Value}:∀ys:List α,ys.map f=ys.flatMap fun z=>[f z]
 | []=>rfl
 | a :: r=>by rw [List.map_cons,List.flatMap_cons,zmt r]; rfl
def gl (gn:List Bool):List Int:=((List.range gn.length).filter fun i=>!(gn.getD i true)).map fun i:Nat=>(i:Int)
theorem zm8 {gn:List Bool} {x:Int}:x∈gl gn↔∃i:Nat,x=i∧∃h:i<gn.length,gn[i]=false:=by
 unfold gl
 rw [List.mem_map]
 constructor
 · rintro ⟨i,hi,rfl⟩
   rw [List.mem_filter,List.mem_range] at hi
   refine ⟨i,rfl,hi.1,?_⟩
   have:=hi.2
   rw [zbd hi.1] at this
   simpa using this
 · rintro ⟨i,rfl,hi,hg⟩
   refine ⟨i,List.mem_filter.2 ⟨List.mem_range.2 hi,?_⟩,rfl⟩
   rw [zbd hi,hg]; rfl
theorem zey {gn:List Bool} {i:Nat} (hi:i<gn.length):(i:Int)∈gl gn↔gn[i]=false:=by
 rw [zm8]
 constructor
 · rintro ⟨j,hj,h1,h2⟩
   have:j=i:=by omega
   subst this; exact h2
 · intro h; exact ⟨i,rfl,hi,h⟩
theorem za8c {gn:List Bool} {N:Nat} (hN:gn.length=N):gl gn=(rngI N).filter fun x=>decide (x∈gl gn):=by
 conv=>lhs; unfold gl
 unfold rngI
 rw [List.filter_map,hN]
 congr 1
 refine List.filter_congr fun i hi=>?_
 have hi':i<gn.length:=by rw [hN]; exact List.mem_range.1 hi
 rw [Bool.eq_iff_iff,Function.comp_apply,decide_eq_true_iff,zey hi',zbd hi']
 simp
def cntF (gn:List Bool):Nat:=gn.countP fun b=>!b
theorem za4k {gn:List Bool}:∀{i:Nat} (hi:i<gn.length),gn[i]=false→cntF (gn.set i true)+1=cntF gn:=by
 induction gn with
 | nil=>intro i hi; simp at hi
 | cons a r ih=>
   intro i hi hg
   cases i with
   | zero=>
     simp only [List.getElem_cons_zero] at hg
     subst hg
     simp [cntF]
   | succ i=>
     have:=ih (i:=i) (by simpa using hi) (by simpa using hg)
     unfold cntF at this ⊢
     simp only [List.set_cons_succ,List.countP_cons]
     omega
section
variable {h D : Hp} {g : TGraph} {es : List (Int × Int)} {l m : Sl} {gn : List Bool} {ds : List Int} {Kb : Bool → Hp → Prop} {Ki : Int → Hp → Prop} {Ks : Sl → Hp → Prop}
def OB (D h:Hp) (l:Sl) (gn:List Bool):Prop:=Own D h 1 l (gn.map bc)
theorem OB.len (ho:OB D h l gn):l.len=gn.length:=by have:=ho.2.1; simp at this; omega
theorem OB.get {i:Int} {K:Bool→Prop} (ho:OB D h l gn) (k:Nat) (hi:i=k) (hk:k<gn.length) (H:K gn[k]):idxP l i 1 fun a=>ldL .bool a K h:=by
 have hr:Rd h 1 l (gn.flatMap fun z=>[bc z]):=by rw [←zmt]; exact ho.rd
 refine rd_el (c:=fun z:Bool=>[bc z]) (n:=1) (fun _=>rfl) (by decide) hr k hi hk fun a ha=>?_
 have:=ha 0 _ (by decide) rfl
 rw [zb7] at this
 exact ⟨_,this,H⟩
theorem OB.set {i:Int} {v:Bool} {K:Hp→Prop} (k:Nat) (ho:OB D h l gn) (hi:i=k) (hk:k<gn.length) (H:∀h',OB D h' l (gn.set k v)→(∀j,(∀a,l.a=some a→j≠a.block)→h' j=h j)→K h'):idxP l i 1 fun a=>stP a [.bool v] K h:=by
 unfold OB at ho
 rw [zmt] at ho
 refine zxb (c:=fun z:Bool=>[bc z]) (n:=1) (fun _=>rfl) (by decide) k ho hi hk rfl fun h' h1 h2=>H h' ?_ h2
 unfold OB
 rw [zmt]; exact h1
theorem zpp {α:Type} {f:α→Value} {x:α}:∀n,repl n [f x]=(List.replicate n x).map f
 | 0=>rfl
 | n+1=>by
   have:=zpp (f:=f) (x:=x) n
   unfold repl at this ⊢
   rw [List.replicate_succ,List.flatten_cons,this,List.replicate_succ,List.map_cons]
   rfl
theorem za6w {h':Hp} {n1 n2:Nat} {cs1 cs2:List Value} (h1:Own D h n1 l cs1) (h2:Own h h' n2 m cs2):Apt l m:=fun a b ha hb hh=>by
 have h3:=zue h2 hb
 obtain ⟨_,_,_,g4⟩:=h1
 rw [ha] at g4
 obtain ⟨_,_,_,x,g5,_⟩:=g4
 rw [←hh,g5] at h3; cases h3
def degs (es:List (Int×Int)) (T:List Int) (N:Nat):List Int:=(List.range N).map fun i:Nat=>((degL es T (i:Int):Nat):Int)
theorem zmo {es:List (Int×Int)} {T:List Int} {N i:Nat} (hi:i<N):(degs es T N)[i]?=some ((degL es T (i:Int):Nat):Int):=by
 unfold degs
 rw [List.getElem?_map,List.getElem?_range hi]
 rfl
theorem zdl {es:List (Int×Int)} {T:List Int} {N:Nat}:(degs es T N).length=N:=by simp [degs]
theorem za4s {es:List (Int×Int)} {T:List Int} {N:Nat} {e:Int×Int} (hn:¬(e.1∈T∧e.2∈T)):degs (es++[e]) T N=degs es T N:=by
 unfold degs
 refine List.map_congr_left fun i _=>?_
 rw [znp,if_neg (fun hh=>hn ⟨hh.1,hh.2.1⟩)]
 rfl
theorem za6g {es:List (Int×Int)} {T:List Int} {N a b:Nat} (ha:a<N) (hb:b<N) (hab:a≠b) (hT:(a:Int)∈T∧(b:Int)∈T) :
 ((degs es T N).set a (((degL es T (a:Int):Nat):Int)+1)).set b (((degL es T (b:Int):Nat):Int)+1)=degs (es++[((a:Int),(b:Int))]) T N:=by
 refine List.ext_getElem? fun i=>?_
 rcases Nat.lt_or_ge i N with h1 | h1
 · rw [zmo h1,znp]
   simp only [hT.1,hT.2,true_and]
   rw [List.getElem?_set]
   by_cases hib:b=i
   · subst hib
     rw [if_pos rfl,if_pos (by simp [zdl]; exact h1),if_pos (.inr rfl)]
     rfl
   · rw [if_neg hib,List.getElem?_set]
     by_cases hia:a=i
     · subst hia
       rw [if_pos rfl,if_pos (by simp [zdl]; exact h1),if_pos (.inl rfl)]
       rfl
     · rw [if_neg hia,zmo h1,if_neg (by omega)]
       rfl
 · rw [List.getElem?_eq_none (by simp [zdl]; exact h1),List.getElem?_eq_none (by rw [zdl]; exact h1)]
theorem zpv (hg:LR a2c 2 A2P h g.edges es) (hlen:es.length≤1000000) (H0:∀h',h.le h'→¬GV g.n es→Ks nilS h') (H:∀y T h',h.le h'→GV g.n es→IL h' y T→IsCore g.n.toNat es T→Ks y h'):callP (F.zie g) Ks h:=by
 refine za1 (fun y h'=>(¬GV g.n es∧y=nilS)∨(GV g.n es∧∃T,IL h' y T∧IsCore g.n.toNat es T)) (fun K' hk=>?_) fun y h' hl hb=>by
  rcases hb with ⟨h1,rfl⟩ | ⟨h1,T,h2,h3⟩
  · exact H0 h' hl h1
  · exact H y T h' hl h1 h2 h3
 unfold F.zie
 refine zw2 hg (by omega) fun b h1 hl1 hb=>?_
 refine za6 (fun h2=>hk _ _ hl1 (.inl ⟨fun hv=>(by rw [hb.2 hv] at h2; cases h2),rfl⟩)) (fun h2=>?_)
 have hv:=hb.1 (by simpa using h2)
 obtain ⟨N,hN⟩:∃N:Nat,g.n=N:=⟨g.n.toNat,by have:=hv.1.1; omega⟩
 have hN60:N≤60:=by have:=hv.1.2; omega
 rw [hN,show ((N:Nat):Int).toNat=N from rfl] at hk
 rw [hN] at hv
 rw [hN]
 have hgl:=hg.len zej
 have hes:=hv.2.1
 refine zu2 (size:=1) N N rfl rfl (Nat.le_refl _) (by omega) (by omega) rfl fun m2 h3 hm2 _ ho3=>?_
 have ho3:OB h1 h3 m2 (List.replicate N false):=by unfold OB; rw [←zpp]; exact ho3
 refine zr6 (fun f st h'=>∃gn:List Bool,OB h1 h' m2 gn∧gn.length=N∧(∀C:List Int,(∀x∈C,0≤x∧x<N)→(∀x∈C,3≤degL es C x)→∀x∈C,x∈gl gn) ∧
  (st.1=false→∀x∈gl gn,3≤degL es (gl gn) x)∧cntF gn*2+(if st.1=true then 1 else 0)≤f) (n0:=cntF (List.replicate N false)*2+1)
  ⟨_,ho3,by simp,fun C hC _ x hx=>?_,fun hh=>(by cases hh),by simp⟩ ?_
 · obtain ⟨c1,c2⟩:=hC x hx
   obtain ⟨i,rfl⟩:∃i:Nat,x=i:=⟨x.toNat,by omega⟩
   rw [zey (by simp; omega)]
   simp
 rintro f ⟨ch,_⟩ h4 ⟨gn,ho,hgn,hgr,hst,hf⟩ K2 hK2
 simp only at hst hf
 have hle4:=Hp.le_trans hl1 ho.1
 have hml:=ho.len
 refine za6 (fun h5=>?_) (fun h5=>?_)
 ·
  simp only at h5
  rw [if_pos h5] at hf
  refine zu2 (size:=1) N N rfl rfl (Nat.le_refl _) (by omega) (by omega) rfl fun m5 h6 hm5 _ ho6=>?_
  have ho6:OI h4 h6 m5 (degs [] (gl gn) N):=by
   have e:degs [] (gl gn) N=List.replicate N 0:=by
    unfold degs
    refine List.ext_getElem (by simp) fun i h1 h2=>?_
    simp [degL]
   unfold OI
   rw [e,←zpp]; exact ho6
  refine zcx (n:=es.length) (by omega) (fun i h'=>OI h4 h' m5 (degs (es.take i) (gl gn) N)) (by simpa using ho6) ?_
  intro q h7 hq ho7 k hk2
  have hle7:=Hp.le_trans hle4 ho7.dle
  have hob7:OB h1 h7 m2 gn:=Own.le ho ho7.dle
  refine za0 (fun h8=>?_) (fun h8=>?_)
  · have hq':q<es.length:=by simp only at h8; omega
    have heq:=hes _ (List.getElem_mem hq')
    obtain ⟨a,ha⟩:∃a:Nat,es[q].1=a:=⟨es[q].1.toNat,by omega⟩
    obtain ⟨b,hb'⟩:∃b:Nat,es[q].2=b:=⟨es[q].2.toNat,by omega⟩
    have haN:a<N:=by omega
    have hbN:b<N:=by omega
    have hst:es.take (q+1)=es.take q++[es[q]]:=(List.take_append_getElem hq').symm
    refine za5 (fun _ h'=>OI h4 h' m5 (degs (es.take (q+1)) (gl gn) N)) (fun _ h' hh=>hk2 _ hq' hh) ?_
    refine (hg.le zej hle7).get zej q rfl hq' fun a10 x hxx hcx=>⟨_,hcx 0 _ rfl,_,hcx 1 _ rfl,?_⟩
    obtain ⟨x1,x2⟩:=hxx
    rw [x1,x2,ha,hb']
    have same:¬(es[q].1∈gl gn∧es[q].2∈gl gn)→OI h4 h7 m5 (degs (es.take (q+1)) (gl gn) N):=fun hn=>by rw [hst,za4s hn]; exact ho7
    refine hob7.get a rfl (by omega) ?_
    refine za6 (fun h9=>?_) (fun h9=>same fun hh=>?_)
    · refine hob7.get b rfl (by omega) ?_
      refine za6 (fun h10=>?_) (fun h10=>same fun hh=>?_)
      · have hT:(a:Int)∈gl gn∧(b:Int)∈gl gn:=⟨(zey (by omega)).2 (by simpa using h9),(zey (by omega)).2 (by simpa using h10)⟩
        have hdl:∀i,degL (es.take q) (gl gn) i≤es.length:=fun i=>Nat.le_trans za6f (by rw [List.length_take]; omega)
        have hga:∀{i:Nat} (hi:i<N) (hh:i<(degs (es.take q) (gl gn) N).length),(degs (es.take q) (gl gn) N)[i]=((degL (es.take q) (gl gn) (i:Int):Nat):Int):=fun hi hh=>by
         have:=zmo (es:=es.take q) (T:=gl gn) hi
         rw [List.getElem?_eq_getElem hh] at this
         exact Option.some.inj this
        refine ho7.il.get a rfl (by rw [zdl]; exact haN) ?_
        rw [hga haN (by rw [zdl]; exact haN)]
        have d1:=hdl (a:Int)
        have d2:=hdl (b:Int)
        rw [w64 (by omega)]
        refine ho7.set a rfl (by rw [zdl]; exact haN) fun h11 ho11=>?_
        refine ho11.il.get b rfl (by rw [List.length_set,zdl]; exact hbN) ?_
        have hab:a≠b:=by omega
        rw [List.getElem_set_ne hab,hga hbN (by rw [zdl]; exact hbN),w64 (by omega)]
        refine ho11.set b rfl (by rw [List.length_set,zdl]; exact hbN) fun h12 ho12=>?_
        show OI _ _ _ _
        rw [hst]
        have he2:es[q]=((a:Int),(b:Int)):=Prod.ext ha hb'
        rw [he2,←za6g haN hbN hab hT]
        exact ho12
      · rw [hb',zey (by omega)] at hh
        rw [hh.2] at h10; cases h10
    · rw [ha,zey (by omega)] at hh
      rw [hh.1] at h9; cases h9
  · have:q=es.length:=by simp only at h8; omega
    subst this
    rw [List.take_length] at ho7
    have hap:Apt m2 m5:=za6w ho ho7
    have hod:OI h1 h7 m5 (degs es (gl gn) N):=OI.base ho7 ho.1
    have hml7:=hob7.len
    refine zaj (fun st h'=>∃(i:Nat) (gn':List Bool),st.2.1=(i:Int)∧i≤N∧OB h1 h' m2 gn'∧OI h1 h' m5 (degs es (gl gn) N)∧gn'.length=N ∧
     (∀j (hj:j<N),i≤j→gn'.getD j true=gn.getD j true)∧(∀j (hj:j<N),gn'.getD j true=true→gn.getD j true=true∨degL es (gl gn) (j:Int)≤2)∧(∀j (hj:j<N),gn.getD j true=true→gn'.getD j true=true) ∧
     (∀j (hj:j<N),j<i→gn'.getD j true=false→3≤degL es (gl gn) (j:Int))∧(st.1=false→gn'=gn)∧(st.1=true→cntF gn'<cntF gn)∧cntF gn'≤cntF gn) (fun st=>(N-st.2.1).toNat)
     ⟨0,gn,rfl,by omega,hob7,hod,hgn,fun j hj _=>rfl,fun j hj hh=>.inl hh,fun j hj hh=>hh,fun j hj hji=>by omega,fun _=>rfl,fun hh=>(by cases hh),Nat.le_refl _⟩ ?_
    clear hob7 hod ho7 hk2
    rintro ⟨c9,i9,_⟩ h9 ⟨i,gn',hi9,hi,hob,hod,hgn',r1,r2,r3,r4,r5,r6,r7⟩
    simp only at hi9
    subst hi9
    have hobl:=hob.len
    refine za0 (fun h10=>?_) (fun h10=>?_)
    · have hi':i<N:=by simp only at h10; omega
      have hcur:=r1 i hi' (Nat.le_refl _)
      rw [zbd (by omega)] at hcur
      refine za5 (fun s h'=>∃gn'':List Bool,OB h1 h' m2 gn''∧OI h1 h' m5 (degs es (gl gn) N)∧gn''.length=N ∧
       (∀j (hj:j<N),i+1≤j→gn''.getD j true=gn.getD j true)∧(∀j (hj:j<N),gn''.getD j true=true→gn.getD j true=true∨degL es (gl gn) (j:Int)≤2)∧(∀j (hj:j<N),gn.getD j true=true→gn''.getD j true=true) ∧
       (∀j (hj:j<N),j<i+1→gn''.getD j true=false→3≤degL es (gl gn) (j:Int))∧(s.1=false→gn''=gn)∧(s.1=true→cntF gn''<cntF gn)∧cntF gn''≤cntF gn) ?_ ?_
      · rintro ⟨c,_⟩ h11 ⟨gn'',q1,q2,q3,q4,q5,q6,q7,q8,q9,q10⟩
        exact ⟨⟨i+1,gn'',by (try simp only); rw [w64 (by omega)]; rfl,by omega,q1,q2,q3,q4,q5,q6,q7,q8,q9,q10⟩,by (try simp only); rw [w64 (by omega)]; omega⟩
      · refine hob.get i rfl (by omega) ?_
        have hd3:∀j (hj:j<N),j<i+1→gn'.getD j true=false→(j=i→3≤degL es (gl gn) (i:Int))→3≤degL es (gl gn) (j:Int):=fun j hj hji hh hc=>by
         rcases Nat.lt_or_ge j i with h1 | h1
         · exact r4 j hj h1 hh
         · have:j=i:=by omega
           subst this; exact hc rfl
        refine za6 (fun h11=>?_) (fun h11=>⟨gn',hob,hod,hgn',fun j hj hij=>r1 j hj (by omega),r2,r3,fun j hj hji hh=>hd3 j hj hji hh fun e=>?_,r5,r6,r7⟩)
        · refine hod.il.get i rfl (by rw [zdl]; exact hi') ?_
          have hgi:(degs es (gl gn) N)[i]'(by rw [zdl]; exact hi')=((degL es (gl gn) (i:Int):Nat):Int):=by
           have:=zmo (es:=es) (T:=gl gn) hi'
           rw [List.getElem?_eq_getElem (by rw [zdl]; exact hi')] at this
           exact Option.some.inj this
          rw [hgi]
          have hfal:gn'[i]'(by omega)=false:=by simpa using h11
          refine za0 (fun h12=>?_) (fun h12=>⟨gn',hob,hod,hgn',fun j hj hij=>r1 j hj (by omega),r2,r3,fun j hj hji hh=>hd3 j hj hji hh fun e=>by have h12:¬((degL es (gl gn) (i:Int):Nat):Int)≤2:=h12; omega,r5,r6,r7⟩)
          have h12:((degL es (gl gn) (i:Int):Nat):Int)≤2:=h12
          refine hob.set i rfl (by omega) fun h13 hob13 hs13=>?_
          have hod13:OI h1 h13 m5 (degs es (gl gn) N):=za57 hod hap hob13.1 hs13
          have hcs:=za4k (gn:=gn') (i:=i) (by omega) hfal
          have gd:∀j,(gn'.set i true).getD j true=if j=i then true else gn'.getD j true:=fun j=>by
           rw [List.getD_eq_getElem?_getD,List.getElem?_set]
           by_cases hji:i=j
           · subst hji
             rw [if_pos rfl,if_pos (by omega),if_pos rfl]
             rfl
           · rw [if_neg hji,if_neg (fun h=>hji h.symm),List.getD_eq_getElem?_getD]
          refine ⟨gn'.set i true,hob13,hod13,by simpa using hgn',fun j hj hij=>?_,fun j hj hh=>?_,fun j hj hh=>?_,fun j hj hji hh=>?_,fun hh=>(by cases hh),fun _=>by omega,by omega⟩
          · rw [gd,if_neg (by omega)]; exact r1 j hj (by omega)
          · rw [gd] at hh
            split at hh
            · rename_i e; subst e; exact .inr (by omega)
            · exact r2 j hj hh
          · rw [gd]
            split
            · rfl
            · exact r3 j hj hh
          · rw [gd] at hh
            split at hh
            · cases hh
            · exact hd3 j hj hji hh fun e=>by rename_i e2; exact absurd e e2
        · subst e
          have hh2:gn'[j]'(by omega)=false:=by rw [zbd (by omega)] at hh; exact hh
          rw [hh2] at h11; cases h11
    · have hiN:i=N:=by simp only at h10; omega
      subst hiN
      have sub:∀x,x∈gl gn'→x∈gl gn:=fun x hx=>by
       obtain ⟨j,rfl,hj,hg2⟩:=zm8.1 hx
       rw [zey (by omega)]
       cases hgj:gn[j]'(by omega) with
       | false=>rfl
       | true=>
         have:=r3 j (by omega) (by rw [zbd (by omega)]; exact hgj)
         rw [zbd (by omega),hg2] at this; cases this
      have hgr':∀C:List Int,(∀x∈C,0≤x∧x<i)→(∀x∈C,3≤degL es C x)→∀x∈C,x∈gl gn':=fun C hC hC3 x hx=>by
       have hx2:=hgr C hC hC3 x hx
       obtain ⟨j,rfl,hj,hg2⟩:=zm8.1 hx2
       rw [zey (by omega)]
       cases hgj:gn'[j]'(by omega) with
       | false=>rfl
       | true=>
         rcases r2 j (by omega) (by rw [zbd (by omega)]; exact hgj) with h1 | h1
         · rw [zbd (by omega),hg2] at h1; cases h1
         · exact absurd hx (zru hC3 (hgr C hC hC3) h1)
      cases hc:c9 with
      | false=>
        have e:=r5 hc
        subst e
        refine hK2 (cntF gn'*2) _ _ (by omega) ⟨gn',hob,hgn,hgr',fun _ x hx=>?_,by simp⟩
        obtain ⟨j,rfl,hj,hg2⟩:=zm8.1 hx
        exact r4 j (by omega) (by omega) (by rw [zbd (by omega)]; exact hg2)
      | true=>
        have e:=r6 hc
        exact hK2 (cntF gn'*2+1) _ _ (by omega) ⟨gn',hob,hgn',hgr',fun hh=>(by cases hh),by simp⟩
 · simp only at h5
   have hdeg:=hst h5
   refine zcw (n:=N) (by omega) (fun i y h'=>OI h4 h' y ((gl gn).filter fun x=>decide (x<i))) (by
    have e:(gl gn).filter (fun x=>decide (x<((0:Nat):Int)))=[]:=by
     rw [List.filter_eq_nil_iff]
     intro x hx
     obtain ⟨j,rfl,_⟩:=zm8.1 hx
     simp
    rw [e]; exact OI.nil) ?_
   intro i y h6 hi ho6 k hk2
   have hob6:OB h1 h6 m2 gn:=Own.le ho ho6.dle
   have hob6l:=hob6.len
   refine za0 (fun h7=>?_) (fun h7=>?_)
   · have hi':i<N:=by simp only at h7; omega
     have hstep:(gl gn).filter (fun x=>decide (x<((i+1:Nat):Int)))=(gl gn).filter (fun x=>decide (x<(i:Int)))++(if gn[i]'(by omega)=false then [(i:Int)] else []):=by
      have key:∀n:Nat,(gl gn).filter (fun x=>decide (x<(n:Int)))=((List.range gn.length).filter fun j=>!(gn.getD j true)&&decide (j<n)).map fun j:Nat=>(j:Int):=fun n=>by
       unfold gl
       rw [List.filter_map,List.filter_filter]
       congr 1
       refine List.filter_congr fun j _=>?_
       simp only [Function.comp_apply]
       rw [Bool.and_comm]
       congr 1
       simp
      have key2:∀n:Nat,n≤gn.length→(List.range gn.length).filter (fun j=>!(gn.getD j true)&&decide (j<n))=(List.range n).filter fun j=>!(gn.getD j true):=fun n hn=>by
       have e1:(List.range gn.length).filter (fun j=>!(gn.getD j true)&&decide (j<n))=((List.range gn.length).filter fun j=>decide (j<n)).filter fun j=>!(gn.getD j true):=by rw [List.filter_filter]
       have e2:(List.range gn.length).filter (fun j=>decide (j<n))=List.range n:=by
        obtain ⟨d,hd⟩:∃d,gn.length=n+d:=⟨gn.length-n,by omega⟩
        rw [hd,List.range_add,List.filter_append]
        have f1:(List.range n).filter (fun j=>decide (j<n))=List.range n:=by
         rw [List.filter_eq_self]; intro j hj; exact decide_eq_true (List.mem_range.1 hj)
        have f2:((List.range d).map (n+·)).filter (fun j=>decide (j<n))=[]:=by
         rw [List.filter_eq_nil_iff]; intro j hj
         obtain ⟨q,_,rfl⟩:=List.mem_map.1 hj
         simp
        rw [f1,f2,List.append_nil]
       rw [e1,e2]
      rw [key,key,key2 _ (by omega),key2 _ (by omega),List.range_succ,List.filter_append,List.map_append]
      congr 1
      have hgi:gn.getD i true=gn[i]'(by omega):=zbd (by omega)
      rw [zy5,hgi]
      cases hg2:gn[i]'(by omega)<;>rfl
     have hfl:((gl gn).filter fun x=>decide (x<(i:Int))).length≤60:=by
      refine Nat.le_trans (List.length_filter_le _ _) ?_
      unfold gl
      rw [List.length_map]
      refine Nat.le_trans (List.length_filter_le _ _) ?_
      rw [List.length_range]; omega
     refine za5 (fun s h'=>OI h4 h' s.1 ((gl gn).filter fun x=>decide (x<((i+1:Nat):Int)))) (fun s h' hs=>hk2 _ _ hi' hs) ?_
     refine hob6.get i rfl (by omega) ?_
     refine za6 (fun h8=>?_) (fun h8=>?_)
     · refine ho6.app (by omega) fun w h9 ho9=>?_
       show OI _ _ _ _
       rw [hstep,if_pos (by simpa using h8)]; exact ho9
     · show OI _ _ _ _
       rw [hstep,if_neg (by simpa using h8),List.append_nil]; exact ho6
   · have:i=N:=by simp only at h7; omega
     subst this
     have e:(gl gn).filter (fun x=>decide (x<(i:Int)))=gl gn:=by
      rw [List.filter_eq_self]
      intro x hx
      obtain ⟨j,rfl,hj,_⟩:=zm8.1 hx
      exact decide_eq_true (by omega)
     rw [e] at ho6
     exact hk _ _ (Hp.le_trans hle4 ho6.dle) (.inr ⟨hv,gl gn,ho6.il,za8c hgn,hdeg,hgr⟩)
end
end Den
end

section
namespace Den
open Go Iv Lx
section
variable {h : Hp} {g : TGraph} {es : List (Int × Int)} {S : PSk} {Kb : Bool → Hp → Prop}
theorem zqu {K:TExpr→Hp→Prop} (H:∀r h',h.le h'→NR h' r ((1:Int):Rat)→K ⟨1,r,emptyS,nilS⟩ h'):callP F.zhj K h:=by
 refine za1 (fun e h'=>∃r,NR h' r ((1:Int):Rat)∧e=⟨1,r,emptyS,nilS⟩) (fun K' hk=>?_) fun e h' hl ⟨r,h1,h2⟩=>by subst h2; exact H r h' hl h1
 unfold F.zhj
 exact zra (by decide) (by decide) fun z h' hl hz=>hk _ _ hl ⟨z,hz,rfl⟩
theorem zrh {r:TRat} {K:TSketch→Hp→Prop} {N:Nat} (hN:g.n=N) (hN2:N≤10) (hg:LR a2c 2 A2P h g.edges es) (hlen:es.length≤20) (hr:NR h r ((1:Int):Rat)) (H:∀s S h',h.le h'→SK h' s S→DSK 1 S N es→K s h'):callP (F.zir g ⟨1,r,emptyS,nilS⟩) K h:=by
 refine za1 (fun s h'=>∃S,SK h' s S∧DSK 1 S N es) (fun K' hk=>?_) fun s h' hl ⟨S,h1,h2⟩=>H s S h' hl h1 h2
 unfold F.zir
 dsimp only
 have hgl:=hg.len zej
 rw [hN]
 have hor:OR h r (some ((1:Int):Rat)):=hr.or (zpa (by decide)) (by decide)
 refine zaj (fun st h'=>∃(i:Nat) (pl:Sl),st=((pl,nilS,nilS,nilS,nilS,nilS,()),(i:Int),())∧i≤N∧LO ptc 8 PTT h h' pl (List.replicate i (some ((1:Int):Rat),some ((1:Int):Rat))))
  (fun st=>(N-st.2.1).toNat) ⟨0,nilS,rfl,by omega,LO.nil⟩ ?_
 rintro _ h1 ⟨i,pl,rfl,hi,hp⟩
 refine za0 (fun h2=>?_) (fun h2=>?_)
 · have hi':i<N:=by simp only at h2; omega
   refine hp.app (x:=(⟨r,r⟩:TPoint)) (b:=(some ((1:Int):Rat),some ((1:Int):Rat))) zed rfl (by simp; omega) (by simp; omega) ⟨hor,hor⟩ fun w h3 hp3=>⟨⟨i+1,w,by (try simp only); rw [w64 (by omega)]; rfl,by omega,?_⟩,by (try simp only); rw [w64 (by omega)]; omega⟩
   rw [List.replicate_succ']
   exact hp3
 have:i=N:=by simp only at h2; omega
 subst this
 have hle1:=hp.dle
 refine zaj (fun st h'=>∃(q:Nat) (cl:Sl) (con:List PCon) (D:Hp),st=((pl,nilS,nilS,nilS,nilS,cl,()),(q:Int),())∧q≤es.length∧h1.le D∧LO cc 5 CO D h' cl con∧DCL 1 con (es.take q))
  (fun st=>(es.length-st.2.1).toNat) ⟨0,nilS,[],h1,rfl,by omega,Hp.le_refl _,LO.nil,trivial⟩ ?_
 rintro _ h3 ⟨q,cl,con,D,rfl,hq,hD,hc,hdc⟩
 have hcl:=hdc.len
 rw [List.length_take] at hcl
 refine za0 (fun h4=>?_) (fun h4=>?_)
 · have hq':q<es.length:=by simp only at h4; omega
   have hle3:=Hp.le_trans hle1 (Hp.le_trans hD hc.dle)
   refine (hg.le zej hle3).get zej q rfl hq' fun a x hxx hcx=>⟨_,hcx 0 _ rfl,?_⟩
   refine (hg.le zej hle3).get zej q rfl hq' fun a x2 hxx2 hcx2=>⟨_,hcx2 1 _ rfl,?_⟩
   rw [hxx.1,hxx2.2]
   refine hc.newb zaw fun p10 D4 h5 d4 l5 hc c10=>hc.newb zaw fun p11 D5 h6 d5 l6 hc c11=>?_
   refine hc.app (x:=(⟨2,⟨some p10,2,2⟩,nilS,⟨some p11,1,1⟩,0⟩:TConstraint)) (b:=⟨2,[es[q].1,es[q].2],[],[numE r 1],0⟩) zaw rfl (by omega) (by omega) (za6d (fun i v hv=>Hp.cell_le d5 (c10 i v hv)) c11 (by decide) (hr.le (Hp.le_trans hle1 (Hp.le_trans hD (Hp.le_trans d4 d5))))) fun w h7 hc7=>?_
   refine ⟨⟨q+1,w,_,D5,by (try simp only); rw [w64 (by omega)]; rfl,by omega,Hp.le_trans hD (Hp.le_trans d4 d5),hc7,?_⟩,by (try simp only); rw [w64 (by omega)]; omega⟩
   rw [←List.take_append_getElem hq']
   exact DCL.snoc (e:=es[q]) ⟨r,za54 (by decide) hr,rfl⟩ hdc
 · have:q=es.length:=by simp only at h4; omega
   subst this
   rw [List.take_length] at hdc
   refine hk _ _ (Hp.le_trans hle1 (Hp.le_trans hD hc.dle)) ⟨⟨List.replicate i (some ((1:Int):Rat),some ((1:Int):Rat)),[],[],[],[],con⟩,⟨(hp.lr zed).le zed (Hp.le_trans hD hc.dle),LR.nil,LR.nil,LR.nil,LR.nil,hc.lr zaw⟩,by simp,fun p hp=>?_,rfl,rfl,rfl,rfl,hdc⟩
   rw [List.eq_of_mem_replicate hp]
   exact ⟨rfl,rfl⟩
end
theorem DCL.get {z:Int}:∀{l:List PCon} {q:List (Int×Int)},DCL z l q→∀{k:Nat} (h1:k<l.length) (h2:k<q.length),DC z l[k] q[k]
 | [],_,_,k,h1,_=>by simp at h1
 | a :: r,b :: q,h,0,_,_=>h.1
 | a :: r,b :: q,h,k+1,h1,h2=>DCL.get h.2 (by simpa using h1) (by simpa using h2)
 | a :: r,[],h,_,_,_=>h.elim
theorem DSK.allC {z:Int} {S:PSk} {n:Nat} {es:List (Int×Int)} (h:DSK z S n es):Den.allC S=S.con:=by
 unfold Den.allC imp impL
 rw [h.2.2.2.2.1]; simp
theorem DSK.its {z:Int} {S:PSk} {n:Nat} {es:List (Int×Int)} (h:DSK z S n es):Den.its S=es.map fun e=>[e.1,e.2]:=by
 have hl:=h.2.2.2.2.2.2.len
 unfold Den.its
 rw [h.allC]
 refine List.ext_getElem (by simp [hl]) fun k h1 h2=>?_
 rw [List.getElem_map,List.getElem_map]
 obtain ⟨x,_,e⟩:=h.2.2.2.2.2.2.get (k:=k) (by simpa using h1) (by simpa using h2)
 rw [e]
 simp [itemsC]
theorem DSK.all {z:Int} {S:PSk} {n:Nat} {es:List (Int×Int)} (h:DSK z S n es):allS S=rngI n:=by
 unfold allS allI rngI
 rw [h.1,h.2.2.1]
 simp
theorem DSK.kind {z:Int} {S:PSk} {n:Nat} {es:List (Int×Int)} (h:DSK z S n es) {k:Nat} (hk:k<es.length):(Den.allC S).getD k dC=⟨2,[es[k].1,es[k].2],[],((Den.allC S).getD k dC).vals,0⟩:=by
 have hl:=h.2.2.2.2.2.2.len
 rw [h.allC,zbd (by omega)]
 obtain ⟨x,_,e⟩:=h.2.2.2.2.2.2.get (k:=k) (by omega) hk
 rw [e]
theorem za4a {z:Int} {S:PSk} {n:Nat} {es:List (Int×Int)} (h:DSK z S n es) {T R:List Int} (hT:∀e∈es,(e.1∈T↔e.1∉R)∧(e.2∈T↔e.2∉R)) {i:Int}:∀k,k≤es.length→wtL (Den.allC S) (remN (Den.its S) i R k)=degL (es.take k) T i
 | 0,_=>by simp [remN,wtL,degL]
 | k+1,hk=>by
   have hk':k<es.length:=by omega
   have ih:=za4a h hT (i:=i) k (by omega)
   have hg:(Den.its S).getD k []=[es[k].1,es[k].2]:=by
    rw [h.its,zbd (by simpa using hk'),List.getElem_map]
   have hstep:remN (Den.its S) i R (k+1)=remN (Den.its S) i R k++(if keepP ((Den.its S).getD k []) i R then [(k:Int)] else []):=rfl
   rw [←List.take_append_getElem hk',znp,←ih,hstep,hg]
   have ht:=hT _ (List.getElem_mem hk')
   have e:keepP [es[k].1,es[k].2] i R↔(es[k].1∈T∧es[k].2∈T∧(es[k].1=i∨es[k].2=i)):=by
    unfold keepP
    simp only [List.mem_cons,List.not_mem_nil,or_false,forall_eq_or_imp,forall_eq]
    rw [ht.1,ht.2]
    constructor
    · rintro ⟨h1,h2,h3⟩
      exact ⟨h2,h3,h1.imp Eq.symm Eq.symm⟩
    · rintro ⟨h2,h3,h1⟩
      exact ⟨h1.imp Eq.symm Eq.symm,h2,h3⟩
   by_cases hh:es[k].1∈T∧es[k].2∈T∧(es[k].1=i∨es[k].2=i)
   · rw [if_pos (e.2 hh),if_pos hh,zv9,show ((k:Nat):Int).toNat=k from rfl,h.kind hk']
     rfl
   · rw [if_neg (fun h=>hh (e.1 h)),if_neg hh,List.append_nil]; rfl
theorem zwo {z:Int} {S:PSk} {n:Nat} {es:List (Int×Int)} (h:DSK z S n es) {T R:List Int} (hT:∀e∈es,(e.1∈T↔e.1∉R)∧(e.2∈T↔e.2∉R)) {i:Int} (hi:0≤i):canP (Den.allC S) (cens S) R i↔i∉R∧degL es T i≤2:=by
 have e0:(Den.allC S).map (fun c=>itemsC c (cens S))=Den.its S:=rfl
 have hlen:(Den.its S).length=es.length:=by rw [h.its]; simp
 have hw:=za4a h hT (i:=i) es.length (Nat.le_refl _)
 rw [List.take_length] at hw
 unfold canP
 rw [e0]
 have hm:most i=2:=by unfold most; rw [if_neg (by omega)]
 have hr:remL (Den.its S) i R=remN (Den.its S) i R es.length:=by unfold remL; rw [hlen]
 rw [hm,hr,hw]
 constructor
 · exact fun hh=>⟨hh.1,hh.2.1⟩
 · rintro ⟨h1,h2⟩
   refine ⟨h1,h2,fun j hj=>?_⟩
   obtain ⟨k,hk,rfl,hkp⟩:=zpo.1 hj
   rw [show ((k:Nat):Int).toNat=k from rfl,h.kind hk]
   have hg:(Den.its S).getD k []=[es[k].1,es[k].2]:=by
    rw [h.its,zbd (by simpa using hk),List.getElem_map]
   have hmem:i∈[es[k].1,es[k].2]:=by rw [←hg]; exact hkp.1
   unfold suitP
   rw [if_neg (by omega),if_neg (by show ¬eqK 2=2; decide)]
   right
   unfold kindP
   simp only
   rw [if_neg (by decide),if_neg (by decide),if_neg (by decide),if_neg (fun hn=>hn hmem),if_neg (by decide),if_pos trivial]
theorem zwt {z:Int} {S:PSk} {n:Nat} {es:List (Int×Int)} (h:DSK z S n es) (hes:∀e∈es,0≤e.1∧e.1<e.2∧e.2<n):IsCore n es (coreS S):=by
 have hmem:∀{R:List Int} {x:Int},x∈leftL (allS S) R↔(0≤x∧x<n)∧x∉R:=fun {R x}=>by
  unfold leftL
  rw [List.mem_filter,h.all,zl5]
  simp
 have hT:∀R:List Int,∀e∈es,(e.1∈leftL (allS S) R↔e.1∉R)∧(e.2∈leftL (allS S) R↔e.2∉R):=fun R e he=>by
  have:=hes e he
  rw [hmem,hmem]
  exact ⟨⟨fun h=>h.2,fun h=>⟨by omega,h⟩⟩,⟨fun h=>h.2,fun h=>⟨by omega,h⟩⟩⟩
 refine ⟨?_,fun i hi=>?_,fun C hC hC3 i hi=>?_⟩
 · have e0:coreS S=(rngI n).filter fun x=>decide (x∉peelS S (allS S)):=by
    rw [←h.all]; rfl
   refine e0.trans (List.filter_congr fun x hx=>?_)
   have:x∈coreS S↔x∉peelS S (allS S):=by
    unfold coreS
    rw [hmem]
    exact ⟨fun h=>h.2,fun h=>⟨zl5.1 hx,h⟩⟩
   simp only [this]
 · have hi2:=hmem.1 hi
   have he:=zs3 (S:=S) (pref:=allS S) (x:=i) (by rw [h.all,zl5]; exact hi2.1)
   rw [zwo h (hT _) (by omega)] at he
   have:degL es (coreS S) i=degL es (leftL (allS S) (peelS S (allS S))) i:=rfl
   rw [this]
   exact Nat.lt_of_not_le fun hh=>he ⟨hi2.2,hh⟩
 · suffices H:∀k,k≤(peelS S (allS S)).length→∀x∈(peelS S (allS S)).take k,x∉C by
    have:=H _ (Nat.le_refl _)
    rw [List.take_length] at this
    exact hmem.2 ⟨hC i hi,fun hp=>this i hp hi⟩
   intro k
   induction k with
   | zero=>intro _ x hx; simp at hx
   | succ k ih=>
     intro hk x hx
     have hk':k<(peelS S (allS S)).length:=by omega
     rw [←List.take_append_getElem hk',List.mem_append] at hx
     rcases hx with hx | hx
     · exact ih (by omega) x hx
     · rw [List.mem_singleton] at hx
       obtain ⟨h1,h2⟩:=zpl (S:=S) (pref:=allS S) hk'
       rw [zbd hk',←hx] at h1 h2
       rw [h.all,zl5] at h2
       rw [zwo h (hT _) h2.1] at h1
       exact zru hC3 (fun y hy=>hmem.2 ⟨hC y hy,fun hp=>ih (by omega) y hp hy⟩) h1.2
def es4:List (Int×Int):=[(0,1),(0,2),(0,3),(1,2),(1,3),(2,3)]
def es3:List (Int×Int):=[(0,1),(0,2),(1,2)]
theorem core4:IsCore 4 es4 [0,1,2,3]:=by
 refine ⟨by decide,by decide,fun C hC _ i hi=>?_⟩
 have:=hC i hi
 simp only [List.mem_cons,List.not_mem_nil,or_false]
 omega
theorem core3:IsCore 3 es3 []:=by
 refine ⟨by decide,fun i hi=>(by cases hi),fun C hC hC3 i hi=>?_⟩
 have h1:=hC i hi
 have h2:=hC3 i hi
 have h3:degL es3 C i≤degL es3 [0,1,2] i:=zro fun x hx=>by
  have:=hC x hx
  simp only [List.mem_cons,List.not_mem_nil,or_false]
  omega
 have h4:∀j:Fin 3,degL es3 [0,1,2] ((j:Nat):Int)≤2:=by decide
 have h5:=h4 ⟨i.toNat,by omega⟩
 have e:(((⟨i.toNat,by omega⟩:Fin 3):Nat):Int)=i:=by simp; omega
 rw [e] at h5
 omega
theorem gv4:GV 4 es4:=by
 refine ⟨by decide,by decide,fun j hj=>?_⟩
 have:∀j:Fin 5,befE (es4[(j:Nat)]'(by simp [es4]; omega)) (es4[(j:Nat)+1]'(by simp [es4]; omega)):=by
  intro j
  match j with
  | ⟨0,_⟩=>exact .inr ⟨rfl,by show (1:Int)<2; decide⟩
  | ⟨1,_⟩=>exact .inr ⟨rfl,by show (2:Int)<3; decide⟩
  | ⟨2,_⟩=>exact .inl (by show (0:Int)<1; decide)
  | ⟨3,_⟩=>exact .inr ⟨rfl,by show (2:Int)<3; decide⟩
  | ⟨4,_⟩=>exact .inl (by show (1:Int)<2; decide)
 exact this ⟨j,by simp [es4] at hj; omega⟩
theorem gv3:GV 3 es3:=by
 refine ⟨by decide,by decide,fun j hj=>?_⟩
 have:∀j:Fin 2,befE (es3[(j:Nat)]'(by simp [es3]; omega)) (es3[(j:Nat)+1]'(by simp [es3]; omega)):=by
  intro j
  match j with
  | ⟨0,_⟩=>exact .inr ⟨rfl,by show (1:Int)<2; decide⟩
  | ⟨1,_⟩=>exact .inl (by show (0:Int)<1; decide)
 exact this ⟨j,by simp [es3] at hj; omega⟩
theorem bars4 {S:PSk} (h:DSK 1 S 4 es4):wiS S [0,1,2,3]=[0,1,2,3,4,5]:=by
 unfold wiS
 rw [h.its]
 decide
section
variable {h : Hp} {s : TSketch} {S : PSk} {Kb : Bool → Hp → Prop}
theorem zkw (ht:GT h) (H:∀h',h.le h'→Kb true h'):callP F.zf7 Kb h:=by
 refine za1 (fun b _=>b=true) (fun K' hk=>?_) fun b h' hl hb=>by subst hb; exact H h' hl
 unfold F.zf7
 refine zg5 fun p1 h1 hl1 c1=>zg5 fun p2 h2 hl2 c2=>?_
 have hle2:=Hp.le_trans hl1 hl2
 have g4:∀{h'},h2.le h'→LR a2c 2 A2P h' ⟨some p1,6,6⟩ es4:=fun hl=>LR.le zej (h:=h1) ⟨[⟨0,1⟩,⟨0,2⟩,⟨0,3⟩,⟨1,2⟩,⟨1,3⟩,⟨2,3⟩],zea (size:=2) (n:=6) c1 rfl,Nat.le_refl _,rfl,fun k k1 k2=>by
  match k,k1 with
  | 0,_=>exact ⟨rfl,rfl⟩
  | 1,_=>exact ⟨rfl,rfl⟩
  | 2,_=>exact ⟨rfl,rfl⟩
  | 3,_=>exact ⟨rfl,rfl⟩
  | 4,_=>exact ⟨rfl,rfl⟩
  | 5,_=>exact ⟨rfl,rfl⟩⟩ (Hp.le_trans hl2 hl)
 have g3:∀{h'},h2.le h'→LR a2c 2 A2P h' ⟨some p2,3,3⟩ es3:=fun hl=>LR.le zej (h:=h2) ⟨[⟨0,1⟩,⟨0,2⟩,⟨1,2⟩],zea (size:=2) (n:=3) c2 rfl,Nat.le_refl _,rfl,fun k k1 k2=>by
  match k,k1 with
  | 0,_=>exact ⟨rfl,rfl⟩
  | 1,_=>exact ⟨rfl,rfl⟩
  | 2,_=>exact ⟨rfl,rfl⟩⟩ hl
 refine zqu fun r3 h3 hl3 hr3=>?_
 refine zrh (g:=⟨4,⟨some p1,6,6⟩⟩) (es:=es4) (N:=4) rfl (by decide) (g4 hl3) (by decide) hr3 fun s4 S4 h4 hl4 hx4 hd4=>?_
 have l4:=Hp.le_trans hl3 hl4
 have hle4:=Hp.le_trans hle2 l4
 have v4:VS S4:=hd4.vs dec1 (by decide)
 have ss4:sSk S4:=hd4.ss (by decide) (by decide)
 have k4:coreS S4=[0,1,2,3]:=(zwt hd4 (by decide)).unique core4
 refine zri hx4 ss4 (ht.le hle4) fun r5 h5 hl5 hr5=>?_
 obtain ⟨i1,i2⟩:IL h5 r5.1 [0,1,2,3]∧IL h5 r5.2 [0,1,2,3,4,5]:=by
  rcases hr5 with ⟨_,_,h6,h7⟩ | ⟨h6,_⟩
  · rw [k4] at h6 h7
    rw [bars4 hd4] at h7
    exact ⟨h6,h7⟩
  · rcases h6 with h6 | h6
    · exact absurd v4 h6
    · rw [k4] at h6; cases h6
 have l5:=Hp.le_trans l4 hl5
 refine zg5 fun p6 h6 hl6 c6=>?_
 refine zl4 (xs:=[0,1,2,3]) (ys:=[0,1,2,3]) (i1.le hl6) ⟨zea (size:=1) (n:=4) c6 rfl,Nat.le_refl _⟩ (by decide) fun h7 hl7=>?_
 refine zc4 (decide_eq_true rfl) ?_
 refine zg5 fun p8 h8 hl8 c8=>?_
 have l58:=Hp.le_trans hl6 (Hp.le_trans hl7 hl8)
 refine zl4 (xs:=[0,1,2,3,4,5]) (ys:=[0,1,2,3,4,5]) (i2.le l58) ⟨zea (size:=1) (n:=6) c8 rfl,Nat.le_refl _⟩ (by decide) fun h9 hl9=>?_
 refine zc4 (decide_eq_true rfl) ?_
 have l9:=Hp.le_trans l5 (Hp.le_trans l58 hl9)
 refine zqu fun r10 h10 hl10 hr10=>?_
 have l10:=Hp.le_trans l9 hl10
 refine zrh (g:=⟨3,⟨some p2,3,3⟩⟩) (es:=es3) (N:=3) rfl (by decide) (g3 l10) (by decide) hr10 fun s11 S11 h11 hl11 hx11 hd11=>?_
 have l11:=Hp.le_trans l10 hl11
 have v11:VS S11:=hd11.vs dec1 (by decide)
 have ss11:sSk S11:=hd11.ss (by decide) (by decide)
 have k11:coreS S11=[]:=(zwt hd11 (by decide)).unique core3
 refine znh hx11 ss11 (ht.le (Hp.le_trans hle2 l11)) fun b12 h12 hl12 hb12=>?_
 rw [hb12.2 ⟨v11,k11⟩]
 refine zc4 rfl ?_
 have l12:=Hp.le_trans l11 hl12
 refine zpv (g:=⟨3,⟨some p2,3,3⟩⟩) (es:=es3) (g3 l12) (by decide) (fun _ _ hn=>absurd gv3 hn) fun y13 T13 h13 hl13 _ hi13 hc13=>?_
 have e13:T13=[]:=hc13.unique core3
 rw [e13] at hi13
 have n13:=hi13.len
 have n13:y13.len=0:=n13
 refine zae (fun _=>?_) (fun hh=>absurd (by rw [n13]; rfl) hh)
 have l13:=Hp.le_trans l12 hl13
 refine zpv (g:=⟨4,⟨some p1,6,6⟩⟩) (es:=es4) (g4 l13) (by decide) (fun _ _ hn=>absurd gv4 hn) fun y14 T14 h14 hl14 _ hi14 hc14=>?_
 have e14:T14=[0,1,2,3]:=hc14.unique core4
 rw [e14] at hi14
 refine zg5 fun p15 h15 hl15 c15=>?_
 refine zl4 (xs:=[0,1,2,3]) (ys:=[0,1,2,3]) (hi14.le hl15) ⟨zea (size:=1) (n:=4) c15 rfl,Nat.le_refl _⟩ (by decide) fun h16 hl16=>?_
 exact hk _ _ (Hp.le_trans hle2 (Hp.le_trans l13 (Hp.le_trans hl14 (Hp.le_trans hl15 hl16)))) (decide_eq_true rfl)
theorem zuw (hx:SK h s S) (H:∀b h',h.le h'→(b=true→sSk S)→Kb b h'):callP (F.zjm s) Kb h:=by
 refine za1 (fun b _=>b=true→sSk S) (fun K' hk=>?_) fun b h' hl hb=>H b h' hl hb
 unfold F.zjm
 refine zxm hx fun b h1 hl1 hb=>za6 (fun h2=>?_) (fun h2=>hk _ _ hl1 fun h3=>by cases h3)
 refine za0 (fun _=>za0 (fun _=>hk _ _ hl1 fun _=>hb h2) (fun _=>hk _ _ hl1 fun h3=>by cases h3)) (fun _=>hk _ _ hl1 fun h3=>by cases h3)
end
end Den
end

section
namespace Den
open Go Iv Lx
theorem zzd {S:PSk} (hs:sSk S) (hv:VS S) {xs:List Int} (hc:certP S xs):∀x∈xs,x∈coreS S:=by
 obtain ⟨h1,h2,h3,h4⟩:=hc
 have hT:∀x∈allS S,x∈xs↔x∉(allS S).filter fun x=>decide (x∉xs):=fun x hx=>by simp [List.mem_filter,hx]
 suffices H:∀k,k≤(peelS S (allS S)).length→∀x∈(peelS S (allS S)).take k,x∉xs by
  intro x hx
  have:=H _ (Nat.le_refl _)
  rw [List.take_length] at this
  unfold coreS leftL
  exact List.mem_filter.2 ⟨h2 x hx,decide_eq_true fun hp=>this x hp hx⟩
 intro k
 induction k with
 | zero=>intro _ x hx; simp at hx
 | succ k ih=>
   intro hk x hx
   have hk':k<(peelS S (allS S)).length:=by omega
   rw [←List.take_append_getElem hk',List.mem_append] at hx
   rcases hx with hx | hx
   · exact ih (by omega) x hx
   · rw [List.mem_singleton] at hx
     obtain ⟨g1,g2⟩:=zpl (S:=S) (pref:=allS S) hk'
     rw [zbd hk',←hx] at g1 g2
     intro hm
     have hsub:∀y∈(peelS S (allS S)).take k,y∈(allS S).filter fun x=>decide (x∉xs):=fun y hy=>by
      have h5:=ih (by omega) y hy
      have h6:y∈allS S:=by
       obtain ⟨j,hj,rfl⟩:=List.mem_iff_getElem.1 (List.mem_of_mem_take hy)
       have:=(zpl (S:=S) (pref:=allS S) hj).2
       rwa [zbd hj] at this
      exact List.mem_filter.2 ⟨h6,decide_eq_true h5⟩
     have hnot:x∉(allS S).filter fun x=>decide (x∉xs):=(hT x g2).1 hm
     exact h4 x hm ((zn0 hs hv hT hnot).2 (g1.mono hsub hnot))
theorem zpd {S:PSk} {x:Int}:x∈coreS S↔x∈allS S∧x∉peelS S (allS S):=by
 unfold coreS leftL
 rw [List.mem_filter,decide_eq_true_iff]
theorem za6e {S:PSk}:∀x∈allS S,x∈coreS S↔x∉peelS S (allS S):=fun x hx=>by rw [zpd]; exact ⟨fun h=>h.2,fun h=>⟨hx,h⟩⟩
theorem zzi {S:PSk} (hs:sSk S) (hv:VS S) {x:Int} (hx:x∈coreS S):prevT S x (coreS S)≠[]:=by
 have h:=zpd.1 hx
 exact fun hp=>zs3 (S:=S) h.1 ((zn0 hs hv za6e h.2).1 hp)
theorem za58 {n m:Nat} {p:Int→Bool}:∀j (hj:j+1<((allI n m).filter p).length),befI ((allI n m).filter p)[j] ((allI n m).filter p)[j+1]:=by
 have hp:(allI n m).Pairwise fun a b=>posI n a<posI n b:=by
  rw [List.pairwise_iff_getElem]
  intro i j hi hj hij
  rw [zsv hi,zsv hj]
  omega
 have hf:=hp.filter p
 intro j hj
 rw [List.pairwise_iff_getElem] at hf
 have h1:=hf j (j+1) (by omega) hj (by omega)
 exact (za73 (m:=m) (List.mem_filter.1 (List.getElem_mem (by omega))).1 (List.mem_filter.1 (List.getElem_mem hj)).1).1 h1
theorem zze {S:PSk} (hs:sSk S) (hv:VS S):certP S (coreS S)↔coreS S≠[]:=by
 refine ⟨fun h=>h.1,fun h=>⟨h,fun x hx=>(zpd.1 hx).1,?_,fun x hx=>zzi hs hv hx⟩⟩
 unfold coreS leftL allS
 exact za58
section
variable {h : Hp} {s : TSketch} {S : PSk} {g : TGraph} {es : List (Int × Int)} {l : Sl} {xs : List Int} {K : Bool → Hp → Prop}
theorem zzj {r q:Sl×Sl} {h1 h2:Hp} (hl:h1.le h2) (hr:CORE h1 S r) (hq:CORE h2 S q):∃az bs,IL h2 r.1 az∧IL h2 q.1 az∧IL h2 r.2 bs∧IL h2 q.2 bs∧(VS S→az=coreS S)∧(¬VS S→az=[]):=by
 rcases hr with ⟨v,n,i1,i2⟩ | ⟨n,e⟩
 · rcases hq with ⟨_,_,j1,j2⟩ | ⟨m,_⟩
   · exact ⟨_,_,i1.le hl,j1,i2.le hl,j2,fun _=>rfl,fun hn=>absurd v hn⟩
   · rcases m with m | m
     · exact absurd v m
     · exact absurd m n
 · rcases hq with ⟨v,m,_,_⟩ | ⟨m,e2⟩
   · rcases n with n | n
     · exact absurd v n
     · exact absurd n m
   · subst e e2
     refine ⟨[],[],IL.nil,IL.nil,IL.nil,IL.nil,fun hv=>?_,fun _=>rfl⟩
     rcases n with n | n
     · exact absurd hv n
     · exact n.symm
theorem za4w (hx:SK h s S) (ht:GT h) (hl:IL h l xs) (hk:∀h',h.le h'→K true h'):F.zgw s l K h:=by
 unfold F.zgw
 have hll:=hl.len
 refine za5 (fun _ h'=>h.le h'∧sSk S∧xs.length≤20) ?_ ?_
 · rintro _ h1 ⟨hl1,hs,h20⟩
   refine zri (hx.le hl1) hs (ht.le hl1) fun r3 h2 hl2 hr3=>?_
   have hle2:=Hp.le_trans hl1 hl2
   obtain ⟨az,i1,e1,e2⟩:∃az,IL h2 r3.1 az∧(VS S→az=coreS S)∧(¬VS S→az=[]):=by
    obtain ⟨az,bs,i1,_,_,_,e1,e2⟩:=zzj (Hp.le_refl _) hr3 hr3
    exact ⟨az,i1,e1,e2⟩
   have hcl:=zrm hs
   have hal:az.length≤20:=by
    by_cases hv:VS S
    · rw [e1 hv]; exact hcl
    · rw [e2 hv]; simp
   have n1:=i1.len
   refine zn6 (hx.le hle2) hs (ht.le hle2) i1 (by omega) fun b4 h4 hl4 hb4=>?_
   have hle4:=Hp.le_trans hle2 hl4
   have e4:b4=decide ((r3.1.len:Int)>0):=by
    rw [Bool.eq_iff_iff,hb4,decide_eq_true_iff]
    constructor
    · rintro ⟨_,hc⟩
      have:=List.length_pos_iff.2 hc.1
      omega
    · intro h5
      have hne:az≠[]:=fun hh=>by rw [hh] at n1; simp at n1; omega
      have hv:VS S:=Classical.byContradiction fun hn=>hne (e2 hn)
      rw [e1 hv] at hne ⊢
      exact ⟨hv,(zze hs hv).2 hne⟩
   rw [e4,beq_self_eq_true]
   refine zb1 rfl ?_
   refine zn6 (hx.le hle4) hs (ht.le hle4) (hl.le hle4) (by omega) fun b5 h5 hl5 hb5=>?_
   have hle5:=Hp.le_trans hle4 hl5
   refine za6 (fun _=>hk _ hle5) (fun h6=>?_)
   obtain ⟨hv,hc⟩:=hb5.1 (by simpa using h6)
   have hsub:=zzd hs hv hc
   rw [e1 hv] at i1
   refine zcx (n:=xs.length) (by omega) (fun i h'=>h'=h5) rfl ?_
   rintro i h7 hi rfl k hk2
   refine za0 (fun h8=>?_) (fun h8=>hk _ hle5)
   have hi':i<xs.length:=by simp only at h8; omega
   refine (hl.le hle5).get i rfl hi' ?_
   refine za6v (i1.le (Hp.le_trans hl4 hl5)) (by omega) fun st hst=>?_
   rw [hst]
   refine zb1 ?_ (hk2 _ hi' rfl)
   rw [decide_eq_true (hsub _ (List.getElem_mem hi'))]; rfl
 · refine zkw ht fun h1 hl1=>zb1 rfl ?_
   refine zuw (hx.le hl1) fun b h2 hl2 hb=>?_
   have hle2:=Hp.le_trans hl1 hl2
   refine za6 (fun h3=>zkw (ht.le hle2) fun h3 hl3=>hk _ (Hp.le_trans hle2 hl3)) (fun h3=>?_)
   exact za0 (fun h4=>zkw (ht.le hle2) fun h3 hl3=>hk _ (Hp.le_trans hle2 hl3)) (fun h4=>⟨hle2,hb (by simpa using h3),by omega⟩)
end
end Den
end
