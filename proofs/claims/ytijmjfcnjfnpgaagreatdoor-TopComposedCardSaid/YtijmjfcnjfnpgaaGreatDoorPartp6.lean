/-
  Part 6 of the tools and contracts from which the statement is proved.
-/
import Derived.Test.YtijmjfcnjfnpgaaGreatDoorPartp5
import Derived.Test.YtijmjfcnjfnpgaaGreatDoorProg
import Derived.Laws.Externs
import Derived.Shelf.Sort.Plain
import Derived.Shelf.Slices.In.SortNone
import Derived.Calls
set_option linter.all false
open Go.IntKind
noncomputable section
set_option maxRecDepth 100000
namespace Den
open Go Go.Proofs Go.Proofs.Tryz
def Z31:zl:=mkE (asl (asl az)) (t2 ti tb) λa=>F.W7 a.1 a.2.1
theorem Zhy:EnP 232 Z31 false:=eo (cgP 29 [(40,z9b)] [] [] [20]) (.q (.q (.s (.q (.b (.loop [(6,.s),(11,.i)] (.q (.s (.c .l .l) (.join [(6,.s)] (.b (.q (.q (.c .l .l)))) .l)))))) (.s (.q (.c .w .l)) .w)))) func232 ⟨zc6,trivial⟩
def Z32:zl:=mkE (asl az) tb λa=>F.z0h a.1
theorem Zhz:EnP 233 Z32 false:=eo (cgP 28 []) (.q (.s (.q (.b (.loop [(7,.i)] (.q (.s (.c .l .l) (.join [] (.b (.q (.q (.c .w .l)))) .l)))))) .w)) func233 trivial
def Z33:zl:=mkE (asl (asl (asl az))) (Ty.tup (.cons ti (.cons ti (.cons ti (.cons tb .nil)))) (λx=>(x.1,x.2.1,x.2.2.1,x.2.2.2,())) (λy=>(y.1,y.2.1,y.2.2.1,y.2.2.2.1)) (λ_=>rfl) (λ_=>rfl)) λa=>F.z3t a.1 a.2.1 a.2.2.1
theorem Zi0:EnP 180 Z33 false:=eo (cgP 77 [(232,Z31),(233,Z32)]) (.q (.q (.q (.q (.join [] (.q (.c .w .l)) .w))))) func180 ⟨Zhy,Zhz,trivial⟩
def zrx:zl:=mkE (ac z33 (ac z33 (ac z33 az))) (t2 z33 tb) λa=>F.z0f a.1 a.2.1 a.2.2.1
theorem Z6b:EnP 107 zrx false:=eo (cgP 33 [(43,zls),(180,Z33)] [] [] [3,4,5,6]) (.q (.s (.draw [0,2,4,1,3,5,6,7,8,9,10,11,12,13,14,15]) .w)) func107 ⟨zts,Zi0,trivial⟩
def Z34:zl:=mkE (asl az) (t2 ts tb) λa=>F.z43 a.1
theorem Zi1:EnP 42 Z34 false:=eo (cgP 81 [(107,zrx)] [] [] [7,11,75]) (.q (.s (.q (.b (.loop [(14,.i)] (.q (.s (.c .l .l) (.s (.b (.q (.q (.b (.loop [(5,.i)] (.s (.q (.c .l .l)) (.s (.b (.q (.b (.loop [(6,.i)] (.s (.q (.c .l .l)) (.s (.b (.s (.draw [0,1,2,3,4,5,6,7,8,9,10,11,16,12,13,14,15,17,18]) (.s (.q (.c .l .l)) (.q (.s (.q (.b (.loop [(9,.s),(55,.i)] (.q (.s (.c .l .l) (.join [(9,.s)] (.b (.q (.q (.c .l .l)))) .l)))))) .w))))) .l)))))) .l))))))) .l)))))) .w)) func42 ⟨Z6b,trivial⟩
def zry:zl:=mkE (ac Xp az) (t2 z33 ti) λa=>F.z0d a.1
theorem Z6c:EnP 18 zry false:=eo (cgP 57 [(37,z88),(42,Z34),(43,zls)] [] [(14,1),(18,1),(26,6),(28,6),(49,1)] [1,2,6,31]) (.q (.s (.b (.q (.c .w (.q (.c .w .l))))) (.q (.s (.q (.b (.loop [(4,.s),(21,.i)] (.q (.s (.c .l .l) (.s (.b .w) .l)))))) (.s (.q (.b (.loop [(4,.s),(7,.b)] (.s (.q (.c .l .l)) (.b .l))))) (.join [(2,.box [.int .i64,.int .i64,.int .i64,.sl])] (.s (.draw [0,1,2,3,4,5,6,9,10,7,8,11,12]) (.c .w .l)) .w)))))) func18 ⟨za8,Zi1,zts,trivial⟩
def Z35:zl:=mkE (ac Xp az) ti λa=>F.z63 a.1
theorem Zi2:EnP 47 Z35 false:=eo (cgP 13 [(37,z88),(17,zlg)] [] [(6,1)] [1]) (.q (.s (.q (.c .w .l)) (.s (.draw [0,1,2,3,4,5,6,7]) .l))) func47 ⟨za8,ztg,trivial⟩
def zrz:zl:=mkE (ac Xp az) tb λa=>F.z2q a.1
theorem Z6d:EnP 21 zrz false:=eo (cgP 15 [(37,z88),(47,Z35)] [] [(6,1)] [1]) (.q .w) func21 ⟨za8,Zi2,trivial⟩
def Z36:zl:=mkE (asl (asl az)) ti λa=>F.Vv a.1 a.2.1
theorem Zi3:EnP 114 Z36 false:=eo (cgP 36 [(169,znt)]) (.q (.s (.q (.b (.loop [(11,.i)] (.q (.s (.c .l .l) (.s (.b (.q (.s (.q (.c .w .l)) (.q (.q (.q (.c .w .l))))))) .l)))))) (.s (.q (.c .w .l)) .w))) func114 ⟨zva,trivial⟩
def Zcv:zl:=mkE (ac z4k (ac z4k az)) ti λa=>F.z16 a.1 a.2.1
theorem Zi4:EnP 113 Zcv false:=eo (cgP 8 [(114,Z36)]) (.q (.s (.draw [0,1,2,3]) .l)) func113 ⟨Zi3,trivial⟩
def Y4:zl:=mkM (asl (ArgT.fn 113 az)) tu λa=>F.qn a.1
theorem Wf:EnP 112 Y4 true:=z0r ⟨_,func112,rfl,by decide⟩ λa K D w hs hk=>zp6 (g:=113) (C:=λb o n w=>CmpLays prog 113 #[] Xy 2 z56 b o n w) (lt:=λx y=>!(ltOf z56) y x) (λp c fv w=>AnyF.slices_SortFunc_none Tryz.sortP p c fv w) (λb o c d w h1 h2 h3 h4=>AnyQ.slices_SortFunc_total Tryz.sortP 2 (λw=>by kernel_rfl) (λw=>by kernel_rfl) Xy (λ_=>rfl) Z3p z56 Zl2 113 #[] b o c d w (enters_of func113 (by kernel_rfl) rfl) h1 h2 h3 h4 Zlb) (λxs=>rfl) (λb o n w=>zvq Zi4.fn λx y K hk=>(ArgT.cmp (ac z4k (ac z4k az)) ((⟨x.1,x.2⟩:A2_Int),(⟨y.1,y.2⟩:A2_Int),()) _).2 (zd (λr _=>r=z56 x y) (λK2 hk2=>z7x λh' hl=>hk2 _ _ hl rfl) (λr h' _ hr=>by subst hr;exact hk h'))) a.1 K D w hs hk
def Z37:zl:=mkE (asl (asl az)) tb λa=>F.Q7 a.1 a.2.1
theorem Zi5:EnP 115 Z37 false:=eo (cgP 26 []) (.q (.s (.q (.c .w .l)) (.s (.q (.b (.loop [(13,.i)] (.q (.s (.c .l .l) (.s (.b (.q (.s (.draw [0,1,2,3,4,5,6,7,8]) (.c .w .l)))) .l)))))) .w))) func115 trivial
def zdk:ArgT (TTree×Unit):=(ac z33 az)
def zdn:Ty Bool:=tb
def Zb7:ArgT (TTree×Unit):=(ac z33 az)
def Zbh:Ty Bool:=tb
def Z38(Zlg:TTree->(Bool->Hp->Prop)->Hp->Prop):zl:=mkE Zb7 Zbh λa=>F.z3p Zlg a.1
theorem Zi6(Zlg:TTree->(Bool->Hp->Prop)->Hp->Prop)(Zlj:EnP 116 (mkE zdk zdn (λa=>Zlg a.1)) false):EnP 185 (Z38 Zlg) false:=eo (cgP 6 [(116,mkE zdk zdn (λa=>Zlg a.1))] [] [] [1]) (.q .w) func185 ⟨Zlj,trivial⟩
def Zb8:ArgT (Sl×Unit):=(asl (ArgT.fn 185 az))
def Zbi:Ty Int:=ti
def Z39(Zlg:TTree->(Bool->Hp->Prop)->Hp->Prop):zl:=mkE Zb8 Zbi λa=>F.yq Zlg a.1
theorem Zi7(Zlg:TTree->(Bool->Hp->Prop)->Hp->Prop)(Zlj:EnP 116 (mkE zdk zdn (λa=>Zlg a.1)) false):EnP 253 (Z39 Zlg) false:=eo (cgP 19 [(185,(Z38 Zlg))]) (.q (.s (.q (.b (.loop [(8,.i)] (.q (.s (.c .l .l) (.s (.b (.q (.q (.c .w .l)))) .l)))))) .w)) func253 ⟨(Zi6 Zlg Zlj),trivial⟩
def Zb9:ArgT (Sl×Unit):=(asl (ArgT.fn 185 az))
def Zbj:Ty Bool:=tb
def Z3a(Zlg:TTree->(Bool->Hp->Prop)->Hp->Prop):zl:=mkE Zb9 Zbj λa=>F.yd Zlg a.1
theorem Zi8(Zlg:TTree->(Bool->Hp->Prop)->Hp->Prop)(Zlj:EnP 116 (mkE zdk zdn (λa=>Zlg a.1)) false):EnP 184 (Z3a Zlg) false:=eo (cgP 9 [(253,(Z39 Zlg))]) (.q .w) func184 ⟨(Zi7 Zlg Zlj),trivial⟩
def Z3b:zl:=mkE zdk zdn λa=>F.z6i a.1
def Zbw(n:Nat):Cfg:=(cgP 56 [(107,zrx),(184,(Z3a (F.Qt n)))] [] [(5,1),(9,1),(14,1),(19,1),(23,1),(27,1),(36,3),(38,1),(43,3),(45,1),(50,3),(52,1)] [1,3])
theorem Z72:∃fn,prog.funcs[116]?=some fn/\fn.body.isNone=false/\(fn.name == "runtime.NumGoroutine")=false:=⟨_,func116,rfl,by decide⟩
set_option maxHeartbeats 4000000 in
theorem Z7g:∀n a K D w,Sub D w->F.Qt n a.1 K D->Calls prog 116 (zdk.up a).toArray w (z52 (λv h=>zdn.dn v λr=>K r h) D w)
 | 0,_,_,_,_,_,h=>h.elim
 | n+1,a,K,D,w,hs,h=>z0g (C:=Zbw n) (F:=λa=>F.Qt (n+1) a.1) (fn:=f116) (c:=bd f116) (an:=(.seq .leaf (.seq (.seq .leaf (.cond (.seq .leaf .leaf) .leaf)) (.join [] (.seq .leaf (.cond (.seq .leaf .leaf) .leaf)) (.seq (.draw [0,1,2,3,4,5,6,7,8,9,10,11,16,12,13,14,15,17,18]) (.seq .leaf .leaf)))))) ⟨Z6b,(Zi8 (F.Qt n) (Y7 Z72 (Z7g n))),trivial⟩ trivial func116 rfl rfl (λ_=>rfl) (by intro a K D;kernel_rfl) a K D w hs h
theorem Zi9:EnP 116 Z3b false:=Y7 Z72 (λa K D w hs h=>h.elim λm h=>Z7g m a K D w hs h)
def Z3c:zl:=mkE (ac Xp (ac z33 az)) tb λa=>F.z32 a.1 a.2.1
theorem Zia:EnP 46 Z3c false:=eo (cgP 26 [(108,zrw),(112,Y4),(115,Z37),(43,zls),(116,Z3b)] [112] [(11,2),(18,2)] [2,3]) (.q (.q (.q (.s (.draw [0,1,2,3,4,5,8,9,6,7,10,11,12,13,14,15,16]) .l)))) func46 ⟨Z6a,Wf,Zi5,zts,Zi9,trivial⟩
def zs0:zl:=mkE (ac Xp (ac z33 az)) tb λa=>F.z0e a.1 a.2.1
theorem Z6e:EnP 20 zs0 false:=eo (cgP 17 [(37,z88),(46,Z3c)] [] [(8,2)] [2,3]) (.q .w) func20 ⟨za8,Zia,trivial⟩
def zb6:zl:=mkE az tb λa=>F.Xi
theorem zjc:EnP 6 zb6 false:=eo (cgP 57 [(26,z5s),(25,z8y),(24,Z2z),(18,zry),(21,zrz),(20,zs0),(9,z6s),(16,Z1g),(12,Z1f)] [] [] [1,5]) (.q (.q (.q (.q (.q .w))))) func6 ⟨zc5,zfx,Zhw,Z6c,Z6d,Z6e,zda,Zgd,Zgc,trivial⟩
def Z3d:zl:=mkE (ac Xp az) tb λa=>F.zav a.1
theorem Zib:EnP 7 Z3d false:=eo (cgP 12 [] [] [(3,1),(7,1)] [1]) (.q .w) func7 trivial
def Z3e:zl:=mkE (ac z4k (ac z4k az)) tb λa=>F.z5h a.1 a.2.1
theorem Zic:EnP 27 Z3e false:=eo (cgP 24 [] [] [(5,2),(7,3),(11,2),(13,3),(17,2),(19,3)] [2,3]) (.q .w) func27 trivial
def Z3f:zl:=mkE (ac Xp az) tb λa=>F.z4h a.1
theorem Zid:EnP 8 Z3f false:=eo (cgP 57 [(27,Z3e)] [] [(5,1),(9,1),(14,1),(20,1),(25,4),(29,4),(31,4),(36,4),(38,1),(46,1)] [1,4]) (.q (.join [] (.q (.c .w .l)) (.s (.q (.b (.loop [(3,.i)] (.s (.q (.c .l .l)) (.join [] (.b (.q (.s (.draw [0,1,2,3,4,5,6,7,8,9,10,11,12,13,14,15,16,17,18,19,20,21,22,23,24,25,26,27,28,29,30,31]) (.c .w .l)))) .l))))) .w))) func8 ⟨Zic,trivial⟩
def zs1:zl:=mkE (asl az) ts λa=>F.qv a.1
theorem Z6f:EnP 45 zs1 false:=eo (cgP 8 []) (.q (.s (.q (.c .w .l)) .w)) func45 trivial
def zpu:ArgT ((Option Addr)×Int×Sl×Unit):=(ap (ai (asl az)))
def zqb:Ty Bool:=tb
def Z3g:zl:=mkM zpu zqb λa=>F.y_pebble_assignment_assign a.1 a.2.1 a.2.2.1
def Zbx(n:Nat):Cfg:=(cgP 96 [(111,mkM zpu zqb (λa=>F.y_pebble_assignment_assign_ n a.1 a.2.1 a.2.2.1))] [111] [] [50])
theorem Z73:∃fn,prog.funcs[111]?=some fn/\fn.body.isNone=false/\(fn.name == "runtime.NumGoroutine")=false:=⟨_,func111,rfl,by decide⟩
set_option maxHeartbeats 4000000 in
theorem Z7h:∀n a K D w,Sub D w->F.y_pebble_assignment_assign_ n a.1 a.2.1 a.2.2.1 K D->Calls prog 111 (zpu.up a).toArray w (z52 (λv h=>zqb.dn v λr=>K r h) D w)
 | 0,_,_,_,_,_,h=>h.elim
 | n+1,a,K,D,w,hs,h=>z0g (C:=Zbx n) (F:=λa=>F.y_pebble_assignment_assign_ (n+1) a.1 a.2.1 a.2.2.1) (fn:=f111) (c:=bd f111) (an:=(.seq .leaf (.seq (.seq .leaf (.block (.loop [(18,.i)] (.seq .leaf (.seq (.cond .leaf .leaf) (.join [] (.block (.seq .leaf (.seq (.seq .leaf (.cond .leaf .leaf)) (.seq .leaf (.seq (.seq .leaf (.cond (.seq (.drawC [0,1,2,3,4,5,6,7,8,9,10,11,12,13] 14 [15,16] [3]) (.seq .leaf (.seq .leaf .leaf))) .leaf)) (.seq .leaf (.block (.loop [(68,.i)] (.seq .leaf (.seq (.cond .leaf .leaf) (.seq (.block (.seq .leaf (.seq .leaf (.cond (.seq .leaf (.seq .leaf (.seq .leaf .leaf))) .leaf)))) .leaf))))))))))) .leaf)))))) (.seq .leaf .leaf)))) ⟨(z0r Z73 (Z7h n)),trivial⟩ trivial func111 rfl rfl (λ_=>rfl) (by intro a K D;kernel_rfl) a K D w hs h
theorem Zie:EnP 111 Z3g true:=z0r Z73 (λa K D w hs h=>h.elim λm h=>Z7h m a K D w hs h)
def Z3h:zl:=mkE (ai (asl az)) (t2 ts tb) λa=>F.z5d a.1 a.2.1
theorem Zif:EnP 44 Z3h false:=eo (cgP 32 [(111,Z3g)] [111]) (.q (.s (.draw [0,1,2,4,3,5,6,7,8]) (.s (.q (.b (.loop [(18,.i)] (.q (.s (.c .l .l) (.s (.b (.q (.q (.c .w .l)))) .l)))))) .w))) func44 ⟨Zie,trivial⟩
def Z3i:zl:=mkE (ac Xp az) (t2 ts tb) λa=>F.Vs a.1
theorem Zig:EnP 19 Z3i false:=eo (cgP 50 [(45,zs1),(44,Z3h),(37,z88),(17,zlg)] [] [(16,1),(21,1),(29,1),(31,1)] [1,6,37,46]) (.q (.join [] (.s (.draw [0,1,2,3,4,7,8,9,5,6,10,11]) (.c .w .l)) (.q (.s (.q (.b (.loop [(4,.s),(24,.i)] (.q (.s (.c .l .l) (.s (.b (.q (.s (.draw [0,1,2,3,5,6,7,8,4,9,10,11,12,13,14,15]) (.s (.q (.c .w .l)) .l)))) .l)))))) .w)))) func19 ⟨Z6f,Zif,za8,ztg,trivial⟩
def Z3j:zl:=mkM (asl (ai (ai az))) ts λa=>F.Qw a.1 a.2.1 a.2.2.1
theorem Zih:EnP 48 Z3j true:=eoM (cgP 33 []) (.q (.q (.s (.q (.c .w .l)) (.q (.s (.draw [0,1,2,3,4,5,6,7]) (.q .w)))))) func48 trivial
def Z3k:zl:=mkE (ac Xp az) ts λa=>F.z0v a.1
theorem Zii:EnP 22 Z3k false:=eo (cgP 45 [(37,z88),(17,zlg),(45,zs1),(48,Z3j),(41,zrg)] [48] [(15,1),(21,1),(29,1)] [1,41]) (.q (.s (.q (.c .w .l)) (.q (.q (.s (.q (.b (.loop [(4,.s),(18,.i)] (.q (.s (.c .l .l) (.join [(4,.s)] (.b (.q (.q (.q (.q (.c .l .l)))))) .l)))))) .w))))) func22 ⟨za8,ztg,Z6f,Zih,Z5u,trivial⟩
def zcn:zl:=mkE (ac Xp az) tb λa=>F.z4u a.1
theorem zv8:EnP 4 zcn false:=eo (cgP 58 [(18,zry),(19,Z3i),(20,zs0),(21,zrz),(22,Z3k),(6,zb6),(7,Z3d),(8,Z3f)] [] [(40,1),(43,1)] [1,3]) (.q (.join [] (.q (.c .w .l)) (.q (.s (.q (.c .w .l)) (.q .w))))) func4 ⟨Z6c,Zig,Z6e,Z6d,Zii,zjc,Zib,Zid,trivial⟩
end Den
end

section
set_option maxRecDepth 100000
namespace Den
open Go Go.Proofs.Tryz
end Den
end

section
namespace Den
open Go Iv
abbrev BM:=Nat->Option (List Value)
def Wd(f:BM)(b:Nat)(cs:List Value):BM:=λk=>if k=b then some cs else f k
def z6x:BM:=λ_=>none
theorem Zn{f:BM}{b:Nat}{cs:List Value}:Wd f b cs b=some cs:=by simp[Wd]
theorem Y0{f:BM}{b k:Nat}{cs:List Value}(h:k≠b):Wd f b cs k=f k:=by simp[Wd,h]
theorem zer{f:BM}{b:Nat}{cs ds:List Value}:Wd (Wd f b cs) b ds=Wd f b ds:=by
 funext k;unfold Wd;by_cases h:k=b<;>simp[h]
structure Bk(D h:Hp)(f:BM):Prop where
 le:D.le h
 own:∀b cs,f b=some cs->D b=none/\∃e,h b=some ⟨cs,e,(0,0)⟩
theorem Vg(b o i:Nat):(⟨b,o,none⟩:Addr).add i=⟨b,o+i,none⟩:=by
 unfold Addr.add;split
 . rename_i h;subst h;rfl
 . rfl
section
variable {D h : Hp} {f : BM} {b o i : Nat} {cs vs : List Value} {v : Value}
theorem Bk.start:Bk h h z6x:=⟨Hp.le_refl _,λb cs hb=>by cases hb⟩
theorem Bk.fresh(hB:Bk D h f)(hb:h b=none):f b=none/\D b=none:=by
 constructor
 . cases hf:f b with
   | none=>rfl
   | some cs=>obtain⟨_,e,he⟩:=hB.own b cs hf;rw[hb]at he;cases he
 . cases hd:D b with
   | none=>rfl
   | some B=>have:=hB.le b B hd;rw[hb]at this;cases this
theorem Bk.cell(hB:Bk D h f)(hf:f b=some cs)(hv:cs[i]?=some v):h.cell ⟨b,i,none⟩=some v:=by
 obtain⟨_,e,he⟩:=hB.own b cs hf
 unfold Hp.cell
 simp only[he];exact hv
theorem Bk.ld{l:Lf}{x:l.T}{K:l.T->Prop}(hB:Bk D h f)(hf:f b=some cs)(hv:cs[i]?=some (l.up x))(H:K x):ldL l ⟨b,i,none⟩ K h:=⟨x,hB.cell hf hv,H⟩
theorem Bk.st{K:Hp->Prop}(hB:Bk D h f)(hf:f b=some cs)(hlen:o+vs.length<=cs.length)(hleaf:vs.all Value.leaf=true)(H:∀h',Bk D h' (Wd f b (z8 cs o vs))->K h'):stP ⟨b,o,none⟩ vs K h:=by
 obtain⟨hd,e,he⟩:=hB.own b cs hf
 refine⟨_,he,rfl,rfl,hlen,hleaf,H _ ⟨λk B hk=>?_,λk ds hk=>?_⟩⟩
 . rw[Hp.ins_ne (λhh=>by rw[hh,hd]at hk;cases hk)];exact hB.le k B hk
 . by_cases hkb:k=b
   . subst hkb
     rw[Zn]at hk;cases hk
     exact⟨hd,e,Hp.ins_same _ _ _⟩
   . rw[Y0 hkb]at hk
     rw[Hp.ins_ne hkb];exact hB.own k ds hk
theorem Bk.insD{e:TypeId}(hB:Bk D h f)(hb:h b=none):Bk (D.ins b ⟨cs,e,(0,0)⟩) (h.ins b ⟨cs,e,(0,0)⟩) f:=by
 refine⟨λk B hk=>?_,λk ds hk=>?_⟩
 . by_cases hkb:k=b
   . subst hkb;rw[Hp.ins_same]at hk |-;exact hk
   . rw[Hp.ins_ne hkb]at hk |-;exact hB.le k B hk
 . have hkb:k≠b:=λhh=>by subst hh;rw[(hB.fresh hb).1]at hk;cases hk
   rw[Hp.ins_ne hkb,Hp.ins_ne hkb];exact hB.own k ds hk
theorem Bk.insF{e:TypeId}(hB:Bk D h f)(hb:h b=none):Bk D (h.ins b ⟨cs,e,(0,0)⟩) (Wd f b cs):=by
 refine⟨λk B hk=>?_,λk ds hk=>?_⟩
 . rw[Hp.ins_ne (λhh=>by rw[hh,(hB.fresh hb).2]at hk;cases hk)];exact hB.le k B hk
 . by_cases hkb:k=b
   . subst hkb;rw[Zn]at hk;cases hk
     exact⟨(hB.fresh hb).2,e,Hp.ins_same _ _ _⟩
   . rw[Y0 hkb]at hk;rw[Hp.ins_ne hkb];exact hB.own k ds hk
theorem Bk.newD{K:Addr->Hp->Prop}(hB:Bk D h f)(H:∀b D' h',h b=none->D.le D'->(∀i v,cs[i]?=some v->D'.cell ⟨b,i,none⟩=some v)->Bk D' h' f->K ⟨b,0,none⟩ h'):Yu cs K h:=by
 intro b e hb
 refine H b (D.ins b ⟨cs,e,(0,0)⟩) _ hb (Hp.le_ins (hB.fresh hb).2) (λi v hv=>?_) (hB.insD hb)
 unfold Hp.cell
 simp only[Hp.ins_same];exact hv
theorem Bk.newF{K:Addr->Hp->Prop}(hB:Bk D h f)(H:∀b h',f b=none->D b=none->Bk D h' (Wd f b cs)->K ⟨b,0,none⟩ h'):Yu cs K h:=by
 intro b e hb
 exact H b _ (hB.fresh hb).1 (hB.fresh hb).2 (hB.insF hb)
theorem Bk.mkF{K:Sl->Hp->Prop}{len cap:Int}{bytes:Nat}{zero:List Value}(l c:Nat)(hB:Bk D h f)(hl:len=l)(hc:cap=c)(hlc:l<=c)(hb:bytes*c<=140737488355328)(hb2:c<=140737488355328)
 (H:∀b h',f b=none->D b=none->Bk D h' (Wd f b (Z6 c zero))->K ⟨some ⟨b,0,none⟩,l,c⟩ h'):mkP len cap bytes zero K h:=by
 subst hl hc
 refine⟨by omega,by omega,(Int.natCast_mul bytes c)▸(Int.ofNat_le.2 hb),by omega,?_⟩
 exact hB.newF λb h' h1 h2 h3=>H b h' h1 h2 h3
theorem Bk.call{α:Type}{G:(α->Hp->Prop)->Hp->Prop}{K1 K:α->Hp->Prop}(hB:Bk D h f)(H:zc G K1 D)(k:∀v D' h',D.le D'->Bk D' h' f->K1 v D'->K v h'):zc G K h:=
 zds hB.le H λv D' h' h1 h2 h3 h4=>k v D' h' h1 ⟨h2,λb cs hb=>by
  obtain⟨g1,e,g2⟩:=hB.own b cs hb
  have:=h3 b g1 (by rw[g2];simp)
  exact⟨this.1,e,by rw[this.2];exact g2⟩⟩ h4
theorem Bk.mono{h':Hp}(hB:Bk D h f)(hl:h.le h'):Bk D h' f:=⟨Hp.le_trans hB.le hl,λb cs hb=>by
 obtain⟨g1,e,g2⟩:=hB.own b cs hb
 exact⟨g1,e,hl _ _ g2⟩⟩
def OS(f:BM)(size:Nat)(x:Sl)(cs:List Value):Prop:=x.len*size=cs.length/\x.len<=x.cap /\
 match x.a with
 | none=>x.cap=0
 | some a=>a.off=0/\a.spot=none/\∃bs,f a.block=some bs/\bs.length=x.cap*size/\bs.take cs.length=cs
def inB(x:Sl)(b:Nat):Prop:=∃a,x.a=some a/\a.block=b
variable {size : Nat} {x : Sl}
theorem OS.nil:OS f size zf []:=⟨by simp[zf],Nat.le_refl _,rfl⟩
theorem OS.congr{g:BM}(ho:OS f size x cs)(h:∀b,inB x b->g b=f b):OS g size x cs:=by
 obtain⟨h1,h2,h3⟩:=ho
 refine⟨h1,h2,?_⟩
 cases ha:x.a with
 | none=>rw[ha]at h3;exact h3
 | some a=>
   rw[ha]at h3
   obtain⟨g1,g2,bs,g3,g4⟩:=h3
   exact⟨g1,g2,bs,by rw[h a.block ⟨a,ha,rfl⟩];exact g3,g4⟩
theorem OS.upd{cs':List Value}(ho:OS f size x cs)(h:¬inB x b):OS (Wd f b cs') size x cs:=ho.congr λk hk=>Y0 λhh=>h (hh▸hk)
theorem OS.there(ho:OS f size x cs)(h:inB x b):f b≠none:=by
 obtain⟨a,ha,rfl⟩:=h
 obtain⟨_,_,h3⟩:=ho
 rw[ha]at h3
 obtain⟨_,_,bs,g3,_⟩:=h3
 rw[g3];simp
theorem OS.own(ho:OS f size x cs)(hB:Bk D h f):Own D h size x cs:=by
 obtain⟨h1,h2,h3⟩:=ho
 refine⟨hB.le,h1,h2,?_⟩
 cases ha:x.a with
 | none=>rw[ha]at h3;exact h3
 | some a=>
   rw[ha]at h3
   obtain⟨g1,g2,bs,g3,g4,g5⟩:=h3
   obtain⟨k1,e,k2⟩:=hB.own _ _ g3
   exact⟨g1,g2,k1,_,k2,rfl,g4,g5⟩
theorem OS.rd(ho:OS f size x cs)(hB:Bk D h f):Rd h size x cs:=(ho.own hB).rd
theorem OS.st{K:Hp->Prop}{z:Int}(k:Nat)(ho:OS f size x cs)(hB:Bk D h f)(hi:z=k)(hk:k<x.len)(hv:vs.length=size)(hsz:0<size)(hleaf:vs.all Value.leaf=true)
 (H:∀f' h',Bk D h' f'->OS f' size x (z8 cs (k*size) vs)->(∀b,¬inB x b->f' b=f b)->K h'):zg x z size λa=>stP a vs K h:=by
 subst hi
 have ho':=ho
 obtain⟨h1,h2,h3⟩:=ho
 refine⟨by omega,by omega,?_⟩
 cases ha:x.a with
 | none=>rw[ha]at h3;simp only at h3;omega
 | some a=>
   rw[ha]at h3
   obtain⟨g1,g2,bs,g3,g4,g5⟩:=h3
   have ea:a=⟨a.block,0,none⟩:=by cases a;simp only at g1 g2;rw[g1,g2]
   have e1:k*size+size<=cs.length:=by
    rw[<-h1]
    have:=Nat.mul_le_mul_right size (show k+1<=x.len by omega)
    rw[Nat.add_mul]at this;omega
   have e2:cs.length<=bs.length:=by rw[g4,<-h1];exact Nat.mul_le_mul_right _ h2
   show ym (some a) _
   simp only[ym]
   rw[ea,Vg,Nat.zero_add,show((k:Int).toNat)=k from rfl]
   refine hB.st g3 (by omega) hleaf λh' hB'=>H _ h' hB' ⟨?_,h2,?_⟩ λb hb=>Y0 λhh=>hb ⟨a,ha,hh.symm⟩
   . rw[Yb (by omega)];exact h1
   . rw[ha]
     refine⟨g1,g2,_,Zn,?_,?_⟩
     . rw[Yb (by omega)];exact g4
     . rw[Yb (by omega)]
       exact za4 (by omega) g5
theorem OS.app{K:Sl->Hp->Prop}{bytes n:Nat}{zero new:List Value}(ho:OS f size x cs)(hB:Bk D h f)(hn:new.length=n*size)(hz:zero.length=size)(hleaf:new.all Value.leaf=true)
 (hb:(x.len+n)*bytes<=140737488355328) (hb2:x.len+n<=140737488355328)
 (H:∀y f' h',Bk D h' f'->OS f' size y (cs++new)->(∀b,¬inB x b->f b≠none->f' b=f b)->(∀b,inB y b->inB x b\/f b=none/\D b=none)->K y h'):Y6 size bytes zero x n new K h:=by
 have hrd:=ho.rd hB
 obtain⟨h1,h2,h3⟩:=ho
 refine⟨hb,hb2,λhfit=>?_,λhgrow=>?_⟩
 . cases ha:x.a with
   | none=>
     rw[ha]at h3
     simp only at h3
     have hn0:n=0:=by omega
     have hnew:new=[]:=by
      cases new with
      | nil=>rfl
      | cons a b=>rw[hn0]at hn;simp at hn
     subst hnew hn0
     simp only[stO]
     refine H _ f _ hB ⟨by simpa using h1,by show x.len+0<=x.cap;omega,h3⟩ (λ_ _ _=>rfl) (λb hb=>?_)
     obtain⟨a,h5,_⟩:=hb
     cases h5
   | some a=>
     rw[ha]at h3
     obtain⟨g1,g2,bs,g3,g4,g5⟩:=h3
     have ea:a=⟨a.block,0,none⟩:=by cases a;simp only at g1 g2;rw[g1,g2]
     have e1:(x.len+n)*size=cs.length+new.length:=by rw[Nat.add_mul,h1,hn]
     have e2:cs.length+new.length<=bs.length:=by rw[g4,<-e1];exact Nat.mul_le_mul_right _ hfit
     simp only[stO]
     have hoff:x.len*size=cs.length:=h1
     have key:∀K':Hp->Prop,(∀h',Bk D h' (Wd f a.block (z8 bs (x.len*size) new))->K' h')->stP (a.add (x.len*size)) new K' h:=by
      intro K' hK
      rw[ea,Vg,Nat.zero_add]
      exact hB.st g3 (by omega) hleaf hK
     refine key _ λh' hB'=>H _ _ h' hB' ⟨?_,hfit,?_⟩ (λb hb _=>Y0 λhh=>hb ⟨a,ha,hh.symm⟩) (λb hb=>?_)
     . show(x.len+n)*size=_;rw[List.length_append];exact e1
     . refine⟨g1,g2,_,Zn,?_,?_⟩
       . rw[Yb (by omega)];exact g4
       . unfold z8
         rw[hoff,g5,List.append_assoc,List.length_append,List.take_append]
         simp only[Nat.add_sub_cancel_left]
         rw[List.take_of_length_le (by omega),List.take_append,List.take_of_length_le (Nat.le_refl _)]
         simp
     . obtain⟨a',h5,h6⟩:=hb
       cases h5
       exact .inl ⟨a,ha,h6⟩
 . refine⟨cs,?_,λbk e c hc hfr=>?_⟩
   . rw[h1];exact hrd.2
   . refine H _ _ _ (hB.insF hfr) ⟨?_,hc,?_⟩ (λb hb hb2=>Y0 λhh=>hb2 (by rw[hh];exact(hB.fresh hfr).1)) (λb hb=>?_)
     . show(x.len+n)*size=_;rw[List.length_append,Nat.add_mul,h1,hn]
     . refine⟨rfl,rfl,_,Zn,?_,?_⟩
       . have hr:(Z6 (c-(x.len+n)) zero).length=(c-(x.len+n))*size:=by rw[z2v,hz]
         rw[List.length_append,List.length_append,hr,hn,<-h1,<-Nat.add_mul,<-Nat.add_mul]
         show _=c*size
         congr 1;omega
       . rw[List.take_append_of_le_length (by simp)]
         exact List.take_of_length_le (Nat.le_refl _)
     . obtain⟨a',h5,h6⟩:=hb
       cases h5
       subst h6
       exact .inr (hB.fresh hfr)
theorem OS.mk{n c:Nat}{zero:List Value}(hz:zero.length=size)(hnc:n<=c):OS (Wd f b (Z6 c zero)) size ⟨some ⟨b,0,none⟩,n,c⟩ (Z6 n zero):=by
 refine⟨by rw[z2v,hz],hnc,rfl,rfl,_,Zn,by rw[z2v,hz],?_⟩
 have:Z6 c zero=Z6 n zero++Z6 (c-n) zero:=by
  unfold Z6
  rw[<-List.flatten_append,List.replicate_append_replicate]
  congr 2;omega
 rw[this,List.take_append_of_le_length (Nat.le_refl _),List.take_of_length_le (Nat.le_refl _)]
theorem OS.blk{n:Nat}(hn:cs.length=n*size):OS (Wd f b cs) size ⟨some ⟨b,0,none⟩,n,n⟩ cs:=⟨hn.symm,Nat.le_refl _,rfl,rfl,_,Zn,hn,List.take_of_length_le (Nat.le_refl _)⟩
theorem OS.appF{K:Sl->Hp->Prop}{bytes n:Nat}{zero new:List Value}(ho:OS f size x cs)(hB:Bk D h f)(hn:new.length=n*size)(hleaf:new.all Value.leaf=true)
 (hb:(x.len+n)*bytes<=140737488355328) (hb2:x.len+n<=140737488355328) (hfit:x.len+n<=x.cap)
 (H:∀f' h',Bk D h' f'->OS f' size ⟨x.a,x.len+n,x.cap⟩ (cs++new)->(∀b,¬inB x b->f' b=f b)->K ⟨x.a,x.len+n,x.cap⟩ h'):Y6 size bytes zero x n new K h:=by
 have ho':=ho
 obtain⟨h1,h2,h3⟩:=ho
 refine⟨hb,hb2,λ_=>?_,λhgrow=>by omega⟩
 cases ha:x.a with
 | none=>
   rw[ha]at h3
   simp only at h3
   have hn0:n=0:=by omega
   have hnew:new=[]:=by
    cases new with
    | nil=>rfl
    | cons a b=>rw[hn0]at hn;simp at hn
   subst hnew hn0
   simp only[stO]
   have:=H f _ hB ⟨by simpa using h1,by show x.len+0<=x.cap;omega,by rw[ha];exact h3⟩ (λ_ _=>rfl)
   rw[ha]at this
   exact this
 | some a=>
   rw[ha]at h3
   obtain⟨g1,g2,bs,g3,g4,g5⟩:=h3
   have ea:a=⟨a.block,0,none⟩:=by cases a;simp only at g1 g2;rw[g1,g2]
   have e1:(x.len+n)*size=cs.length+new.length:=by rw[Nat.add_mul,h1,hn]
   have e2:cs.length+new.length<=bs.length:=by rw[g4,<-e1];exact Nat.mul_le_mul_right _ hfit
   simp only[stO]
   have hoff:x.len*size=cs.length:=h1
   have key:∀K':Hp->Prop,(∀h',Bk D h' (Wd f a.block (z8 bs (x.len*size) new))->K' h')->stP (a.add (x.len*size)) new K' h:=by
    intro K' hK
    rw[ea,Vg,Nat.zero_add]
    exact hB.st g3 (by omega) hleaf hK
   refine key _ λh' hB'=>?_
   have:=H _ h' hB' ⟨?_,hfit,?_⟩ (λb hb=>Y0 λhh=>hb ⟨a,ha,hh.symm⟩)
   . rw[ha]at this;exact this
   . show(x.len+n)*size=_;rw[List.length_append];exact e1
   . rw[ha]
     refine⟨g1,g2,_,Zn,?_,?_⟩
     . rw[Yb (by omega)];exact g4
     . unfold z8
       rw[hoff,g5,List.append_assoc,List.length_append,List.take_append]
       simp only[Nat.add_sub_cancel_left]
       rw[List.take_of_length_le (by omega),List.take_append,List.take_of_length_le (Nat.le_refl _)]
       simp
theorem OS.spare{K:Hp->Prop}{k:Nat}(ho:OS f size x cs)(hB:Bk D h f)(hx:∃a,x.a=some a)(hk:cs.length<=k)(hlen:k+vs.length<=x.cap*size)(hleaf:vs.all Value.leaf=true)
 (H:∀f' h',Bk D h' f'->OS f' size x cs->(∀b,¬inB x b->f' b=f b)->K h'):stO x.a k vs K h:=by
 obtain⟨a,ha⟩:=hx
 obtain⟨h1,h2,h3⟩:=ho
 rw[ha]at h3 |-
 obtain⟨g1,g2,bs,g3,g4,g5⟩:=h3
 have ea:a=⟨a.block,0,none⟩:=by cases a;simp only at g1 g2;rw[g1,g2]
 simp only[stO]
 have key:∀K':Hp->Prop,(∀h',Bk D h' (Wd f a.block (z8 bs k vs))->K' h')->stP (a.add k) vs K' h:=by
  intro K' hK
  rw[ea,Vg,Nat.zero_add]
  exact hB.st g3 (by omega) hleaf hK
 refine key _ λh' hB'=>H _ h' hB' ⟨h1,h2,?_⟩ (λb hb=>Y0 λhh=>hb ⟨a,ha,hh.symm⟩)
 rw[ha]
 refine⟨g1,g2,_,Zn,?_,?_⟩
 . rw[Yb (by omega)];exact g4
 . unfold z8
   rw[List.append_assoc,List.take_append_of_le_length (by simp;omega),List.take_take,Nat.min_eq_left hk];exact g5
theorem OS.cut{n:Nat}(ho:OS f size x cs)(hn:n<=x.len):OS f size (x.cut 0 n size) (cs.take (n*size)):=by
 obtain⟨h1,h2,h3⟩:=ho
 have hle:n*size<=cs.length:=by rw[<-h1];exact Nat.mul_le_mul_right _ hn
 have ea:(x.cut 0 n size).a=x.a:=by
  show(if x.cap=0 then x.a else x.a.map (·.add (0*size)))=x.a
  split
  . rfl
  . cases x.a with
    | none=>rfl
    | some a=>simp only[Option.map_some,Nat.zero_mul,Zq]
 refine⟨?_,?_,?_⟩
 . show(n-0)*size=_
   rw[List.length_take];simp;omega
 . show n-0<=x.cap-0;omega
 . rw[ea]
   cases ha:x.a with
   | none=>rw[ha]at h3;show x.cap-0=0;simp only at h3;omega
   | some a=>
     rw[ha]at h3
     obtain⟨g1,g2,bs,g3,g4,g5⟩:=h3
     refine⟨g1,g2,bs,g3,?_,?_⟩
     . show _=(x.cap-0)*size;rw[Nat.sub_zero];exact g4
     . rw[List.length_take,Nat.min_eq_left hle]
       rw[<-g5,List.take_take,Nat.min_eq_left hle]
theorem zh9{l c k:Nat}{K:Addr->Prop}(hk:k<l)(H:K ⟨b,o+k*size,none⟩):zg ⟨some ⟨b,o,none⟩,l,c⟩ (k:Int) size K:=by
 refine⟨by omega,by show(k:Int)<(l:Int);omega,?_⟩
 show ym (some ⟨b,o,none⟩) _
 simp only[ym]
 rw[Vg];exact H
theorem z79{l c k:Nat}{K:Addr->Prop}(hk:k<l)(H:K ⟨b,k,none⟩):zg ⟨some ⟨b,0,none⟩,l,c⟩ (k:Int) 1 K:=by
 refine zh9 hk ?_
 rw[Nat.zero_add,Nat.mul_one];exact H
theorem Wa{α:Type}{c:α->Value}{l:List α}{k:Nat}{v:α}(hk:k<l.length):z8 (l.map c) k [c v]=(l.set k v).map c:=by
 rw[z3m,List.map_set]
 have hk':k<(l.map c).length:=by simpa using hk
 rw[List.set_eq_take_append_cons_drop,if_pos hk']
theorem Bk.out{α:Type}{G:(α->Hp->Prop)->Hp->Prop}{K1 K:α->Hp->Prop}(hB:Bk D h f)(hf:f b=some cs)(H:Bk D (h.del b) (λk=>if k=b then none else f k)->G K1 (h.del b))
 (k:∀v h1,K1 v h1->(∀D' f',Bk D' h1 f'->Bk D' (h1.add (h.one b)) (Wd f' b cs)/\f' b=none/\D' b=none)->K v (h1.add (h.one b))):qg G K h:=by
 obtain⟨hd,e,he⟩:=hB.own b cs hf
 have h0:Bk D (h.del b) (λk=>if k=b then none else f k):=by
  refine⟨λk B hk=>?_,λk ds hk=>?_⟩
  . unfold Hp.del
    rw[if_neg (λhh=>by rw[hh,hd]at hk;cases hk)];exact hB.le k B hk
  . by_cases hkb:k=b
    . subst hkb;simp at hk
    . simp only[if_neg hkb]at hk
      unfold Hp.del
      rw[if_neg hkb];exact hB.own k ds hk
 refine⟨h.del b,h.one b,K1,Hp.del_dj h b,Hp.del_add h b,H h0,λv h1 hk hdj=>k v h1 hk λD' f' hB'=>?_⟩
 have hob:(h.one b) b=some ⟨cs,e,(0,0)⟩:=by simp[Hp.one,he]
 have h1b:h1 b=none:=by
  rcases hdj b with h2 | h2
  . exact h2
  . rw[hob]at h2;cases h2
 have hfr:=hB'.fresh h1b
 refine⟨⟨λk B hk=>Hp.le_add _ _ _ _ (hB'.le k B hk),λk ds hk=>?_⟩,hfr⟩
 by_cases hkb:k=b
 . subst hkb
   rw[Zn]at hk;cases hk
   exact⟨hfr.2,e,by unfold Hp.add;rw[h1b];exact hob⟩
 . rw[Y0 hkb]at hk
   obtain⟨q1,e',q2⟩:=hB'.own k ds hk
   exact⟨q1,e',Hp.le_add _ _ _ _ q2⟩
end
end Den
end

section
namespace Den
def szX(n:Nat)(X:Int->Bool):Nat:=(List.range n).countP λi:Nat=>X (i:Int)
def z04(es:List (Int×Int))(X:Int->Bool):Nat:=es.countP λe=>X e.1&&X e.2
def Qk(n:Nat)(es:List (Int×Int)):Prop:=∀X:Int->Bool,2<=szX n X->z04 es X+3<=2*szX n X
theorem zyf{es fs:List (Int×Int)}{X:Int->Bool}(h:es.Sublist fs):z04 es X<=z04 fs X:=h.countP_le
theorem Qk.sub{n:Nat}{es fs:List (Int×Int)}(h:Qk n fs)(hs:es.Sublist fs):Qk n es:=λX hX=>by
 have h1:=h X hX
 have h2:=zyf (X:=X) hs
 omega
theorem zaj{es:List (Int×Int)}{a b:Int}{X:Int->Bool}:z04 (es++[(a,b)]) X=z04 es X+(if X a&&X b then 1 else 0):=by
 unfold z04
 rw[List.countP_append,List.countP_singleton]
theorem zjl{es fs:List (Int×Int)}{X:Int->Bool}(h:es.Perm fs):z04 es X=z04 fs X:=h.countP_eq _
theorem Qk.perm{n:Nat}{es fs:List (Int×Int)}(h:Qk n es)(hp:es.Perm fs):Qk n fs:=λX hX=>by
 rw[<-zjl hp];exact h X hX
def za1(O:List (List Int))(X:Int->Bool)(v:Nat):Nat:=if X (v:Int)then (O.getD v []).countP X else 0
def zdw(O:List (List Int))(X:Int->Bool):Nat:=((List.range O.length).map (za1 O X)).sum
theorem zbg{f g:Nat->Nat}{a:Nat}:∀{n:Nat},a<n->(∀i,i≠a->f i=g i)->((List.range n).map f).sum+g a=((List.range n).map g).sum+f a
 | 0,h,_=>by omega
 | n+1,h,hfg=>by
   rw[List.range_succ,List.map_append,List.map_append,List.sum_append,List.sum_append]
   simp only[List.map_cons,List.map_nil,List.sum_cons,List.sum_nil,Nat.add_zero]
   by_cases ha:a=n
   . subst ha
     have:((List.range a).map f)=(List.range a).map g:=List.map_congr_left λi hi=>hfg i (by have:=List.mem_range.1 hi;omega)
     rw[this];omega
   . have:=zbg (f:=f) (g:=g) (a:=a) (n:=n) (by omega) hfg
     have:=hfg n (λhh=>ha hh.symm)
     omega
theorem Yf{α:Type}{l:List α}{i j:Nat}{x d:α}(h:i≠j):(l.set i x).getD j d=l.getD j d:=by
 rw[List.getD_eq_getElem?_getD,List.getD_eq_getElem?_getD,List.getElem?_set_ne h]
theorem Qg{α:Type}{l:List α}{i:Nat}{x d:α}(h:i<l.length):(l.set i x).getD i d=x:=by
 rw[List.getD_eq_getElem?_getD,List.getElem?_set_self h];rfl
theorem zgm{O:List (List Int)}{X:Int->Bool}{a:Nat}{l:List Int}(ha:a<O.length):zdw (O.set a l) X+za1 O X a=zdw O X+(if X (a:Int)then l.countP X else 0):=by
 unfold zdw
 rw[List.length_set]
 have:=zbg (f:=za1 (O.set a l) X) (g:=za1 O X) ha (λi hi=>by unfold za1;rw[Yf (λhh=>hi hh.symm)])
 rw[this]
 congr 1
 unfold za1
 rw[Qg ha]
structure GI(n:Nat)(O:List (List Int))(es:List (Int×Int)):Prop where
 len:O.length=n
 two:∀v,v<n->(O.getD v []).length<=2
 rng:∀v,v<n->∀u∈O.getD v [],0<=u/\u<n
 cnt:∀X:Int->Bool,zdw O X=z04 es X
def Zo(vis:List Bool)(i:Nat):Bool:=vis.getD i false
def FP(n:Nat)(O:List (List Int))(vis:List Bool)(a:Nat)(r:Bool)(O':List (List Int))(vis':List Bool):Prop:=
 O'.length=n/\vis'.length=n/\match r with
 | true=>(∀v,v<n->(O'.getD v []).length<=2)/\(∀v,v<n->∀u∈O'.getD v [],0<=u/\u<n)/\(∀X:Int->Bool,zdw O' X=zdw O X) /\
    (O'.getD a []).length+1=(O.getD a []).length/\∀v,Zo vis v=true->v≠a->O'.getD v []=O.getD v []
 | false=>O'=O/\(∀v,Zo vis v=true->Zo vis' v=true)/\Zo vis' a=true /\
    ∀v,Zo vis' v=true->Zo vis v=false->(∀u∈O.getD v [],Zo vis' u.toNat=true)/\(v≠a->(O.getD v []).length=2)
theorem zh2{α:Type}:∀{l:List α} {i:Nat} (h:i<l.length),(l[i] :: l.eraseIdx i).Perm l
 | x :: l,0,h=>by simp
 | x :: l,i+1,h=>by
   have hi:i<l.length:=by simpa using h
   have:=zh2 (l:=l) (i:=i) hi
   simp only[List.getElem_cons_succ,List.eraseIdx_cons_succ]
   exact(List.Perm.swap x l[i] (l.eraseIdx i)).trans (this.cons x)
theorem Z6p{O:List (List Int)}{a b i:Nat}{X:Int->Bool}(ha:a<O.length)(hb:b<O.length)(hab:a≠b)(hi:i<(O.getD a []).length)(he:(O.getD a [])[i]=(b:Int)) :
 zdw ((O.set a ((O.getD a []).eraseIdx i)).set b (O.getD b []++[(a:Int)])) X=zdw O X:=by
 have h1:=zgm (O:=O) (X:=X) (a:=a) (l:=(O.getD a []).eraseIdx i) ha
 have h2:=zgm (O:=O.set a ((O.getD a []).eraseIdx i)) (X:=X) (a:=b) (l:=O.getD b []++[(a:Int)]) (by rw[List.length_set];exact hb)
 have e1:za1 (O.set a ((O.getD a []).eraseIdx i)) X b=za1 O X b:=by unfold za1;rw[Yf hab]
 rw[e1]at h2
 have e2:(O.getD a []).countP X=((O.getD a []).eraseIdx i).countP X+(if X (b:Int)then 1 else 0):=by
  have hp:(O.getD a []).Perm ((b:Int) :: (O.getD a []).eraseIdx i):=by
   rw[<-he]
   exact(zh2 hi).symm
  rw[hp.countP_eq,List.countP_cons]
 have e3:(O.getD b []++[(a:Int)]).countP X=(O.getD b []).countP X+(if X (a:Int)then 1 else 0):=by rw[List.countP_append,List.countP_singleton]
 unfold za1 at h1 h2
 rw[e3]at h2
 rw[e2]at h1
 have F:∀(Y:Int->Bool) (x:Int) (p q:Nat),Y x=false->(if Y x=true then p else q)=q:=λY x p q h=>by rw[h];rfl
 have T:∀(Y:Int->Bool) (x:Int) (p q:Nat),Y x=true->(if Y x=true then p else q)=p:=λY x p q h=>by rw[h];rfl
 cases xa:X (a:Int)<;>cases xb:X (b:Int)
 . rw[F X a _ _ xa,F X a _ _ xa]at h1;rw[F X b _ _ xb,F X b _ _ xb]at h2;omega
 . rw[F X a _ _ xa,F X a _ _ xa]at h1;rw[T X b _ _ xb,T X b _ _ xb,F X a _ _ xa]at h2;omega
 . rw[T X a _ _ xa,T X a _ _ xa,F X b _ _ xb]at h1;rw[F X b _ _ xb,F X b _ _ xb]at h2;omega
 . rw[T X a _ _ xa,T X a _ _ xa,T X b _ _ xb]at h1;rw[T X b _ _ xb,T X b _ _ xb,T X a _ _ xa]at h2;omega
theorem FP.turn{n:Nat}{O O1:List (List Int)}{vis vis1 vis':List Bool}{a b i:Nat}(hO:O.length=n)(htwo:∀v,v<n->(O1.getD v []).length<=2)(hrng:∀v,v<n->∀u∈O1.getD v [],0<=u/\u<n)
 (hl:O1.length=n) (hv:vis'.length=n) (hc:∀X:Int->Bool,zdw O1 X=zdw O X) (ha:a<n) (hb:b<n) (hab:a≠b) (hvb:Zo vis b=false) (hO1:∀v,Zo vis v=true\/v=a->O1.getD v []=O.getD v [])
 (hi:i<(O.getD a []).length) (he:(O.getD a [])[i]=(b:Int)) (hfree:(O1.getD b []).length<2) :
 FP n O vis a true ((O1.set a ((O1.getD a []).eraseIdx i)).set b (O1.getD b []++[(a:Int)])) vis':=by
 have ea:=hO1 a (.inr rfl)
 have hi1:i<(O1.getD a []).length:=by rw[ea];exact hi
 have he1:(O1.getD a [])[i]=(b:Int):=by
  have:(O1.getD a [])[i]?=some (b:Int):=by rw[ea,List.getElem?_eq_getElem hi,he]
  rw[List.getElem?_eq_getElem hi1]at this
  exact Option.some.inj this
 have gb:((O1.set a ((O1.getD a []).eraseIdx i)).set b (O1.getD b []++[(a:Int)])).getD b []=O1.getD b []++[(a:Int)]:=Qg (by rw[List.length_set];omega)
 have ga:((O1.set a ((O1.getD a []).eraseIdx i)).set b (O1.getD b []++[(a:Int)])).getD a []=(O1.getD a []).eraseIdx i:=by rw[Yf (λhh=>hab hh.symm),Qg (by omega)]
 have go:∀v,v≠a->v≠b->((O1.set a ((O1.getD a []).eraseIdx i)).set b (O1.getD b []++[(a:Int)])).getD v []=O1.getD v []:=λv h1 h2=>by rw[Yf (λhh=>h2 hh.symm),Yf (λhh=>h1 hh.symm)]
 refine⟨by rw[List.length_set,List.length_set];exact hl,hv,λv hvn=>?_,λv hvn u hu=>?_,λX=>?_,?_,λv hvv hva=>?_⟩
 . by_cases h1:v=b
   . subst h1;rw[gb,List.length_append,List.length_singleton];omega
   . by_cases h2:v=a
     . subst h2;rw[ga]
       have:=htwo v hvn
       rw[List.length_eraseIdx];split<;>omega
     . rw[go v h2 h1];exact htwo v hvn
 . by_cases h1:v=b
   . subst h1;rw[gb]at hu
     rcases List.mem_append.1 hu with hu | hu
     . exact hrng v hvn u hu
     . rw[List.mem_singleton.1 hu];omega
   . by_cases h2:v=a
     . subst h2;rw[ga]at hu
       exact hrng v hvn u (List.mem_of_mem_eraseIdx hu)
     . rw[go v h2 h1]at hu;exact hrng v hvn u hu
 . rw[Z6p (by omega) (by omega) hab hi1 he1];exact hc X
 . rw[ga,List.length_eraseIdx,if_pos hi1,ea];omega
 . have hvb':v≠b:=λhh=>by subst hh;rw[hvb]at hvv;cases hvv
   rw[go v hva hvb'];exact hO1 v (.inl hvv)
theorem ztc{f:Nat->Nat}{p:Nat->Bool}{a:Nat}:∀{n:Nat},(∀v,v<n->p v=true->v≠a->2<=f v)->(a<n->p a=true->1<=f a)->2*(List.range n).countP p<=((List.range n).map f).sum+1
 | 0,_,_=>by simp
 | n+1,h,h2=>by
   rw[List.range_succ,List.countP_append,List.map_append,List.sum_append,List.countP_singleton]
   simp only[List.map_cons,List.map_nil,List.sum_cons,List.sum_nil,Nat.add_zero]
   by_cases hp:p n=true
   . rw[if_pos hp]
     by_cases ha:n=a
     . subst ha
       have h3:=h2 (by omega) hp
       have key:∀m,m<=n->2*(List.range m).countP p<=((List.range m).map f).sum:=by
        intro m
        induction m with
        | zero=>intro _;simp
        | succ m ih=>
          intro hm
          have:=ih (by omega)
          rw[List.range_succ,List.countP_append,List.map_append,List.sum_append,List.countP_singleton]
          simp only[List.map_cons,List.map_nil,List.sum_cons,List.sum_nil,Nat.add_zero]
          by_cases hpm:p m=true
          . rw[if_pos hpm]
            have:=h m (by omega) hpm (by omega)
            omega
          . rw[if_neg hpm];omega
       have:=key n (Nat.le_refl _)
       omega
     . have h3:=h n (by omega) hp ha
       have:=ztc (f:=f) (p:=p) (a:=a) (n:=n) (λv hv=>h v (by omega)) (λhv=>h2 (by omega))
       omega
   . rw[if_neg hp]
     have:=ztc (f:=f) (p:=p) (a:=a) (n:=n) (λv hv=>h v (by omega)) (λhv=>h2 (by omega))
     omega
theorem Z4n{p:Nat->Bool}{a:Nat}:∀{n:Nat},a<n->p a=true->1<=(List.range n).countP p:=λ{n} ha hp=>
 List.one_le_countP_iff.2 ⟨a,List.mem_range.2 ha,hp⟩
theorem ztz{p:Nat->Bool}{a b:Nat}:∀{n:Nat},a<n->b<n->a≠b->p a=true->p b=true->2<=(List.range n).countP p
 | 0,h,_,_,_,_=>by omega
 | n+1,ha,hb,hab,pa,pb=>by
   rw[List.range_succ,List.countP_append,List.countP_singleton]
   by_cases h1:a=n
   . subst h1
     have:=Z4n (p:=p) (a:=b) (n:=a) (by omega) pb
     rw[if_pos pa];omega
   . by_cases h2:b=n
     . subst h2
       have:=Z4n (p:=p) (a:=a) (n:=b) (by omega) pa
       rw[if_pos pb];omega
     . have:=ztz (p:=p) (a:=a) (b:=b) (n:=n) (by omega) (by omega) hab pa pb
       omega
theorem znz{n:Nat}{O O':List (List Int)}{es:List (Int×Int)}{vis vis':List Bool}{a b:Nat}{e:Int×Int}(hg:GI n O es)(hs:Qk n (es++[e]))(he:e=((a:Int),(b:Int))\/e=((b:Int),(a:Int)))(ha:a<n)(hb:b<n)(hab:a≠b)
 (hvis:∀v,Zo vis v=true↔v=b) (hf:FP n O vis a false O' vis'):(O.getD a []).length=0:=by
 obtain⟨_,hl,rfl,h1,h2,h3⟩:=hf
 refine Classical.byContradiction λhne=>?_
 have hb':Zo vis' b=true:=h1 b ((hvis b).2 rfl)
 have hX:∀i:Nat,(λx:Int=>Zo vis' x.toNat) (i:Int)=Zo vis' i:=λi=>rfl
 have hlt:∀v,Zo vis' v=true->v<n:=λv hv=>by
  rcases Nat.lt_or_ge v n with h | h
  . exact h
  . unfold Zo at hv
    rw[List.getD_eq_getElem?_getD,List.getElem?_eq_none (by omega)]at hv;cases hv
 have hsz:2<=szX n λx=>Zo vis' x.toNat:=by
  unfold szX
  exact ztz ha hb hab h2 hb'
 have h4:=hs _ hsz
 have h5:z04 (es++[e]) (λx=>Zo vis' x.toNat)=z04 es (λx=>Zo vis' x.toNat)+1:=by
  obtain⟨e1,e2⟩:=e
  rw[zaj]
  rcases he with he | he
  . cases he
    rw[if_pos (by show(Zo vis' a&&Zo vis' b)=true;rw[h2,hb'];rfl)]
  . cases he
    rw[if_pos (by show(Zo vis' b&&Zo vis' a)=true;rw[h2,hb'];rfl)]
 rw[h5,<-hg.cnt]at h4
 have h6:∀v,v<n->Zo vis' v=true->v≠b->za1 O' (λx=>Zo vis' x.toNat) v=(O'.getD v []).length:=λv hv hv2 hvb=>by
  unfold za1
  rw[if_pos (show(λx:Int=>Zo vis' x.toNat) (v:Int)=true from hv2)]
  rw[List.countP_eq_length]
  intro u hu
  exact(h3 v hv2 (by
   cases hh:Zo vis v with
   | false=>rfl
   | true=>exact absurd ((hvis v).1 hh) hvb)).1 u hu
 have h7:=ztc (f:=za1 O' (λx=>Zo vis' x.toNat)) (p:=λv=>Zo vis' v&&decide (v≠b)) (a:=a) (n:=n)
  (λv hv hp hva=>by
    simp only[Bool.and_eq_true,decide_eq_true_iff]at hp
    rw[h6 v hv hp.1 hp.2]
    have:=(h3 v hp.1 (by
     cases hh:Zo vis v with
     | false=>rfl
     | true=>exact absurd ((hvis v).1 hh) hp.2)).2 hva
    omega)
  (λhv hp=>by
    simp only[Bool.and_eq_true,decide_eq_true_iff]at hp
    rw[h6 a hv hp.1 hp.2]
    omega)
 have h8:szX n (λx=>Zo vis' x.toNat)=(List.range n).countP (λv=>Zo vis' v&&decide (v≠b))+1:=by
  unfold szX
  have key:∀m,(List.range m).countP (λi:Nat=>Zo vis' (i:Int).toNat)=(List.range m).countP (λv=>Zo vis' v&&decide (v≠b))+(if b<m then 1 else 0):=by
   intro m
   induction m with
   | zero=>simp
   | succ m ih=>
     rw[List.range_succ,List.countP_append,List.countP_append,ih,List.countP_singleton,List.countP_singleton]
     rw[show Zo vis' ((m:Nat):Int).toNat=Zo vis' m from rfl]
     by_cases hmb:m=b
     . subst hmb
       simp[hb']
     . have e1:(if b<m+1 then 1 else 0)=(if b<m then 1 else 0):=by
        by_cases hh:b<m
        . rw[if_pos hh,if_pos (by omega)]
        . rw[if_neg hh,if_neg (by omega)]
       rw[e1]
       simp only[hmb,ne_eq,not_false_eq_true,decide_true,Bool.and_true]
       omega
  rw[key n,if_pos hb]
 have h9:zdw O' (λx=>Zo vis' x.toNat)=((List.range n).map (za1 O' (λx=>Zo vis' x.toNat))).sum:=by unfold zdw;rw[hg.len]
 rw[h9,h8]at h4
 omega
theorem GI.accept{n:Nat}{O:List (List Int)}{es:List (Int×Int)}{a b:Nat}(hg:GI n O es)(ha:a<n)(hb:b<n)(hfree:(O.getD a []).length<2):GI n (O.set a (O.getD a []++[(b:Int)])) (es++[((a:Int),(b:Int))]):=by
 have hlen:=hg.len
 refine⟨by rw[List.length_set];exact hg.len,λv hv=>?_,λv hv u hu=>?_,λX=>?_⟩
 . by_cases h:v=a
   . subst h;rw[Qg (by omega),List.length_append,List.length_singleton];omega
   . rw[Yf (λhh=>h hh.symm)];exact hg.two v hv
 . by_cases h:v=a
   . subst h;rw[Qg (by omega)]at hu
     rcases List.mem_append.1 hu with hu | hu
     . exact hg.rng v hv u hu
     . rw[List.mem_singleton.1 hu];omega
   . rw[Yf (λhh=>h hh.symm)]at hu;exact hg.rng v hv u hu
 . have h1:=zgm (O:=O) (X:=X) (a:=a) (l:=O.getD a []++[(b:Int)]) (by omega)
   rw[List.countP_append,List.countP_singleton]at h1
   rw[zaj,<-hg.cnt]
   unfold za1 at h1
   cases xa:X (a:Int)<;>cases xb:X (b:Int)<;>simp only[xa,xb,if_true,Bool.true_and,Bool.false_and,Bool.false_eq_true,if_false]at h1 |-<;>omega
theorem GI.start(n:Nat):GI n (List.replicate n []) []:=by
 have e:∀v,(List.replicate n ([]:List Int)).getD v []=[]:=λv=>by
  rw[List.getD_eq_getElem?_getD,List.getElem?_replicate];split<;>rfl
 refine⟨by simp,λv _=>(by rw[e];simp),λv _ u hu=>(by rw[e]at hu;exact absurd hu List.not_mem_nil),λX=>?_⟩
 unfold zdw
 have:∀l:List Nat,(l.map (za1 (List.replicate n []) X)).sum=0:=λl=>by
  induction l with
  | nil=>rfl
  | cons a r ih=>rw[List.map_cons,List.sum_cons,ih];unfold za1;rw[e];simp
 rw[this];rfl
theorem GI.fetched{n:Nat}{O O':List (List Int)}{es:List (Int×Int)}{vis vis':List Bool}{a:Nat}(hg:GI n O es)(hf:FP n O vis a true O' vis'):GI n O' es:=by
 obtain⟨h1,_,h2,h3,h4,_,_⟩:=hf
 exact⟨h1,h2,h3,λX=>by rw[h4,hg.cnt]⟩
end Den
end

section
namespace Den
open Go Iv Lx
theorem zql{a b c:Int×Int}(h1:z1w a b)(h2:z1w b c):z1w a c:=by
 unfold z1w at *;omega
theorem GV.lt{n:Int}{es:List (Int×Int)}(h:GV n es):∀k j (hk:k<es.length) (hj:j<k),z1w (es[j]'(by omega)) es[k]
 | 0,j,_,hj=>by omega
 | k+1,j,hk,hj=>by
   have h1:=h.2.2 k hk
   by_cases hjk:j=k
   . subst hjk;exact h1
   . exact zql (GV.lt h k j (by omega) (by omega)) h1
end Den
end

section
namespace Den
open Go Iv Lx
def slV(s:Sl):Value:=.slice s.a s.len s.cap
structure PG(D:Hp)(f:BM)(g:Option Addr)(n:Nat)(O:List (List Int))(bo:Nat)(ss:List Sl):Prop where
 ptr:∃p,g=some p/\D.cell (p.add 0)=some (.slice (some ⟨bo,0,none⟩) n n)
 slen:ss.length=n
 olen:O.length=n
 out:f bo=some (ss.map slV)
 row:∀v,v<n->OS f 1 (ss.getD v zf) ((O.getD v []).map ic)
 apt:∀v,v<n->¬inB (ss.getD v zf) bo
 apt2:∀u v,u<n->v<n->u≠v->∀b,inB (ss.getD u zf) b->¬inB (ss.getD v zf) b
structure PV(f:BM)(bo:Nat)(ss:List Sl)(n bv:Nat)(vis:List Bool):Prop where
 cells:f bv=some (vis.map Value.bool)
 len:vis.length=n
 ne:bv≠bo
 apt:∀v,v<n->¬inB (ss.getD v zf) bv
theorem zfz{l:List Sl}{v:Nat}(h:v<l.length):(l.map slV)[v]?=some (slV (l.getD v zf)):=by
 rw[List.getElem?_map,List.getElem?_eq_getElem h,List.getD_eq_getElem?_getD,List.getElem?_eq_getElem h];rfl
section
variable {D h : Hp} {f f2 : BM} {g : Option Addr} {n bo bv : Nat} {O : List (List Int)} {ss : List Sl} {vis : List Bool}
theorem PG.other{b:Nat}{cs:List Value}(pg:PG D f g n O bo ss)(h1:b≠bo)(h2:∀v,v<n->¬inB (ss.getD v zf) b):PG D (Wd f b cs) g n O bo ss:=
 ⟨pg.ptr,pg.slen,pg.olen,by rw[Y0 (λhh=>h1 hh.symm)];exact pg.out,λv hv=>(pg.row v hv).upd (h2 v hv),pg.apt,pg.apt2⟩
theorem PG.setRow{v:Nat}{y:Sl}{l:List Int}(pg:PG D f g n O bo ss)(hv:v<n)(hfr:∀b,f b≠none->¬inB (ss.getD v zf) b->f2 b=f b)(hy:OS f2 1 y (l.map ic))(hin:∀b,inB y b->inB (ss.getD v zf) b\/f b=none) :
 PG D (Wd f2 bo ((ss.set v y).map slV)) g n (O.set v l) bo (ss.set v y):=by
 have hsl:=pg.slen
 have hol:=pg.olen
 have ho:f bo≠none:=by rw[pg.out];simp
 have ya:¬inB y bo:=λhh=>by
  rcases hin bo hh with h1 | h1
  . exact pg.apt v hv h1
  . exact ho h1
 have gs:∀u,u≠v->(ss.set v y).getD u zf=ss.getD u zf:=λu hu=>Yf (λhh=>hu hh.symm)
 have gv:(ss.set v y).getD v zf=y:=Qg (by omega)
 refine⟨pg.ptr,by rw[List.length_set];exact hsl,by rw[List.length_set];exact hol,Zn,λu hu=>?_,λu hu=>?_,λu w hu hw huw b=>?_⟩
 . by_cases huv:u=v
   . subst huv
     rw[gv,Qg (by omega)]
     exact hy.upd ya
   . rw[gs u huv,Yf (λhh=>huv hh.symm)]
     refine OS.upd ((pg.row u hu).congr λb hb=>hfr b ((pg.row u hu).there hb) (pg.apt2 u v hu hv huv b hb)) (pg.apt u hu)
 . by_cases huv:u=v
   . subst huv;rw[gv];exact ya
   . rw[gs u huv];exact pg.apt u hu
 . by_cases h1:u=v
   . subst h1
     rw[gv,gs w (λhh=>huw hh.symm)]
     intro hb hw2
     rcases hin b hb with h2 | h2
     . exact pg.apt2 u w hu hw huw b h2 hw2
     . exact(pg.row w hw).there hw2 h2
   . by_cases h2:w=v
     . subst h2
       rw[gs u huw,gv]
       intro hb hw2
       rcases hin b hw2 with h3 | h3
       . exact pg.apt2 u w hu hw huw b hb h3
       . exact(pg.row u hu).there hb h3
     . rw[gs u h1,gs w h2];exact pg.apt2 u w hu hw huw b
theorem PV.setRow{v:Nat}{y:Sl}(pv:PV f bo ss n bv vis)(hsl:ss.length=n)(hv:v<n)(hfr:∀b,f b≠none->¬inB (ss.getD v zf) b->f2 b=f b)(hin:∀b,inB y b->inB (ss.getD v zf) b\/f b=none){cs:List Value} :
 PV (Wd f2 bo cs) bo (ss.set v y) n bv vis:=by
 have hb:f bv≠none:=by rw[pv.cells];simp
 refine⟨?_,pv.len,pv.ne,λu hu=>?_⟩
 . rw[Y0 pv.ne,hfr bv hb (pv.apt v hv)];exact pv.cells
 . by_cases huv:u=v
   . subst huv
     rw[Qg (by omega)]
     intro hh
     rcases hin bv hh with h1 | h1
     . exact pv.apt u hu h1
     . exact hb h1
   . rw[Yf (λhh=>huv hh.symm)];exact pv.apt u hu
theorem PG.head(pg:PG D f g n O bo ss)(hB:Bk D h f){K:Addr->Prop}(H:∀p,g=some p->h.cell (p.add 0)=some (.slice (some ⟨bo,0,none⟩) n n)->K p):ym g K:=by
 obtain⟨p,rfl,hp⟩:=pg.ptr
 exact H p rfl (Hp.cell_le hB.le hp)
theorem PG.again(pg:PG D f g n O bo ss){f':BM}{h':Hp}{p:Addr}(hB:Bk D h' f')(e:g=some p):ldL .sl (p.add 0) (λx=>((.slice x.a x.len x.cap):Value)=((.slice (some ⟨bo,0,none⟩) n n):Value)) h':=by
 obtain⟨q,e2,hq⟩:=pg.ptr
 rw[e]at e2
 cases e2
 exact⟨⟨some ⟨bo,0,none⟩,n,n⟩,Hp.cell_le hB.le hq,rfl⟩
theorem PG.rowOf(pg:PG D f g n O bo ss)(hB:Bk D h f){v:Nat}(hv:v<n){K:Sl->Prop}(H:K (ss.getD v zf)) :
 ym g λp=>ldL (.sl) (p.add 0) (λx=>zg x (v:Int) 1 λa=>ldL (.sl) a (λy=>K y) h) h:=by
 refine pg.head hB λp _ hp=>⟨⟨some ⟨bo,0,none⟩,n,n⟩,hp,z79 hv ?_⟩
 exact hB.ld (l:=.sl) pg.out (zfz (by rw[pg.slen];exact hv)) H
theorem zan{v:Nat}{Ki:Int->Hp->Prop}(pg:PG D f g n O bo ss)(hB:Bk D h f)(hv:v<n)(h2:(O.getD v []).length<=2)(H:Ki (2-((O.getD v []).length:Int)) h):zc (F.y_pebble_game_free g (v:Int)) Ki h:=by
 refine Zk _ (λK' hk=>?_) H
 unfold F.y_pebble_game_free
 refine pg.rowOf hB hv (K:=λx4=>K' (i64.wrap (2-(x4.len:Int))) h) ?_
 have:=(pg.row v hv).1
 rw[List.length_map,Nat.mul_one]at this
 rw[this,w64 (by omega)];exact hk
theorem zvw{x:Sl}{xs:List Int}{i:Nat}{K:Sl->Hp->Prop}(ho:OS f 1 x (xs.map ic))(hB:Bk D h f)(hi:i<xs.length)(hlen:xs.length<=1000000)
 (H:∀y f' h',Bk D h' f'->OS f' 1 y ((xs.eraseIdx i).map ic)->(∀b,¬inB x b->f' b=f b)->(∀b,inB y b->inB x b)->K y h'):qg (F.qp x (i:Int) (i64.wrap ((i:Int)+1))) K h:=by
 refine Qe ?_
 unfold F.qp
 rw[w64 (by omega)]
 have hl:x.len=xs.length:=by have:=ho.1;simp at this;omega
 have hc:=ho.2.1
 have ha:∃a,x.a=some a:=by
  cases hxa:x.a with
  | none=>
    have h3:=ho.2.2
    rw[hxa]at h3
    simp only at h3
    omega
  | some a=>exact⟨a,rfl⟩
 refine⟨by omega,by omega,by omega,by omega,?_⟩
 refine Za (λh1=>by omega) (λ_=>?_)
 refine⟨by omega,by omega,by omega,⟨by omega,by omega,by omega,?_⟩⟩
 have e1:((i:Int)+1).toNat=i+1:=by omega
 have e2:((i:Int)).toNat=i:=rfl
 have e3:((x.len:Int)).toNat=x.len:=rfl
 have e0:((0:Int)).toNat=0:=rfl
 rw[e1,e2,e3,e0]
 have hr:=(ho.rd hB).cut (i+1) x.len (by omega) (by rw[List.length_map];omega) hc
 have hcl:(x.cut (i+1) x.len 1).len=x.len-(i+1):=rfl
 have hdl:(((xs.map ic).drop (i+1)).take (x.len-(i+1)))=(xs.drop (i+1)).map ic:=by
  rw[List.take_of_length_le (by simp;omega),List.map_drop]
 rw[hdl]at hr
 have hr2:=hr.2
 rw[List.length_map,List.length_drop]at hr2
 refine⟨_,by rw[hcl,Nat.mul_one,hl];exact hr2,?_⟩
 have hcut:=ho.cut (n:=i) (by omega)
 rw[Nat.mul_one,<-List.map_take]at hcut
 have hca:(x.cut 0 i 1).a=x.a:=zgr x i 1
 refine hcut.appF hB (by rw[hcl,List.length_map,List.length_drop,Nat.mul_one,hl]) (by rw[List.all_map];exact List.all_eq_true.2 λ_ _=>rfl) ?_ ?_ ?_ λf2 h2 hB2 ho2 hfr2=>?_
 . show(i-0+(x.len-(i+1)))*8<=_;omega
 . show i-0+(x.len-(i+1))<=_;omega
 . show i-0+(x.len-(i+1))<=x.cap-0;omega
 have hw:(i-0+(x.len-(i+1)))+1=x.len:=by omega
 have hcc:(x.cut 0 i 1).cap=x.cap:=Nat.sub_zero _
 have hll:(x.cut 0 i 1).len=i:=Nat.sub_zero _
 rw[<-List.map_append,<-List.eraseIdx_eq_take_drop_succ]at ho2
 have fr2:∀b,¬inB x b->f2 b=f b:=λb hb=>hfr2 b λhh=>hb (by obtain⟨a,h1,h2⟩:=hh;exact⟨a,by rw[<-hca];exact h1,h2⟩)
 refine⟨by omega,by show((((x.cut 0 i 1).len+(x.cut (i+1) x.len 1).len:Nat)):Int)<=_;rw[hll,hcl];omega,by show(x.len:Int)<=(((x.cut 0 i 1).cap:Nat):Int);rw[hcc];omega,?_⟩
 obtain⟨y,hy⟩:∃y:Sl,y=⟨(x.cut 0 i 1).a,(x.cut 0 i 1).len+(x.cut (i+1) x.len 1).len,(x.cut 0 i 1).cap⟩:=⟨_,rfl⟩
 rw[<-hy]at ho2 |-
 have hya:y.a=x.a:=by rw[hy];exact hca
 have hyl:y.len+1=x.len:=by rw[hy];show(x.cut 0 i 1).len+(x.cut (i+1) x.len 1).len+1=_;rw[hll,hcl];omega
 have hyc:y.cap=x.cap:=by rw[hy];exact hcc
 have hyin:∀b,inB y b->inB x b:=λb hh=>by obtain⟨a,h1,h2⟩:=hh;exact⟨a,by rw[<-hya];exact h1,h2⟩
 have e4:((y.len:Int)).toNat=y.len:=rfl
 refine⟨λh0=>?_,λh0=>?_⟩
 . exfalso
   have:(y.cut ((y.len:Int)).toNat ((x.len:Int)).toNat 1).len=x.len-y.len:=rfl
   rw[this]at h0;omega
 . have hlen1:(y.cut ((y.len:Int)).toNat ((x.len:Int)).toNat 1).len=1:=by show x.len-y.len=1;omega
   rw[hlen1]
   obtain⟨a,ha⟩:=ha
   have hne:y.cap≠y.len:=by omega
   have ea:(y.cut ((y.len:Int)).toNat ((x.len:Int)).toNat 1).a=some (a.add (y.len*1)):=by
    show(if y.cap=((y.len:Int)).toNat then y.a else y.a.map (·.add (((y.len:Int)).toNat*1)))=_
    rw[e4,if_neg hne,hya,ha];rfl
   rw[ea]
   have key:=ho2.spare (vs:=[.int .i64 0]) (k:=y.len) hB2 ⟨a,by rw[hya];exact ha⟩ (by rw[<-ho2.1];omega) (by show y.len+1<=_;omega) rfl (K:=K y) λf3 h3 hB3 ho3 hfr3=>
    H y f3 h3 hB3 ho3 (λb hb=>(hfr3 b λhh=>hb (hyin b hh)).trans (fr2 b hb)) hyin
   rw[hya,ha]at key
   simp only[stO]at key |-
   rw[Nat.mul_one,Zq]
   exact key
end
end Den
end

section
namespace Den
open Go Iv Lx
def unv(vis:List Bool):Nat:=vis.countP λb=>!b
theorem zmr{vis:List Bool}{a:Nat}(ha:a<vis.length)(hv:Zo vis a=false):unv (vis.set a true)+1=unv vis:=by
 unfold unv
 induction vis generalizing a with
 | nil=>simp at ha
 | cons x l ih=>
   cases a with
   | zero=>
     have:x=false:=hv
     subst this
     simp
   | succ a=>
     have:=ih (a:=a) (by simpa using ha) hv
     rw[List.set_cons_succ,List.countP_cons,List.countP_cons]
     omega
theorem zab{vis:List Bool}{a v:Nat}(ha:a<vis.length):Zo (vis.set a true) v=(Zo vis v||decide (v=a)):=by
 unfold Zo
 by_cases h:v=a
 . subst h;rw[Qg ha];simp
 . rw[Yf (λhh=>h hh.symm)];simp[h]
theorem zph{vis:List Bool}{v:Nat}(h:v<vis.length):(vis.map Value.bool)[v]?=some (Value.bool (Zo vis v)):=by
 unfold Zo
 rw[List.getElem?_map,List.getElem?_eq_getElem h,List.getD_eq_getElem?_getD,List.getElem?_eq_getElem h];rfl
section
variable {D h : Hp} {f : BM} {g : Option Addr} {n bo bv : Nat} {O O1 : List (List Int)} {ss : List Sl} {vis : List Bool} {K : Bool → Hp → Prop}
theorem zve{a b i:Nat}(hB:Bk D h f)(pg:PG D f g n O1 bo ss)(pv:PV f bo ss n bv vis)(ha:a<n)(hb:b<n)(hab:a≠b)(hi:i<(O1.getD a []).length)(hla:(O1.getD a []).length<=2)(hlb:(O1.getD b []).length<=2)
 (H:∀h' f' ss',Bk D h' f'->PG D f' g n ((O1.set a ((O1.getD a []).eraseIdx i)).set b (O1.getD b []++[(a:Int)])) bo ss'->PV f' bo ss' n bv vis->K true h') :
 (ym g λp15=>
 (ldL (.sl) (p15.add 0) (λx16=>
 (ym g λp17=>
 (ldL (.sl) (p17.add 0) (λx18=>
 (zg x18 (a:Int) 1 λa19=>
 (ldL (.sl) a19 (λx20=>
 (qg (F.qp x20 (i:Int) (i64.wrap ((i:Int)+1))) (λr21 h5=>
 ((ldL (.sl) (p15.add 0) (λx22=>
 (((.slice x22.a x22.len x22.cap):Value)=((.slice x16.a x16.len x16.cap):Value))) h5) /\
 (zg x16 (a:Int) 1 λa22=>
 (stP a22 [.slice r21.a r21.len r21.cap] (λh6=>
 (ym g λp23=>
 (ldL (.sl) (p23.add 0) (λx24=>
 (ym g λp25=>
 (ldL (.sl) (p25.add 0) (λx26=>
 (zg x26 (b:Int) 1 λa27=>
 (ldL (.sl) a27 (λx28=>
 (Y6 1 8 [.int .i64 0] x28 1 [.int .i64 (a:Int)] (λw29 h7=>
 ((ldL (.sl) (p23.add 0) (λx30=>
 (((.slice x30.a x30.len x30.cap):Value)=((.slice x24.a x24.len x24.cap):Value))) h7) /\
 (zg x24 (b:Int) 1 λa30=>
 (stP a30 [.slice w29.a w29.len w29.cap] (λh8=>
 (K true h8)) h7)))) h6)) h6))) h6))) h6))) h5)))) h)) h))) h))) h)):=by
  have hsl:=pg.slen
  refine pg.head hB λp15 e15 c15=>⟨⟨some ⟨bo,0,none⟩,n,n⟩,c15,?_⟩
  refine pg.rowOf hB ha (K:=λx20=>qg _ _ h) ?_
  refine zvw (pg.row a ha) hB hi (by omega) λy f2 h2 hB2 ho2 hfr2 hin2=>?_
  have hf2:f2 bo=some (ss.map slV):=by rw[hfr2 bo (pg.apt a ha)];exact pg.out
  refine⟨pg.again hB2 e15,z79 ha (hB2.st hf2 (vs:=[slV y]) (by simp;omega) rfl λh3 hB3=>?_)⟩
  rw[Wa (by omega)]at hB3
  have pg3:=pg.setRow (f2:=f2) (l:=(O1.getD a []).eraseIdx i) ha (λb _ hb=>hfr2 b hb) ho2 (λb hb=>.inl (hin2 b hb))
  have pv3:=pv.setRow (f2:=f2) (y:=y) hsl ha (λb _ hb=>hfr2 b hb) (λb hb=>.inl (hin2 b hb)) (cs:=(ss.set a y).map slV)
  have hsl3:=pg3.slen
  have eb:(O1.set a ((O1.getD a []).eraseIdx i)).getD b []=O1.getD b []:=Yf hab
  refine pg3.head hB3 λp23 e23 c23=>⟨⟨some ⟨bo,0,none⟩,n,n⟩,c23,?_⟩
  refine pg3.rowOf hB3 hb (K:=λx28=>Y6 1 8 [.int .i64 0] x28 1 [.int .i64 (a:Int)] _ h3) ?_
  have hrow:=pg3.row b hb
  rw[eb]at hrow
  have hrl:((ss.set a y).getD b zf).len=(O1.getD b []).length:=by have:=hrow.1;rw[List.length_map,Nat.mul_one]at this;exact this
  refine hrow.app hB3 (n:=1) (new:=[ic (a:Int)]) rfl rfl rfl (by omega) (by omega) λw f4 h4 hB4 ho4 hfr4 hin4=>?_
  rw[<-List.map_singleton (f:=ic),<-List.map_append]at ho4
  have hf4:f4 bo=some ((ss.set a y).map slV):=by rw[hfr4 bo (pg3.apt b hb) (by rw[pg3.out];simp)];exact pg3.out
  refine⟨pg3.again hB4 e23,z79 hb (hB4.st hf4 (vs:=[slV w]) (by simp;omega) rfl λh5 hB5=>?_)⟩
  rw[Wa (by omega)]at hB5
  have pg5:=pg3.setRow (f2:=f4) (l:=O1.getD b []++[(a:Int)]) hb (λb hn hb=>hfr4 b hb hn) ho4 (λb hb=>(hin4 b hb).imp id And.left)
  have pv5:=pv3.setRow (f2:=f4) (y:=w) hsl3 hb (λb hn hb=>hfr4 b hb hn) (λb hb=>(hin4 b hb).imp id And.left) (cs:=((ss.set a y).set b w).map slV)
  exact H h5 _ _ hB5 pg5 pv5
def okO(n:Nat)(O:List (List Int)):Prop:=(∀v,v<n->(O.getD v []).length<=2)/\∀v,v<n->∀u∈O.getD v [],0<=u/\u<n
theorem zw6:∀(fuel:Nat) {D h:Hp} {f:BM} {g:Option Addr} {n bo bv:Nat} {O:List (List Int)} {ss:List Sl} {vis:List Bool} {K:Bool->Hp->Prop} {a:Nat},Bk D h f->PG D f g n O bo ss->PV f bo ss n bv vis->okO n O->a<n->Zo vis a=false->unv vis<=fuel ->
 (∀r h' f' O' ss' vis',Bk D h' f'->PG D f' g n O' bo ss'->PV f' bo ss' n bv vis'->FP n O vis a r O' vis'->(r=false->ss'=ss)->K r h')->F.y_pebble_game_fetch_ fuel g (a:Int) ⟨some ⟨bv,0,none⟩,n,n⟩ K h:=by
 intro fuel
 induction fuel with
 | zero=>
   intro D h f g n bo bv O ss vis K a hB pg pv hO ha hva hfu H
   have:=zmr (by rw[pv.len];exact ha) hva
   omega
 | succ fuel ih=>
   intro D h f g n bo bv O ss vis K a hB pg pv hO ha hva hfu H
   unfold F.y_pebble_game_fetch_
   have hvl:=pv.len
   have hsl:=pg.slen
   refine z79 ha (hB.st pv.cells (vs:=[Value.bool true]) (by simp;omega) rfl λh1 hB1=>?_)
   rw[Wa (by omega)]at hB1
   have pg1:=pg.other (cs:=(vis.set a true).map Value.bool) pv.ne pv.apt
   have pv1:PV (Wd f bv ((vis.set a true).map Value.bool)) bo ss n bv (vis.set a true):=⟨Zn,by rw[List.length_set];exact hvl,pv.ne,pv.apt⟩
   have hun:=zmr (by omega) hva
   refine pg1.rowOf hB1 ha (K:=λx5=>zr _ _ h1) ?_
   have hrl:(ss.getD a zf).len=(O.getD a []).length:=by have:=(pg1.row a ha).1;rw[List.length_map,Nat.mul_one]at this;exact this
   have h2a:=hO.1 a ha
   refine Yr (n:=(O.getD a []).length) (by omega) (λi h'=>∃f' vis',Bk D h' f'/\PG D f' g n O bo ss/\PV f' bo ss n bv vis'/\(∀v,Zo vis v=true->Zo vis' v=true)/\Zo vis' a=true /\
    (∀j (hj:j<(O.getD a []).length),j<i->Zo vis' ((O.getD a [])[j]).toNat=true)/\(∀v,Zo vis' v=true->Zo vis v=false->v≠a->(∀u∈O.getD v [],Zo vis' u.toNat=true)/\(O.getD v []).length=2)/\unv vis'<=fuel)
    ⟨_,_,hB1,pg1,pv1,λv hv=>by rw[zab (by omega),hv];rfl,by rw[zab (by omega)];simp,λj _ hj=>by omega,λv hv hv2 hva2=>by rw[zab (by omega),hv2]at hv;simp at hv;exact absurd hv hva2,by omega⟩ ?_
   rintro i h2 hi ⟨f2,vis2,hB2,pg2,pv2,hsub,hav,hno,hcl,hun2⟩ k hk
   have hvl2:=pv2.len
   refine ze (λh3=>?_) (λh3=>?_)
   . have hi':i<(O.getD a []).length:=by simp only at h3;omega
     have hIL:IL h2 (ss.getD a zf) (O.getD a []):=⟨(pg2.row a ha).rd hB2,(pg2.row a ha).2.1⟩
     obtain⟨J,hJ⟩:∃J:Unit->Hp->Prop,∀s h',J s h'↔∃f' vis',Bk D h' f'/\PG D f' g n O bo ss/\PV f' bo ss n bv vis'/\(∀v,Zo vis v=true->Zo vis' v=true)/\Zo vis' a=true /\
      (∀j (hj:j<(O.getD a []).length),j<i+1->Zo vis' ((O.getD a [])[j]).toNat=true)/\(∀v,Zo vis' v=true->Zo vis v=false->v≠a->(∀u∈O.getD v [],Zo vis' u.toNat=true)/\(O.getD v []).length=2)/\unv vis'<=fuel:=⟨_,λ_ _=>Iff.rfl⟩
     refine zk J (λs h' hs=>hk _ hi' ((hJ s h').1 hs)) ?_
     refine hIL.get i rfl hi' ?_
     obtain⟨b,hb⟩:∃b:Nat,(O.getD a [])[i]=(b:Int):=⟨((O.getD a [])[i]).toNat,by have:=hO.2 a ha _ (List.getElem_mem hi');omega⟩
     have hbr:=hO.2 a ha _ (List.getElem_mem hi')
     rw[hb]at hbr |-
     have hbn:b<n:=by omega
     refine z79 hbn (hB2.ld (l:=.bool) pv2.cells (zph (by omega)) ?_)
     refine zp (λhvb=>(hJ _ _).2 ⟨f2,vis2,hB2,pg2,pv2,hsub,hav,λj hj hji=>?_,hcl,hun2⟩) (λhvb=>?_)
     . rcases Nat.lt_or_ge j i with h5 | h5
       . exact hno j hj h5
       . have:j=i:=by omega
         subst this
         rw[hb];exact hvb
     have hab:a≠b:=λhh=>by rw[<-hh,hav]at hvb;cases hvb
     refine zan pg2 hB2 hbn (hO.1 b hbn) ?_
     have h2b:=hO.1 b hbn
     refine ze (λh5=>?_) (λh5=>?_)
     . refine zve hB2 pg2 pv2 ha hbn hab hi' h2a h2b λh' f' ss' hB' pg' pv'=>H true h' f' _ ss' vis2 hB' pg' pv' ?_ (λhh=>by cases hh)
       refine FP.turn (vis1:=vis) pg.olen hO.1 hO.2 pg.olen pv2.len (λX=>rfl) ha hbn hab ?_ (λv _=>rfl) hi' hb (by omega)
       cases hh:Zo vis b with
       | false=>rfl
       | true=>rw[hsub b hh]at hvb;cases hvb
     . have hlb:(O.getD b []).length=2:=by omega
       refine Qe (ih hB2 pg2 pv2 hO hbn hvb hun2 λr h6 f6 O6 ss6 vis6 hB6 pg6 pv6 hfp hss=>?_)
       have hvb0:Zo vis b=false:=by
        cases hh:Zo vis b with
        | false=>rfl
        | true=>rw[hsub b hh]at hvb;cases hvb
       cases r with
       | true=>
         refine Z9 rfl ?_
         obtain⟨p1,p2,p3,p4,p5,p6,p7⟩:=hfp
         have ea:O6.getD a []=O.getD a []:=p7 a hav hab
         refine zve hB6 pg6 pv6 ha hbn hab (by rw[ea];exact hi') (p3 a ha) (p3 b hbn) λh' f' ss' hB' pg' pv'=>H true h' f' _ ss' vis6 hB' pg' pv' ?_ (λhh=>by cases hh)
         refine FP.turn (vis1:=vis) pg.olen p3 p4 p1 p2 p5 ha hbn hab hvb0 (λv hv=>?_) hi' hb (by omega)
         rcases hv with hv | rfl
         . exact p7 v (hsub v hv) (λhh=>by rw[hh,hvb0]at hv;cases hv)
         . exact ea
       | false=>
         obtain⟨p1,p2,rfl,p4,p5,p6⟩:=hfp
         have:=hss rfl
         subst this
         refine zt rfl ((hJ _ _).2 ⟨f6,vis6,hB6,pg6,pv6,λv hv=>p4 v (hsub v hv),p4 a hav,λj hj hji=>?_,λv hv hv2 hva2=>?_,?_⟩)
         . rcases Nat.lt_or_ge j i with h5 | h5
           . exact p4 _ (hno j hj h5)
           . have:j=i:=by omega
             subst this
             rw[hb];exact p5
         . cases hv3:Zo vis2 v with
           | true=>
             have:=hcl v hv3 hv2 hva2
             exact⟨λu hu=>p4 _ (this.1 u hu),this.2⟩
           | false=>
             have:=p6 v hv hv3
             refine⟨this.1,?_⟩
             by_cases hvb':v=b
             . subst hvb';exact hlb
             . exact this.2 hvb'
         . refine Nat.le_trans ?_ hun2
           have h7:∀(l m:List Bool),l.length=m.length->(∀v,Zo l v=true->Zo m v=true)->unv m<=unv l:=by
            intro l
            induction l with
            | nil=>intro m hm _;cases m with | nil=>exact Nat.le_refl _ | cons x m=>simp at hm
            | cons x l ih2=>
              intro m hm hv
              cases m with
              | nil=>simp at hm
              | cons y m=>
                have h8:=ih2 m (by simpa using hm) λv=>hv (v+1)
                have h9:=hv 0
                unfold unv Zo at *
                rw[List.countP_cons,List.countP_cons]
                simp only[List.getD_cons_zero]at h9
                cases x<;>cases y<;>simp at h9 |-<;>omega
           exact h7 vis2 vis6 (by omega) p4
   . have hi':i=(O.getD a []).length:=by simp only at h3;omega
     refine H false h2 f2 O ss vis2 hB2 pg2 pv2 ⟨pg.olen,hvl2,rfl,hsub,hav,λv hv hv2=>?_⟩ (λ_=>rfl)
     by_cases hva2:v=a
     . subst hva2
       refine⟨λu hu=>?_,λhh=>absurd rfl hh⟩
       obtain⟨j,hj,rfl⟩:=List.mem_iff_getElem.1 hu
       exact hno j hj (by omega)
     . have:=hcl v hv hv2 hva2
       exact⟨this.1,λ_=>this.2⟩
theorem zs4{a:Nat}(hB:Bk D h f)(pg:PG D f g n O bo ss)(pv:PV f bo ss n bv vis)(hO:okO n O)(ha:a<n)(hva:Zo vis a=false)
 (H:∀r h' f' O' ss' vis',Bk D h' f'->PG D f' g n O' bo ss'->FP n O vis a r O' vis'->K r h'):qg (F.y_pebble_game_fetch g (a:Int) ⟨some ⟨bv,0,none⟩,n,n⟩) K h:=by
 refine Qe ?_
 unfold F.y_pebble_game_fetch
 exact⟨unv vis,zw6 _ hB pg pv hO ha hva (Nat.le_refl _) λr h' f' O' ss' vis' h1 h2 _ h3 _=>H r h' f' O' ss' vis' h1 h2 h3⟩
end
end Den
end

section
namespace Den
theorem Z5g{n:Nat}{X:Int->Bool}:szX (n+1) X=szX n X+(if X (n:Int)then 1 else 0):=by
 unfold szX
 rw[List.range_succ,List.countP_append,List.countP_singleton]
theorem zil{n:Nat}{X:Int->Bool}{a b:Int}(ha:0<=a/\a<n)(hb:0<=b/\b<n)(hab:a≠b)(xa:X a=true)(xb:X b=true):2<=szX n X:=by
 obtain⟨a',rfl⟩:∃a':Nat,a=a':=⟨a.toNat,by omega⟩
 obtain⟨b',rfl⟩:∃b':Nat,b=b':=⟨b.toNat,by omega⟩
 unfold szX
 exact ztz (p:=λi:Nat=>X (i:Int)) (by omega) (by omega) (λhh=>hab (by rw[hh])) xa xb
theorem Qk.add{n:Nat}{es:List (Int×Int)}{a b:Int}(h:Qk n es)(hE:∀e∈es,0<=e.1/\e.1<e.2/\e.2<n)(ha:0<=a/\a<n)(hb:0<=b/\b<n)(hab:a≠b) :
 Qk (n+1) (es++[(a,(n:Int)),(b,(n:Int))]):=λX hX=>by
 have e:z04 (es++[(a,(n:Int)),(b,(n:Int))]) X=z04 es X+(if X a&&X (n:Int)then 1 else 0)+(if X b&&X (n:Int)then 1 else 0):=by
  rw[show es++[(a,(n:Int)),(b,(n:Int))]=(es++[(a,(n:Int))])++[(b,(n:Int))]by simp,zaj,zaj]
 rw[Z5g]at hX |-
 rw[e]
 cases hn:X (n:Int)with
 | false=>
   rw[hn]at hX
   simp only[Bool.and_false,Bool.false_eq_true,if_false,Nat.add_zero]at hX |-
   exact h X hX
 | true=>
   rw[hn]at hX
   simp only[Bool.and_true,if_true]at hX |-
   by_cases h2:2<=szX n X
   . have:=h X h2
     split<;>split<;>omega
   . have h0:z04 es X=0:=by
      unfold z04
      rw[List.countP_eq_zero]
      intro e he hx
      rw[Bool.and_eq_true]at hx
      have:=hE e he
      exact h2 (zil ⟨this.1,by omega⟩ ⟨by omega,this.2.2⟩ (by omega) hx.1 hx.2)
     rw[h0]
     cases xa:X a<;>cases xb:X b<;>simp only[Bool.false_eq_true,if_false,if_true]
     . omega
     . omega
     . omega
     . exact absurd (zil ha hb hab xa xb) h2
theorem Qk.bar:Qk 2 [(0,1)]:=λX hX=>by
 have:z04 [(0,1)] X<=1:=by unfold z04;exact List.countP_le_length
 omega
theorem zjn{L:List (List Int)}{v:Nat}{l:List Int}{a:Int}(h:v<L.length):(L.set v l).flatten.count a+(L.getD v []).count a=L.flatten.count a+l.count a:=by
 induction L generalizing v with
 | nil=>simp at h
 | cons x L ih=>
   cases v with
   | zero=>
     simp only[List.set_cons_zero,List.flatten_cons,List.count_append,List.getD_cons_zero]
     omega
   | succ v=>
     have:=ih (v:=v) (by simpa using h)
     simp only[List.set_cons_succ,List.flatten_cons,List.count_append,List.getD_cons_succ]
     omega
theorem zr0{l:List Int}{k:Nat}{i a:Int}(h:k<l.length):(l.set k i).count a+[l[k]].count a=l.count a+[i].count a:=by
 induction l generalizing k with
 | nil=>simp at h
 | cons x l ih=>
   cases k with
   | zero=>
     simp only[List.set_cons_zero,List.getElem_cons_zero,List.count_cons,List.count_nil]
     omega
   | succ k=>
     have:=ih (k:=k) (by simpa using h)
     simp only[List.set_cons_succ,List.getElem_cons_succ,List.count_cons,List.count_nil]at this |-
     omega
def zgz(es:List (Int×Int))(j:Int):Nat:=(es.getD j.toNat (0,0)).1.toNat
def zh0(es:List (Int×Int))(j:Int):Nat:=(es.getD j.toNat (0,0)).2.toNat
def AP(n:Nat)(es:List (Int×Int))(L:List (List Int))(vis:List Bool)(i:Int)(r:Bool)(L':List (List Int))(vis':List Bool):Prop:=
 L'.length=n/\vis'.length=n/\match r with
 | true=>(∀v,v<n->(L'.getD v []).length<=2)/\(∀a,L'.flatten.count a=L.flatten.count a+[i].count a)/\∀v,Zo vis v=true->L'.getD v []=L.getD v []
 | false=>L'=L/\(∀v,Zo vis v=true->Zo vis' v=true)/\Zo vis' (zgz es i)=true/\Zo vis' (zh0 es i)=true /\
    ∀v,Zo vis' v=true->Zo vis v=false->(L.getD v []).length=2/\∀j∈L.getD v [],Zo vis' (zgz es j)=true/\Zo vis' (zh0 es j)=true
theorem AP.free{n:Nat}{es:List (Int×Int)}{L:List (List Int)}{vis vis':List Bool}{i:Int}{v:Nat}(hL:L.length=n)(htwo:∀v,v<n->(L.getD v []).length<=2)(hv:vis'.length=n)(hvn:v<n)(hvv:Zo vis v=false)
 (hf:(L.getD v []).length<2):AP n es L vis i true (L.set v (L.getD v []++[i])) vis':=by
 refine⟨by rw[List.length_set];exact hL,hv,λu hu=>?_,λa=>?_,λu hu=>?_⟩
 . by_cases h:u=v
   . subst h;rw[Qg (by omega),List.length_append,List.length_singleton];omega
   . rw[Yf (λhh=>h hh.symm)];exact htwo u hu
 . have:=zjn (L:=L) (v:=v) (l:=L.getD v []++[i]) (a:=a) (by omega)
   rw[List.count_append]at this
   omega
 . rw[Yf (λhh=>by subst hh;rw[hvv]at hu;cases hu)]
theorem AP.swap{n:Nat}{es:List (Int×Int)}{L L1:List (List Int)}{vis vis1 vis':List Bool}{i j:Int}{v k:Nat}(h:AP n es L vis1 j true L1 vis')(hvn:v<n)(hvv:Zo vis v=false)(hv1:Zo vis1 v=true)
 (hsub:∀u,Zo vis u=true->Zo vis1 u=true) (hk:k<(L.getD v []).length) (hj:(L.getD v [])[k]=j):AP n es L vis i true (L1.set v ((L.getD v []).set k i)) vis':=by
 obtain⟨h1,h2,h3,h4,h5⟩:=h
 have ev:=h5 v hv1
 refine⟨by rw[List.length_set];exact h1,h2,λu hu=>?_,λa=>?_,λu hu=>?_⟩
 . by_cases h:u=v
   . subst h
     rw[Qg (by omega),List.length_set,<-ev];exact h3 u hu
   . rw[Yf (λhh=>h hh.symm)];exact h3 u hu
 . have e1:=zjn (L:=L1) (v:=v) (l:=(L.getD v []).set k i) (a:=a) (by omega)
   have e2:=zr0 (l:=L.getD v []) (k:=k) (i:=i) (a:=a) hk
   rw[hj]at e2
   rw[ev]at e1
   have:=h4 a
   omega
 . rw[Yf (λhh=>by subst hh;rw[hvv]at hu;cases hu)]
   exact h5 u (hsub u hu)
theorem zqp{q:Nat->Bool}:∀{m:Nat} {J:List Int},(∀a,J.count a<=1)->(∀a∈J,0<=a/\a<m/\q a.toNat=true)->J.length<=(List.range m).countP q
 | 0,J,_,h=>by
   cases J with
   | nil=>simp
   | cons a J=>have:=h a (List.mem_cons_self ..);omega
 | m+1,J,h1,h2=>by
   have hl:=List.length_eq_countP_add_countP (λa:Int=>a==(m:Int)) (l:=J)
   have hc:=h1 (m:Int)
   have ih:=zqp (q:=q) (m:=m) (J:=J.filter λa=>!(a==(m:Int))) (λa=>Nat.le_trans (List.filter_sublist.count_le a) (h1 a)) (λa ha=>by
    have h3:=List.mem_filter.1 ha
    have h4:=h2 a h3.1
    have h5:a≠(m:Int):=by simpa using h3.2
    exact⟨h4.1,by omega,h4.2.2⟩)
   rw[<-List.countP_eq_length_filter]at ih
   have e1:J.countP (λa:Int=>a==(m:Int))=J.count (m:Int):=rfl
   have e2:J.countP (λa:Int=>decide ¬(a==(m:Int))=true)=J.countP λa=>!(a==(m:Int)):=List.countP_congr λa _=>by simp
   rw[List.range_succ,List.countP_append,List.countP_singleton]
   by_cases hm:(m:Int)∈J
   . have:=(h2 _ hm).2.2
     rw[show((m:Int)).toNat=m from rfl]at this
     rw[this,if_pos rfl]
     omega
   . have h0:J.count (m:Int)=0:=List.count_eq_zero.2 hm
     omega
theorem znp{α:Type}{q:α->Bool}{d:α}:∀{l:List α},(List.range l.length).countP (λj=>q (l.getD j d))=l.countP q:=by
 intro l
 have e:(List.range l.length).map (λj=>l.getD j d)=l:=by
  refine List.ext_getElem (by simp) λi h1 h2=>?_
  rw[List.getElem_map,List.getElem_range,List.getD_eq_getElem?_getD,List.getElem?_eq_getElem h2];rfl
 conv=>rhs;rw[<-e]
 rw[List.countP_map];rfl
theorem z06{f:Nat->List Int}{p:Nat->Bool}{a:Int}:∀{l:List Nat},((l.filter p).flatMap f).count a<=(l.flatMap f).count a
 | []=>by simp
 | x :: l=>by
   have ih:=z06 (f:=f) (p:=p) (a:=a) (l:=l)
   rw[List.flatMap_cons,List.count_append]
   by_cases h:p x=true
   . rw[List.filter_cons_of_pos h,List.flatMap_cons,List.count_append];omega
   . rw[List.filter_cons_of_neg h];omega
theorem z5u{f:Nat->List Int}{p:Nat->Bool}:∀{l:List Nat},(∀v∈l,p v=true->(f v).length=2)->((l.filter p).flatMap f).length=2*l.countP p
 | [],_=>rfl
 | x :: l,h=>by
   have ih:=z5u (f:=f) (p:=p) (l:=l) λv hv=>h v (List.mem_cons_of_mem _ hv)
   by_cases hp:p x=true
   . rw[List.filter_cons_of_pos hp,List.flatMap_cons,List.length_append,h x (List.mem_cons_self ..) hp,ih,List.countP_cons_of_pos hp];omega
   . rw[List.filter_cons_of_neg hp,ih,List.countP_cons_of_neg hp]
theorem zcq{L:List (List Int)}:(List.range L.length).flatMap (λv=>L.getD v [])=L.flatten:=by
 have e:(List.range L.length).map (λj=>L.getD j [])=L:=by
  refine List.ext_getElem (by simp) λi h1 h2=>?_
  rw[List.getElem_map,List.getElem_range,List.getD_eq_getElem?_getD,List.getElem?_eq_getElem h2];rfl
 conv=>rhs;rw[<-e]
 rw[List.flatMap_def]
theorem zkv{n m:Nat}{es:List (Int×Int)}{L L':List (List Int)}{vis vis':List Bool}(hL:L.length=n)(hcnt:∀a,L.flatten.count a<=1)(hrng:∀a∈L.flatten,0<=a/\a<m)(hm:m<es.length)
 (hes:∀e∈es,0<=e.1/\e.1<n/\0<=e.2/\e.2<n/\e.1≠e.2) (hs:∀X:Int->Bool,2<=szX n X->z04 es X<=2*szX n X) (hvis:∀v,Zo vis v=false) (h:AP n es L vis (m:Int) false L' vis'):False:=by
 obtain⟨_,hv,rfl,_,ha,hb,hx⟩:=h
 have ex:∀j:Nat,j<es.length->∃e∈es,es.getD j (0,0)=e:=λj hj=>⟨es[j],List.getElem_mem hj,by rw[List.getD_eq_getElem?_getD,List.getElem?_eq_getElem hj];rfl⟩
 have hX:∀i:Nat,(λx:Int=>Zo vis' x.toNat) (i:Int)=Zo vis' i:=λi=>rfl
 have hsz:2<=szX n λx=>Zo vis' x.toNat:=by
  obtain⟨e,he,ee⟩:=ex m hm
  have h1:=hes e he
  unfold zgz at ha
  unfold zh0 at hb
  rw[show((m:Int)).toNat=m from rfl,ee]at ha hb
  exact zil (X:=λx=>Zo vis' x.toNat) ⟨h1.1,h1.2.1⟩ ⟨h1.2.2.1,h1.2.2.2.1⟩ h1.2.2.2.2 ha hb
 have h4:=hs _ hsz
 have hlt:∀v,Zo vis' v=true->v<n:=λv hv'=>by
  rcases Nat.lt_or_ge v n with h | h
  . exact h
  . unfold Zo at hv'
    rw[List.getD_eq_getElem?_getD,List.getElem?_eq_none (by omega)]at hv';cases hv'
 obtain⟨J,hJ⟩:∃J,J=((List.range L'.length).filter λv=>Zo vis' v).flatMap λv=>L'.getD v []:=⟨_,rfl⟩
 have c1:∀a,J.count a<=1:=λa=>by
  rw[hJ]
  refine Nat.le_trans z06 ?_
  rw[zcq];exact hcnt a
 have l1:J.length=2*szX n λx=>Zo vis' x.toNat:=by
  rw[hJ,z5u λv _ hv2=>(hx v hv2 (hvis v)).1,hL]
  rfl
 have m1:∀a∈J,∃v,Zo vis' v=true/\a∈L'.getD v []:=λa haJ=>by
  rw[hJ,List.mem_flatMap]at haJ
  obtain⟨v,hv1,hv2⟩:=haJ
  exact⟨v,(List.mem_filter.1 hv1).2,hv2⟩
 have m2:∀a∈J,a∈L'.flatten:=λa haJ=>by
  have h1:0<J.count a:=List.count_pos_iff.2 haJ
  refine List.count_pos_iff.1 (Nat.lt_of_lt_of_le h1 ?_)
  rw[hJ]
  refine Nat.le_trans z06 ?_
  rw[zcq];exact Nat.le_refl _
 have key:=zqp (q:=λj=>Zo vis' (es.getD j (0,0)).1.toNat&&Zo vis' (es.getD j (0,0)).2.toNat) (m:=es.length) (J:=(m:Int) :: J)
  (λa=>by
    rw[List.count_cons]
    by_cases hma:a=(m:Int)
    . subst hma
      have:J.count (m:Int)=0:=List.count_eq_zero.2 λhh=>by have:=hrng _ (m2 _ hh);omega
      rw[this];simp
    . have:((m:Int)==a)=false:=by simp;exact λhh=>hma hh.symm
      rw[this];simp;exact c1 a)
  (λa haJ=>by
    rcases List.mem_cons.1 haJ with rfl | haJ
    . refine⟨by omega,by omega,?_⟩
      rw[Bool.and_eq_true];exact⟨ha,hb⟩
    . obtain⟨v,v1,v2⟩:=m1 a haJ
      have:=hrng a (m2 a haJ)
      refine⟨this.1,by omega,?_⟩
      rw[Bool.and_eq_true]
      exact(hx v v1 (hvis v)).2 a v2)
 rw[znp (q:=λe:Int×Int=>Zo vis' e.1.toNat&&Zo vis' e.2.toNat) (d:=(0,0)),List.length_cons,l1]at key
 have h4':es.countP (λe:Int×Int=>Zo vis' e.1.toNat&&Zo vis' e.2.toNat)<=2*szX n λx=>Zo vis' x.toNat:=h4
 omega
theorem Qk.triple{n:Nat}{es:List (Int×Int)}{e:Int×Int}(h:Qk n es):∀X:Int->Bool,2<=szX n X->z04 (es++[e,e,e]) X<=2*szX n X:=λX hX=>by
 have h1:=h X hX
 have h2:z04 (es++[e,e,e]) X<=z04 es X+3:=by
  unfold z04
  rw[List.countP_append]
  have:List.countP (λe=>X e.1&&X e.2) [e,e,e]<=[e,e,e].length:=List.countP_le_length
  simp only[List.length_cons,List.length_nil]at this
  omega
 omega
end Den
end

section
namespace Den
open Go Iv Lx
section
variable {D h : Hp} {f f2 : BM} {g : Option Addr} {n bo bv : Nat} {O O1 : List (List Int)} {ss : List Sl} {es : List (Int × Int)} {Kb : Bool → Hp → Prop} {Ki : Int → Hp → Prop}
theorem PG.mono{D':Hp}(pg:PG D f g n O bo ss)(hl:D.le D'):PG D' f g n O bo ss:=by
 obtain⟨p,h1,h2⟩:=pg.ptr
 exact⟨⟨p,h1,Hp.cell_le hl h2⟩,pg.slen,pg.olen,pg.out,pg.row,pg.apt,pg.apt2⟩
theorem PG.congr(pg:PG D f g n O bo ss)(h1:f2 bo=f bo)(h2:∀v,v<n->∀b,inB (ss.getD v zf) b->f2 b=f b):PG D f2 g n O bo ss:=
 ⟨pg.ptr,pg.slen,pg.olen,h1.trans pg.out,λv hv=>(pg.row v hv).congr (h2 v hv),pg.apt,pg.apt2⟩
theorem GI.okO(hg:GI n O es):okO n O:=⟨hg.two,hg.rng⟩
theorem zkd(n:Nat):Z6 n [Value.bool false]=(List.replicate n false).map Value.bool:=by
 unfold Z6
 simp
theorem zpi(n v:Nat):Zo (List.replicate n false) v=false:=by
 unfold Zo
 rw[List.getD_eq_getElem?_getD,List.getElem?_replicate]
 split<;>rfl
theorem zh7{p q:Nat}{e:Int×Int}{k5:Unit->Hp->Prop}(hB:Bk D h f)(pg:PG D f g n O bo ss)(hg:GI n O es)(hs:Qk n (es++[e]))(he:e=((p:Int),(q:Int))\/e=((q:Int),(p:Int)))(hp:p<n)(hq:q<n)(hpq:p≠q)(hn:n<=1000000)
 (H:∀h' f' O' ss',Bk D h' f'->PG D f' g n O' bo ss'->GI n O' es->O'.getD p []=[]->O'.getD q []=O.getD q []->k5 () h') :
 zr (S:=Unit) (λs8 k9 h4=>
 (zc (F.y_pebble_game_free g (p:Int)) (λr10 h5=>
 (ifP (decide (r10<2))
 (ym g λp11=>
 (ldL (.sl) (p11.add 0) (λx12=>
 (mkP (x12.len:Int) (x12.len:Int) 1 [.bool false] (λm13 h6=>
 (zg m13 (q:Int) 1 λa14=>
 (stP a14 [.bool true] (λh7=>
 (qg (F.y_pebble_game_fetch g (p:Int) m13) (λr15 h8=>
 (ifP (!r15)
 (k5 () h8)
 (k9 () h8))) h7)) h6))) h5)) h5))
 (k5 () h5))) h4))
      () h:=by
  refine zcw (λm _ h'=>∃f' O' ss',Bk D h' f'/\PG D f' g n O' bo ss'/\GI n O' es/\O'.getD q []=O.getD q []/\m=(O'.getD p []).length) ⟨f,O,ss,hB,pg,hg,rfl,rfl⟩ ?_
  rintro m _ h1 ⟨f1,O1,ss1,hB1,pg1,hg1,hq1,rfl⟩ K9 hK9
  have h2:=hg1.two p hp
  refine zan pg1 hB1 hp h2 ?_
  refine ze (λh3=>?_) (λh3=>?_)
  . refine pg1.head hB1 λp11 e11 c11=>⟨⟨some ⟨bo,0,none⟩,n,n⟩,c11,?_⟩
    refine hB1.mkF n n rfl rfl (Nat.le_refl _) (by omega) (by omega) λbv h6 hbv hDv hB6=>?_
    rw[zkd]at hB6
    have hbo:bv≠bo:=λhh=>by rw[hh,pg1.out]at hbv;cases hbv
    have hrow:∀v,v<n->¬inB (ss1.getD v zf) bv:=λv hv hh=>(pg1.row v hv).there hh hbv
    have pg6:=pg1.other (cs:=(List.replicate n false).map Value.bool) hbo hrow
    refine z79 hq (hB6.st Zn (vs:=[Value.bool true]) (by simp;omega) rfl λh7 hB7=>?_)
    rw[Wa (by simp;omega),zer]at hB7
    have pg7:=pg1.other (cs:=((List.replicate n false).set q true).map Value.bool) hbo hrow
    have pv7:PV (Wd f1 bv (((List.replicate n false).set q true).map Value.bool)) bo ss1 n bv ((List.replicate n false).set q true):=⟨Zn,by simp,hbo,hrow⟩
    have vs:∀v,Zo ((List.replicate n false).set q true) v=decide (v=q):=λv=>by
     rw[zab (by simp;omega),zpi];simp
    refine zs4 hB7 pg7 pv7 hg1.okO hp (by rw[vs];simp[hpq]) λr h8 f8 O8 ss8 vis8 hB8 pg8 hfp=>?_
    cases r with
    | false=>
      have:=znz hg1 hs he hp hq hpq (λv=>by rw[vs];simp) hfp
      omega
    | true=>
      have hg8:=hg1.fetched hfp
      obtain⟨p1,p2,p3,p4,p5,p6,p7⟩:=hfp
      refine zt rfl (hK9 _ _ _ ?_ ⟨f8,O8,ss8,hB8,pg8,hg8,?_,rfl⟩)
      . omega
      . rw[p7 q (by rw[vs];simp) (λhh=>hpq hh.symm)];exact hq1
  . exact H h1 f1 O1 ss1 hB1 pg1 hg1 (List.eq_nil_of_length_eq_zero (by omega)) hq1
theorem zo5{a b:Nat}(hB:Bk D h f)(pg:PG D f g n O bo ss)(hg:GI n O es)(hs:Qk n (es++[((a:Int),(b:Int))]))(ha:a<n)(hb:b<n)(hab:a≠b)(hn:n<=1000000)
 (H:∀D' h' f' O' ss',D.le D'->Bk D' h' f'->PG D' f' g n O' bo ss'->GI n O' es->O'.getD a []=[]->O'.getD b []=[]->Ki 4 h'):qg (F.y_pebble_game_gather g (a:Int) (b:Int)) Ki h:=by
 refine Qe ?_
 unfold F.y_pebble_game_gather
 refine hB.newD λb1 D1 h1 _ hl1 c1 hB1=>?_
 refine Yr (n:=2) (by omega) (λi h'=>∃f' O' ss',Bk D1 h' f'/\PG D1 f' g n O' bo ss'/\GI n O' es/\(0<i->O'.getD a []=[])/\(1<i->O'.getD b []=[])) ⟨f,O,ss,hB1,pg.mono hl1,hg,by omega,by omega⟩ ?_
 rintro i h2 hi ⟨f2,O2,ss2,hB2,pg2,hg2,z1,z2⟩ k hk
 refine ze (λh3=>?_) (λh3=>?_)
 . have hi':i<2:=by have:(i:Int)<((2:Nat):Int):=h3;omega
   obtain⟨J,hJ⟩:∃J:Unit->Hp->Prop,∀s h',J s h'↔∃f' O' ss',Bk D1 h' f'/\PG D1 f' g n O' bo ss'/\GI n O' es/\(0<i+1->O'.getD a []=[])/\(1<i+1->O'.getD b []=[]):=⟨_,λ_ _=>Iff.rfl⟩
   refine zk J (λs h' hs=>hk _ hi' ((hJ s h').1 hs)) ?_
   refine zh9 hi' ?_
   have cl:∀j v,[Value.int .i64 (a:Int),.int .i64 (b:Int),.int .i64 (b:Int),.int .i64 (a:Int)][i*2+j]?=some v->h2.cell ((⟨b1,0+i*2,none⟩:Addr).add j)=some v:=λj v hv=>by
    rw[Vg,Nat.zero_add];exact Hp.cell_le hB2.le (c1 _ v hv)
   rcases(by omega:i=0\/i=1)with rfl | rfl
   . refine⟨(a:Int),cl 0 _ rfl,(b:Int),cl 1 _ rfl,?_⟩
     exact zh7 hB2 pg2 hg2 hs (.inl rfl) ha hb hab hn λh' f' O' ss' hB' pg' hg' e1 _=>(hJ _ _).2 ⟨f',O',ss',hB',pg',hg',λ_=>e1,by omega⟩
   . refine⟨(b:Int),cl 0 _ rfl,(a:Int),cl 1 _ rfl,?_⟩
     exact zh7 hB2 pg2 hg2 hs (.inr rfl) hb ha (λhh=>hab hh.symm) hn λh' f' O' ss' hB' pg' hg' e1 e2=>(hJ _ _).2 ⟨f',O',ss',hB',pg',hg',λ_=>by rw[e2];exact z1 (by omega),λ_=>e1⟩
 . have:i=2:=by have:¬(i:Int)<((2:Nat):Int):=h3;omega
   subst this
   have z1:=z1 (by omega)
   have z2:=z2 (by omega)
   refine zan pg2 hB2 ha (by rw[z1];simp) (zan pg2 hB2 hb (by rw[z2];simp) ?_)
   rw[z1,z2]
   exact H D1 h2 f2 O2 ss2 hl1 hB2 pg2 hg2 z1 z2
theorem zet{a b:Nat}(hB:Bk D h f)(pg:PG D f g n O bo ss)(hg:GI n O es)(hs:Qk n (es++[((a:Int),(b:Int))]))(ha:a<n)(hb:b<n)(hab:a≠b)(hn:n<=1000000)
 (H:∀D' h' f' O' ss',D.le D'->Bk D' h' f'->PG D' f' g n O' bo ss'->GI n O' (es++[((a:Int),(b:Int))])->Kb true h'):F.y_pebble_game_accept g (a:Int) (b:Int) Kb h:=by
 unfold F.y_pebble_game_accept
 refine zo5 hB pg hg hs ha hb hab hn λD1 h1 f1 O1 ss1 hl1 hB1 pg1 hg1 z1 z2=>?_
 refine zt rfl ?_
 refine pg1.head hB1 λp2 e2 c2=>⟨⟨some ⟨bo,0,none⟩,n,n⟩,c2,?_⟩
 refine pg1.rowOf hB1 ha (K:=λx7=>Y6 1 8 [.int .i64 0] x7 1 [.int .i64 (b:Int)] _ h1) ?_
 have hrow:=pg1.row a ha
 rw[z1]at hrow
 have hsl:=pg1.slen
 have hrl:(ss1.getD a zf).len=0:=by have:=hrow.1;rw[Nat.mul_one]at this;exact this
 refine hrow.app hB1 (n:=1) (new:=[ic (b:Int)]) rfl rfl rfl (by omega) (by omega) λw f4 h4 hB4 ho4 hfr4 hin4=>?_
 have hf4:f4 bo=some (ss1.map slV):=by rw[hfr4 bo (pg1.apt a ha) (by rw[pg1.out];simp)];exact pg1.out
 refine⟨pg1.again hB4 e2,z79 ha (hB4.st hf4 (vs:=[slV w]) (by simp;omega) rfl λh5 hB5=>?_)⟩
 rw[Wa (by omega)]at hB5
 have pg5:=pg1.setRow (f2:=f4) (l:=O1.getD a []++[(b:Int)]) ha (λb hn hb=>hfr4 b hb hn) (by rw[z1];exact ho4) (λb hb=>(hin4 b hb).imp id And.left)
 exact H D1 h5 _ _ _ hl1 hB5 pg5 (hg1.accept ha hb (by rw[z1];simp))
theorem ziv{a b:Nat}{s:Sl}{cs:List Value}(hB:Bk D h f)(pg:PG D f g n O bo ss)(ho:OS f 1 s cs)(hap:∀k,inB s k->k≠bo/\∀v,v<n->¬inB (ss.getD v zf) k)(hg:GI n O es)(hs:Qk n (es++[((a:Int),(b:Int))]))(ha:a<n)(hb:b<n)(hab:a≠b)(hn:n<=1000000)
 (H:∀D' h' f' O' ss',D.le D'->Bk D' h' f'->PG D' f' g n O' bo ss'->OS f' 1 s cs->(∀k,inB s k->k≠bo/\∀v,v<n->¬inB (ss'.getD v zf) k)->GI n O' (es++[((a:Int),(b:Int))])->Kb true h'):qg (F.y_pebble_game_accept g (a:Int) (b:Int)) Kb h:=by
 cases hsa:s.a with
 | none=>
   have nin:∀k,¬inB s k:=λk hh=>by obtain⟨x,h1,_⟩:=hh;rw[hsa]at h1;cases h1
   refine Qe (zet hB pg hg hs ha hb hab hn λD' h' f' O' ss' h1 h2 h3 h4=>H D' h' f' O' ss' h1 h2 h3 ?_ (λk hk=>absurd hk (nin k)) h4)
   exact ho.congr λk hk=>absurd hk (nin k)
 | some A=>
   have hin:inB s A.block:=⟨A,hsa,rfl⟩
   have hap1:=hap _ hin
   obtain⟨bs,hbs⟩:∃bs,f A.block=some bs:=by
    cases hh:f A.block with
    | none=>exact absurd hh (ho.there hin)
    | some bs=>exact⟨bs,rfl⟩
   have only:∀k,inB s k->k=A.block:=λk hk=>by obtain⟨x,h1,h2⟩:=hk;rw[hsa]at h1;cases h1;exact h2.symm
   refine hB.out hbs (K1:=λr h1=>r=true/\∃D' f' O' ss',D.le D'/\Bk D' h1 f'/\PG D' f' g n O' bo ss'/\GI n O' (es++[((a:Int),(b:Int))])) (λhB0=>?_) ?_
   . have pg0:PG D (λk=>if k=A.block then none else f k) g n O bo ss:=pg.congr (if_neg (λhh=>hap1.1 hh.symm)) λv hv k hk=>if_neg λhh=>hap1.2 v hv (by rw[<-hh];exact hk)
     exact zet hB0 pg0 hg hs ha hb hab hn λD' h' f' O' ss' h1 h2 h3 h4=>⟨rfl,D',f',O',ss',h1,h2,h3,h4⟩
   . rintro r h1 ⟨rfl,D',f',O',ss',g1,g2,g3,g4⟩ hback
     obtain⟨k1,k2,k3⟩:=hback D' f' g2
     have hbo:A.block≠bo:=hap1.1
     have hrw:∀v,v<n->¬inB (ss'.getD v zf) A.block:=λv hv hh=>(g3.row v hv).there hh k2
     refine H D' _ _ O' ss' g1 k1 (g3.other hbo hrw) ?_ (λk hk=>by rw[only k hk];exact⟨hbo,hrw⟩) g4
     refine ho.congr λk hk=>?_
     rw[only k hk,Zn,hbs]
theorem zt9{K:Option Addr->Hp->Prop}(hn:n<=1000000)(H:∀g D' h' f' bo,h.le D'->Bk D' h' f'->PG D' f' g n (List.replicate n []) bo (List.replicate n zf)->K g h'):zc (F.z5c (n:Int)) K h:=by
 refine zd (λg h'=>∃D' f' bo,h.le D'/\Bk D' h' f'/\PG D' f' g n (List.replicate n []) bo (List.replicate n zf)) (λK' hk=>?_) λg h' _ ⟨D',f',bo,h1,h2,h3⟩=>H g D' h' f' bo h1 h2 h3
 unfold F.z5c
 refine(Bk.start (h:=h)).mkF n n rfl rfl (Nat.le_refl _) (by omega) (by omega) λbo h1 hbo hDo hB1=>?_
 refine hB1.newD λp D2 h2 _ hl2 c2 hB2=>hk _ _ (Hp.le_trans hl2 hB2.le) ⟨D2,_,bo,hl2,hB2,?_⟩
 have gn:∀v,(List.replicate n zf).getD v zf=zf:=λv=>by
  rw[List.getD_eq_getElem?_getD,List.getElem?_replicate];split<;>rfl
 have ge:∀v,(List.replicate n ([]:List Int)).getD v []=[]:=λv=>by
  rw[List.getD_eq_getElem?_getD,List.getElem?_replicate];split<;>rfl
 refine⟨⟨_,rfl,?_⟩,by simp,by simp,?_,λv hv=>?_,λv hv hh=>?_,λu v hu hv huv b hb=>?_⟩
 . rw[Vg];exact c2 0 _ rfl
 . rw[Zn]
   congr 1
   unfold Z6 slV
   simp[zf]
 . rw[gn,ge];exact OS.nil
 . rw[gn]at hh;obtain⟨_,h5,_⟩:=hh;cases h5
 . rw[gn]at hb;obtain⟨_,h5,_⟩:=hb;cases h5
theorem zxc(i:Nat):zb4 (i+1)=zb4 i++[(i:Int)]:=by
 unfold zb4
 rw[List.range_succ,List.map_append];rfl
theorem za0(i:Nat):(zb4 i).length=i:=by simp[zb4]
def okE(n:Nat)(es:List (Int×Int)):Prop:=∀e∈es,0<=e.1/\e.1<n/\0<=e.2/\e.2<n/\e.1≠e.2
theorem zk6{l:Sl}{K:Sl×Option Addr->Hp->Prop}(hl:LR a2c 2 A2P h l es)(he:okE n es)(hs:Qk n es)(hn:n<=1000000)(hlen:es.length<=1000000)(H:∀r h',h.le h'->IL h' r.1 (zb4 es.length)->K r h'):zc (F.z4e (n:Int) l) K h:=by
 refine zd (λr h'=>IL h' r.1 (zb4 es.length)) (λK' hk=>?_) λr h' hl hr=>H r h' hl hr
 unfold F.z4e
 have hll:=hl.len Zy
 refine zt9 hn λg D1 h1 f1 bo hl1 hB1 pg1=>?_
 refine Yq (n:=es.length) (by omega) (λi s h'=>∃D' f' O' ss',h.le D'/\Bk D' h' f'/\PG D' f' g n O' bo ss'/\OS f' 1 s ((zb4 i).map ic)/\(∀k,inB s k->k≠bo/\∀v,v<n->¬inB (ss'.getD v zf) k)/\GI n O' (es.take i))
  ⟨D1,f1,_,_,hl1,hB1,pg1,OS.nil,(λk hk=>by obtain⟨_,h5,_⟩:=hk;cases h5),GI.start n⟩ ?_
 rintro i s h2 hi ⟨D2,f2,O2,ss2,hl2,hB2,pg2,ho2,hap2,hg2⟩ k hk2
 refine ze (λh3=>?_) (λh3=>?_)
 . have hi':i<es.length:=by simp only at h3;omega
   obtain⟨J,hJ⟩:∃J:Sl×Unit->Hp->Prop,∀s h',J s h'↔∃D' f' O' ss',h.le D'/\Bk D' h' f'/\PG D' f' g n O' bo ss'/\OS f' 1 s.1 ((zb4 (i+1)).map ic)/\(∀k,inB s.1 k->k≠bo/\∀v,v<n->¬inB (ss'.getD v zf) k)/\GI n O' (es.take (i+1)):=⟨_,λ_ _=>Iff.rfl⟩
   refine zk J (λs h' hs=>hk2 _ _ hi' ((hJ s h').1 hs)) ?_
   refine(hl.le Zy (Hp.le_trans hl2 hB2.le)).get Zy i rfl hi' λa x hx hc=>⟨_,hc 0 _ rfl,_,hc 1 _ rfl,?_⟩
   obtain⟨x1,x2⟩:=hx
   have her:=he _ (List.getElem_mem hi')
   obtain⟨p,hp⟩:∃p:Nat,es[i].1=(p:Int):=⟨es[i].1.toNat,by omega⟩
   obtain⟨q,hq⟩:∃q:Nat,es[i].2=(q:Int):=⟨es[i].2.toNat,by omega⟩
   rw[x1,x2,hp,hq]
   have ee:es[i]=((p:Int),(q:Int)):=Prod.ext hp hq
   have et:es.take (i+1)=es.take i++[((p:Int),(q:Int))]:=by rw[<-ee,List.take_append_getElem hi']
   refine ziv hB2 pg2 ho2 hap2 hg2 (hs.sub (by rw[<-et];exact List.take_sublist _ _)) (by omega) (by omega) (by omega) hn λD4 h4 f4 O4 ss4 hl4 hB4 pg4 ho4 hap4 hg4=>?_
   refine Z9 rfl ?_
   have hsl:s.len=i:=by have:=ho4.1;rw[List.length_map,za0,Nat.mul_one]at this;exact this
   refine ho4.app hB4 (n:=1) (new:=[ic (i:Int)]) rfl rfl rfl (by omega) (by omega) λw f5 h5 hB5 ho5 hfr5 hin5=>(hJ _ _).2 ⟨D4,f5,O4,ss4,Hp.le_trans hl2 hl4,hB5,?_,?_,?_,?_⟩
   . have hbo:f4 bo≠none:=by rw[pg4.out];simp
     refine pg4.congr (hfr5 bo (λhh=>(hap4 bo hh).1 rfl) hbo) λv hv b hb=>hfr5 b (λhh=>(hap4 b hh).2 v hv hb) ((pg4.row v hv).there hb)
   . rw[zxc,List.map_append];exact ho5
   . intro b hb
     rcases hin5 b hb with h6 | h6
     . exact hap4 b h6
     . refine⟨λhh=>?_,λv hv hh=>(pg4.row v hv).there hh h6.1⟩
       rw[hh,pg4.out]at h6;cases h6.1
   . rw[et];exact hg4
 . have:i=es.length:=by simp only at h3;omega
   subst this
   exact hk _ _ (Hp.le_trans hl2 hB2.le) ⟨ho2.rd hB2,ho2.2.1⟩
theorem GV.okE{m:Nat}(h:GV (m:Int) es):okE m es:=λe he=>by have:=h.2.1 e he;omega
theorem z3c{G:TGraph}{Ks:Sl->Hp->Prop}(hl:LR a2c 2 A2P h G.edges es)(hv:GV G.n es)(hs:Qk G.n.toNat es)(hlen:es.length<=1000000)(H:∀r h',h.le h'->IL h' r (zb4 es.length)->Ks r h'):zc (F.Q0 G) Ks h:=by
 refine zd (λr h'=>IL h' r (zb4 es.length)) (λK' hk=>?_) λr h' hl hr=>H r h' hl hr
 unfold F.Q0
 refine Vd hl (by omega) λb h1 hl1 hb=>?_
 rw[hb.2 hv]
 refine zt rfl ?_
 have hn:=hv.1
 obtain⟨m,hm⟩:∃m:Nat,G.n=(m:Int):=⟨G.n.toNat,by omega⟩
 rw[hm]at hv hs hn |-
 exact zk6 (hl.le Zy hl1) (GV.okE hv) hs (by omega) hlen λr h2 hl2 hr=>hk _ _ (Hp.le_trans hl1 hl2) hr
theorem zib{G:TGraph}(hl:LR a2c 2 A2P h G.edges es)(hv:GV G.n es)(hs:Qk G.n.toNat es)(hlen:(es.length:Int)+3=2*G.n)(H:∀h',h.le h'->Kb true h'):zc (F.z2q G) Kb h:=by
 refine zd (λb h'=>b=true) (λK' hk=>?_) λr h' hl hr=>by subst hr;exact H h' hl
 unfold F.z2q
 have hn:=hv.1
 refine Vd hl (by omega) λb h1 hl1 hb=>?_
 rw[hb.2 hv]
 refine Z9 rfl (ze (λh2=>hk _ _ hl1 rfl) (λh2=>?_))
 refine zd (λr h'=>r=3) (λK2 hk2=>?_) λr h' hl hr=>by subst hr;exact hk _ _ (Hp.le_trans hl1 hl) rfl
 unfold F.z63
 refine Vd (hl.le Zy hl1) (by omega) λb2 h3 hl3 hb2=>?_
 rw[hb2.2 hv]
 refine zt rfl ?_
 refine z3c (hl.le Zy (Hp.le_trans hl1 hl3)) hv hs (by omega) λr h4 hl4 hr=>hk2 _ _ (Hp.le_trans hl3 hl4) ?_
 have:=hr.len
 rw[za0]at this
 rw[this,w64 (n:=2*G.n) (by omega),w64 (by omega)]
 omega
end
end Den
end

section
namespace Den
open Go Iv Lx
theorem Rd.cutN{h:Hp}{size:Nat}{x:Sl}{cs:List Value}(hr:Rd h size x cs)(lo hi:Nat)(h1:lo<=hi)(h2:hi<=x.len)(h3:hi<=x.cap):Rd h size (x.cut lo hi size) ((cs.drop (lo*size)).take ((hi-lo)*size)):=by
 have hle:lo*size+(hi-lo)*size<=cs.length:=by
  rw[<-hr.1,<-Nat.add_mul];exact Nat.mul_le_mul_right _ (by omega)
 have hlen:((cs.drop (lo*size)).take ((hi-lo)*size)).length=(hi-lo)*size:=by rw[List.length_take,List.length_drop];omega
 refine⟨by rw[hlen];rfl,?_⟩
 rw[hlen]
 by_cases h0:(hi-lo)*size=0
 . rw[h0]
   cases(x.cut lo hi size).a<;>simp[Z3,Zz]
 . have hlt:lo<hi:=by
    rcases Nat.lt_or_ge lo hi with h | h
    . exact h
    . have:hi-lo=0:=by omega
      rw[this]at h0;simp at h0
   have hne:x.cap≠lo:=by omega
   have ha:(x.cut lo hi size).a=x.a.map (·.add (lo*size)):=by show(if x.cap=lo then _ else _)=_;rw[if_neg hne]
   rw[ha]
   have hr2:=hr.2
   cases hxa:x.a with
   | none=>
     rw[hxa]at hr2
     simp only[Z3]at hr2
     split at hr2
     . omega
     . cases hr2
   | some a=>
     rw[hxa]at hr2
     simp only[Z3]at hr2
     show Zz h (a.add (lo*size)) ((hi-lo)*size)=_
     exact zbm (h:=h) (a:=a.add (lo*size)) (l:=cs.drop (lo*size)) (λi v hv=>by
      rw[Wl]
      refine z20 hr2 _ v ?_
      rw[List.getElem?_drop]at hv
      exact hv) ((hi-lo)*size) (by rw[List.length_drop];omega)
def EL(h:Hp)(l:Sl)(es:List (Int×Int)):Prop:=Rd h 2 l (es.flatMap Xy)/\l.len<=l.cap
theorem z2h(e:Int×Int):(Xy e).length=2:=rfl
theorem zqd:∀{xs:List A2_Int} {es:List (Int×Int)},xs.length=es.length->(∀k (h1:k<xs.length) (h2:k<es.length),xs[k].c0=es[k].1/\xs[k].c1=es[k].2)->xs.flatMap a2c=es.flatMap Xy
 | [],[],_,_=>rfl
 | [],_ :: _,h,_=>by simp at h
 | _ :: _,[],h,_=>by simp at h
 | x :: xs,e :: es,h,hk=>by
   have h0:=hk 0 (by simp) (by simp)
   simp only[List.getElem_cons_zero]at h0
   rw[List.flatMap_cons,List.flatMap_cons,zqd (xs:=xs) (es:=es) (by simpa using h) λk h1 h2=>by
    have:=hk (k+1) (by simpa using h1) (by simpa using h2)
    simpa only[List.getElem_cons_succ] using this]
   unfold a2c Xy
   rw[h0.1,h0.2]
theorem LR.el{h:Hp}{l:Sl}{es:List (Int×Int)}(hl:LR a2c 2 A2P h l es):EL h l es:=by
 obtain⟨xs,h1,h2,h3,h4⟩:=hl
 rw[zqd h3 λk k1 k2=>h4 k k1 k2]at h1
 exact⟨h1,h2⟩
theorem EL.lr{h:Hp}{l:Sl}{es:List (Int×Int)}(hl:EL h l es):LR a2c 2 A2P h l es:=by
 refine⟨es.map λe=>⟨e.1,e.2⟩,?_,hl.2,by simp,λk h1 h2=>by simp[A2P]⟩
 rw[zqd (es:=es) (by simp) λk h1 h2=>by simp];exact hl.1
theorem EL.le{h h':Hp}{l:Sl}{es:List (Int×Int)}(hx:EL h l es)(hl:h.le h'):EL h' l es:=⟨hx.1.le hl,hx.2⟩
theorem EL.len{h:Hp}{l:Sl}{es:List (Int×Int)}(hx:EL h l es):l.len=es.length:=hx.lr.len Zy
theorem ze3{α:Type}{c:α->List Value}{n:Nat}(hc:∀x,(c x).length=n):∀{xs:List α} {k:Nat},(xs.flatMap c).drop (k*n)=(xs.drop k).flatMap c
 | [],k=>by simp
 | x :: xs,0=>by simp
 | x :: xs,k+1=>by
   rw[List.flatMap_cons,List.drop_succ_cons,<-ze3 hc (xs:=xs) (k:=k),Nat.add_mul,Nat.one_mul,Nat.add_comm,<-List.drop_drop]
   congr 1
   rw[<-hc x,List.drop_append_of_le_length (Nat.le_refl _),List.drop_length,List.nil_append]
theorem zh4{α:Type}{c:α->List Value}{n:Nat}(hc:∀x,(c x).length=n){xs:List α}{k:Nat}:(xs.flatMap c).take (k*n)=(xs.take k).flatMap c:=by
 have h:=List.take_append_drop k xs
 by_cases hk:k<=xs.length
 . conv=>lhs;rw[<-h,List.flatMap_append]
   have:((xs.take k).flatMap c).length=k*n:=by rw[Qf hc,List.length_take,Nat.min_eq_left hk]
   rw[List.take_append_of_le_length (by omega),List.take_of_length_le (by omega)]
 . rw[List.take_of_length_le (by rw[Qf hc];exact Nat.mul_le_mul_right _ (by omega)),List.take_of_length_le (by omega)]
theorem Own.bk{D h:Hp}{size:Nat}{x:Sl}{cs:List Value}(ho:Own D h size x cs):∃f,Bk D h f/\OS f size x cs:=by
 obtain⟨h1,h2,h3,h4⟩:=ho
 cases ha:x.a with
 | none=>
   rw[ha]at h4
   refine⟨z6x,⟨h1,λb cs hb=>by cases hb⟩,h2,h3,by rw[ha];exact h4⟩
 | some a=>
   rw[ha]at h4
   obtain⟨g1,g2,g3,b,g4,g5,g6,g7⟩:=h4
   refine⟨Wd z6x a.block b.cells,⟨h1,λk cs hk=>?_⟩,h2,h3,?_⟩
   . by_cases hka:k=a.block
     . subst hka
       rw[Zn]at hk;cases hk
       exact⟨g3,b.elem,by rw[g4,<-g5]⟩
     . rw[Y0 hka]at hk;cases hk
   . rw[ha]
     exact⟨g1,g2,b.cells,Zn,g6,g7⟩
section
variable {D h : Hp} {f : BM} {es : List (Int × Int)} {Ks : Sl → Hp → Prop}
theorem zf1{l:Sl}(hl:EL h l es)(hlen:es.length<=1000000)(H:∀y h',Own h h' 2 y (es.flatMap Xy)->Ks y h'):zc (F.qv l) Ks h:=by
 refine zd (λy h'=>Own h h' 2 y (es.flatMap Xy)) (λK' hk=>?_) λy h' _ hy=>H y h' hy
 unfold F.qv
 have hll:=hl.len
 have hcl:(es.flatMap Xy).length=es.length*2:=Qf z2h _
 cases ha:l.a with
 | none=>
   refine Z9 rfl (hk _ _ (Hp.le_refl _) ?_)
   have h2:=hl.1.2
   rw[ha]at h2
   simp only[Z3]at h2
   split at h2
   . rename_i h5
     have:es.flatMap Xy=[]:=(Option.some.inj h2).symm
     rw[this];exact Own.nil (Hp.le_refl _)
   . cases h2
 | some a=>
   refine zt rfl ?_
   refine(Bk.start (h:=h)).newF λb h1 hb hD hB1=>?_
   refine⟨es.flatMap Xy,?_,?_⟩
   . have:=z6p hB1.le hl.1.2
     rw[hcl]at this
     rw[hll,<-ha];exact this
   . have ho:OS (Wd z6x b []) 2 ⟨some ⟨b,0,none⟩,0,0⟩ []:=OS.blk rfl
     refine ho.app hB1 (n:=l.len) (by rw[hcl,hll]) rfl ?_ ?_ ?_ λy f2 h2 hB2 ho2 _ _=>hk _ _ hB2.le ?_
     . rw[List.all_flatMap];exact List.all_eq_true.2 λ_ _=>rfl
     . show(0+l.len)*16<=_;omega
     . show 0+l.len<=_;omega
     . rw[List.nil_append]at ho2
       exact ho2.own hB2
theorem zyo{size bytes:Nat}{zero cs:List Value}{x:Sl}{i N:Nat}{K:Sl->Hp->Prop}(hsz:0<size)(ho:OS f size x cs)(hB:Bk D h f)(hN:x.len=N)(hi:i<N)(hlen:N<=1000000)(hby:bytes<=1000)(hleaf:cs.all Value.leaf=true)(hzl:zero.length=size)(hzlf:zero.all Value.leaf=true)
 (H:∀y f' h',Bk D h' f'->OS f' size y (cs.take (i*size)++cs.drop ((i+1)*size))->(∀b,¬inB x b->f' b=f b)->(∀b,inB y b->inB x b)->K y h') :
 (zxh x (i:Int) (i64.wrap ((i:Int)+1)) (x.len:Int) size λc1=>
 (ifP ((i:Int)==(i64.wrap ((i:Int)+1)))
 (K x h)
 (slP x 0 (i:Int) size λc2=>
 (slP x (i64.wrap ((i:Int)+1)) (x.len:Int) size λc3=>
 (rdO c3.a (c3.len*size) (λvs4=>
 (Y6 size bytes zero c2 c3.len vs4 (λw5 h1=>
 (slP w5 (w5.len:Int) (x.len:Int) size λc6=>
 (zl0 c6 zero (λh2=>
 (K w5 h2)) h1))) h)) h))))):=by
  rw[w64 (by omega)]
  have hc:=ho.2.1
  have hcs:=ho.1
  have ha:∃a,x.a=some a:=by
   cases hxa:x.a with
   | none=>
     have h3:=ho.2.2
     rw[hxa]at h3
     simp only at h3
     omega
   | some a=>exact⟨a,rfl⟩
  refine⟨by omega,by omega,by omega,by omega,?_⟩
  refine Za (λh1=>by omega) (λ_=>?_)
  refine⟨by omega,by omega,by omega,⟨by omega,by omega,by omega,?_⟩⟩
  have e1:((i:Int)+1).toNat=i+1:=by omega
  have e2:((i:Int)).toNat=i:=rfl
  have e3:((x.len:Int)).toNat=x.len:=rfl
  have e0:((0:Int)).toNat=0:=rfl
  rw[e1,e2,e3,e0]
  have hr:=(ho.rd hB).cutN (i+1) x.len (by omega) (Nat.le_refl _) hc
  have hcl:(x.cut (i+1) x.len size).len=x.len-(i+1):=rfl
  have hmm:(x.len-(i+1))*size=cs.length-(i+1)*size:=by rw[<-hcs,Nat.sub_mul]
  have hdl:((cs.drop ((i+1)*size)).take ((x.len-(i+1))*size))=cs.drop ((i+1)*size):=List.take_of_length_le (by rw[List.length_drop,hmm];omega)
  rw[hdl]at hr
  have hdlen:(cs.drop ((i+1)*size)).length=(x.len-(i+1))*size:=by rw[List.length_drop,hmm]
  have hr2:=hr.2
  rw[hdlen]at hr2
  refine⟨_,by rw[hcl];exact hr2,?_⟩
  have hcut:=ho.cut (n:=i) (by omega)
  have hca:(x.cut 0 i size).a=x.a:=zgr x i size
  have hall:(cs.drop ((i+1)*size)).all Value.leaf=true:=by
   rw[List.all_eq_true]at hleaf |-
   exact λv hv=>hleaf v (List.mem_of_mem_drop hv)
  have hbb:∀m,m<=1000000->m*bytes<=140737488355328:=λm hm=>Nat.le_trans (Nat.mul_le_mul hm hby) (by decide)
  refine hcut.appF hB (by rw[hcl,hdlen]) hall ?_ ?_ ?_ λf2 h2 hB2 ho2 hfr2=>?_
  . exact hbb _ (by show i-0+(x.len-(i+1))<=_;omega)
  . show i-0+(x.len-(i+1))<=_;omega
  . show i-0+(x.len-(i+1))<=x.cap-0;omega
  have hcc:(x.cut 0 i size).cap=x.cap:=Nat.sub_zero _
  have hll:(x.cut 0 i size).len=i:=Nat.sub_zero _
  have fr2:∀b,¬inB x b->f2 b=f b:=λb hb=>hfr2 b λhh=>hb (by obtain⟨a,h1,h2⟩:=hh;exact⟨a,by rw[<-hca];exact h1,h2⟩)
  refine⟨by omega,by show((((x.cut 0 i size).len+(x.cut (i+1) x.len size).len:Nat)):Int)<=_;rw[hll,hcl];omega,by show(x.len:Int)<=(((x.cut 0 i size).cap:Nat):Int);rw[hcc];omega,?_⟩
  obtain⟨y,hy⟩:∃y:Sl,y=⟨(x.cut 0 i size).a,(x.cut 0 i size).len+(x.cut (i+1) x.len size).len,(x.cut 0 i size).cap⟩:=⟨_,rfl⟩
  rw[<-hy]at ho2 |-
  have hya:y.a=x.a:=by rw[hy];exact hca
  have hyl:y.len+1=x.len:=by rw[hy];show(x.cut 0 i size).len+(x.cut (i+1) x.len size).len+1=_;rw[hll,hcl];omega
  have hyc:y.cap=x.cap:=by rw[hy];exact hcc
  have hyin:∀b,inB y b->inB x b:=λb hh=>by obtain⟨a,h1,h2⟩:=hh;exact⟨a,by rw[<-hya];exact h1,h2⟩
  have e4:((y.len:Int)).toNat=y.len:=rfl
  refine⟨λh0=>?_,λh0=>?_⟩
  . exfalso
    have:(y.cut ((y.len:Int)).toNat ((x.len:Int)).toNat size).len=x.len-y.len:=rfl
    rw[this]at h0;omega
  . have hlen1:(y.cut ((y.len:Int)).toNat ((x.len:Int)).toNat size).len=1:=by show x.len-y.len=1;omega
    rw[hlen1]
    obtain⟨a,ha⟩:=ha
    have hne:y.cap≠y.len:=by omega
    have ea:(y.cut ((y.len:Int)).toNat ((x.len:Int)).toNat size).a=some (a.add (y.len*size)):=by
     show(if y.cap=((y.len:Int)).toNat then y.a else y.a.map (·.add (((y.len:Int)).toNat*size)))=_
     rw[e4,if_neg hne,hya,ha];rfl
    rw[ea]
    have hr1:Z6 1 zero=zero:=by unfold Z6;simp
    rw[hr1]
    have key:=ho2.spare (vs:=zero) (k:=y.len*size) hB2 ⟨a,by rw[hya];exact ha⟩ (by rw[<-ho2.1];exact Nat.le_refl _) (by rw[hzl,show y.len*size+size=(y.len+1)*size by rw[Nat.add_mul,Nat.one_mul],hyl,hyc];exact Nat.mul_le_mul_right _ hc) hzlf (K:=K y) λf3 h3 hB3 ho3 hfr3=>
     H y f3 h3 hB3 ho3 (λb hb=>(hfr3 b λhh=>hb (hyin b hh)).trans (fr2 b hb)) hyin
    rw[hya,ha]at key
    simp only[stO]at key |-
    rw[Zq]
    exact key
theorem zvv{x:Sl}{i:Nat}(ho:OS f 2 x (es.flatMap Xy))(hB:Bk D h f)(hi:i<es.length)(hlen:es.length<=1000000)
 (H:∀y f' h',Bk D h' f'->OS f' 2 y ((es.eraseIdx i).flatMap Xy)->Ks y h'):qg (F.Qw x (i:Int) (i64.wrap ((i:Int)+1))) Ks h:=by
 refine Qe ?_
 unfold F.Qw
 have hl:x.len=es.length:=by
  have:=ho.1
  rw[Qf z2h]at this
  exact Nat.eq_of_mul_eq_mul_right (by decide) this
 refine zyo (by decide) ho hB hl hi hlen (by decide) (by rw[List.all_flatMap];exact List.all_eq_true.2 λ_ _=>rfl) rfl rfl λy f' h' hB' ho' _ _=>H y f' h' hB' ?_
 rw[zh4 z2h,ze3 z2h,<-List.flatMap_append,<-List.eraseIdx_eq_take_drop_succ]at ho'
 exact ho'
theorem GV.cap{n:Int}(h:GV n es):es.length<=3600:=by
 have hn:=h.1
 have:=zqp (q:=λ_=>true) (m:=3600) (J:=es.map λe=>e.1*60+e.2) (λa=>by
  have h1:((es.map λe=>e.1*60+e.2).Nodup):=by
   refine List.pairwise_iff_getElem.2 λi j hi hj hij hh=>?_
   rw[List.length_map]at hi hj
   rw[List.getElem_map,List.getElem_map]at hh
   have b:=h.lt j i (by omega) hij
   have r1:=h.2.1 _ (List.getElem_mem (by omega:i<es.length))
   have r2:=h.2.1 _ (List.getElem_mem (by omega:j<es.length))
   unfold z1w at b
   omega
  rw[h1.count];split<;>omega) (λa ha=>by
  obtain⟨e,he,rfl⟩:=List.mem_map.1 ha
  have:=h.2.1 e he
  exact⟨by omega,by omega,rfl⟩)
 rw[List.length_map,List.countP_true,List.length_range]at this
 exact this
theorem zi5{G:TGraph}(hl:LR a2c 2 A2P h G.edges es)(hv:GV G.n es)(hs:Qk G.n.toNat es)(H:∀h',h.le h'->Ks zf h'):zc (F.z0v G) Ks h:=by
 refine zd (λy h'=>y=zf) (λK' hk=>?_) λy h' hl hy=>by subst hy;exact H h' hl
 unfold F.z0v
 have hcap:=hv.cap
 have hn:=hv.1
 refine Vd hl (by omega) λb h1 hl1 hb=>?_
 rw[hb.2 hv]
 refine zt rfl ?_
 refine z3c (hl.le Zy hl1) hv hs (by omega) λr h2 hl2 hr=>?_
 have hle2:=Hp.le_trans hl1 hl2
 have hrl:=hr.len
 rw[za0]at hrl
 have hll:=hl.len Zy
 refine Yq (n:=es.length) (by omega) (λi s h'=>h.le h'/\s=zf) ⟨hle2,rfl⟩ ?_
 rintro i s h3 hi ⟨hl3,rfl⟩ k hk2
 refine ze (λh4=>?_) (λh4=>hk _ _ hl3 rfl)
 have hi':i<es.length:=by simp only at h4;omega
 refine zk (λs h'=>h.le h'/\s.1=zf) (λs h' hs=>hk2 _ _ hi' hs) ?_
 refine zf1 (hl.el.le hl3) (by omega) λy h5 ho5=>?_
 obtain⟨f5,hB5,hos5⟩:=ho5.bk
 refine zvv hos5 hB5 hi' (by omega) λz f6 h6 hB6 ho6=>?_
 obtain⟨m,hm⟩:∃m:Nat,G.n=(m:Int):=⟨G.n.toNat,by omega⟩
 rw[hm]at hv hs |-
 have hsub:(es.eraseIdx i).Sublist es:=List.eraseIdx_sublist ..
 have hlen6:(es.eraseIdx i).length=es.length-1:=List.length_eraseIdx_of_lt hi'
 have hle6:=Hp.le_trans hl3 hB6.le
 refine zk6 (es:=es.eraseIdx i) (EL.lr ⟨ho6.rd hB6,ho6.2.1⟩) (λe he=>GV.okE hv e (hsub.mem he)) (hs.sub hsub) (by omega) (by omega) λr9 h7 hl7 hr9=>?_
 have h9:=hr9.len
 rw[za0,hlen6]at h9
 refine Za (λh8=>by omega) (λh8=>⟨Hp.le_trans hle6 hl7,rfl⟩)
end
end Den
end

section
namespace Den
open Go Iv Lx
structure AG(D:Hp)(f:BM)(p:Addr)(n:Nat)(L:List (List Int))(bo:Nat)(ss:List Sl)(bt:Nat)(T:List Int)(le:Sl)(es:List (Int×Int)):Prop where
 pg:PG D f (some (p.add 2)) n L bo ss
 ce:D.cell (p.add 0)=some (slV le)
 ct:D.cell (p.add 1)=some (.slice (some ⟨bt,0,none⟩) es.length es.length)
 el:LR a2c 2 A2P D le es
 tc:f bt=some (T.map ic)
 tl:T.length=es.length
 tne:bt≠bo
 tap:∀v,v<n->¬inB (ss.getD v zf) bt
section
variable {D h : Hp} {f f2 : BM} {g : Option Addr} {p : Addr} {n bo bv bt : Nat} {L : List (List Int)} {ss : List Sl} {vis : List Bool} {T : List Int} {le : Sl} {es : List (Int × Int)}
theorem PG.cellA(pg:PG D f (some (p.add 2)) n L bo ss):D.cell (p.add 2)=some (.slice (some ⟨bo,0,none⟩) n n):=by
 obtain⟨q,h1,h2⟩:=pg.ptr
 cases h1
 rw[Zq]at h2;exact h2
theorem AG.other{b:Nat}{cs:List Value}(ag:AG D f p n L bo ss bt T le es)(h1:b≠bo)(h2:∀v,v<n->¬inB (ss.getD v zf) b)(h3:b≠bt):AG D (Wd f b cs) p n L bo ss bt T le es:=
 ⟨ag.pg.other h1 h2,ag.ce,ag.ct,ag.el,by rw[Y0 (λhh=>h3 hh.symm)];exact ag.tc,ag.tl,ag.tne,ag.tap⟩
theorem AG.setRow{v:Nat}{y:Sl}{l:List Int}(ag:AG D f p n L bo ss bt T le es)(hv:v<n)(hfr:∀b,f b≠none->¬inB (ss.getD v zf) b->f2 b=f b)(hy:OS f2 1 y (l.map ic))(hin:∀b,inB y b->inB (ss.getD v zf) b\/f b=none) :
 AG D (Wd f2 bo ((ss.set v y).map slV)) p n (L.set v l) bo (ss.set v y) bt T le es:=by
 have hsl:=ag.pg.slen
 have hb:f bt≠none:=by rw[ag.tc];simp
 refine⟨ag.pg.setRow hv hfr hy hin,ag.ce,ag.ct,ag.el,?_,ag.tl,ag.tne,λu hu=>?_⟩
 . rw[Y0 ag.tne,hfr bt hb (ag.tap v hv)];exact ag.tc
 . by_cases huv:u=v
   . subst huv
     rw[Qg (by omega)]
     intro hh
     rcases hin bt hh with h1 | h1
     . exact ag.tap u hu h1
     . exact hb h1
   . rw[Yf (λhh=>huv hh.symm)];exact ag.tap u hu
theorem AG.setTail{T':List Int}(ag:AG D f p n L bo ss bt T le es)(hT:T'.length=es.length):AG D (Wd f bt (T'.map ic)) p n L bo ss bt T' le es:=
 ⟨ag.pg.other ag.tne ag.tap,ag.ce,ag.ct,ag.el,Zn,hT,ag.tne,ag.tap⟩
theorem Z53{α:Type}{l:List α}{v:Nat}{d:α}(h:v<l.length):l.set v (l.getD v d)=l:=by
 refine List.ext_getElem (by simp) λi h1 h2=>?_
 rw[List.getElem_set]
 split
 . rename_i hh;subst hh
   rw[List.getD_eq_getElem?_getD,List.getElem?_eq_getElem h];rfl
 . rfl
theorem AG.setIn{v:Nat}{l:List Int}(ag:AG D f p n L bo ss bt T le es)(hv:v<n)(hfr:∀b,¬inB (ss.getD v zf) b->f2 b=f b)(hy:OS f2 1 (ss.getD v zf) (l.map ic)):AG D f2 p n (L.set v l) bo ss bt T le es:=by
 have h1:=ag.setRow hv (λb _ hb=>hfr b hb) hy (λb hb=>.inl hb)
 rw[Z53 (by rw[ag.pg.slen];exact hv)]at h1
 have e:Wd f2 bo (ss.map slV)=f2:=by
  funext k
  unfold Wd
  by_cases hk:k=bo
  . subst hk
    rw[if_pos rfl,hfr k (ag.pg.apt v hv)];exact ag.pg.out.symm
  . rw[if_neg hk]
 rw[e]at h1;exact h1
theorem PV.other{b:Nat}{cs:List Value}(pv:PV f bo ss n bv vis)(h:b≠bv):PV (Wd f b cs) bo ss n bv vis:=⟨by rw[Y0 (λhh=>h hh.symm)];exact pv.cells,pv.len,pv.ne,pv.apt⟩
theorem PV.setIn{v:Nat}(pv:PV f bo ss n bv vis)(hv:v<n)(hfr:∀b,¬inB (ss.getD v zf) b->f2 b=f b):PV f2 bo ss n bv vis:=⟨by rw[hfr bv (pv.apt v hv)];exact pv.cells,pv.len,pv.ne,pv.apt⟩
def okL(n m:Nat)(L:List (List Int)):Prop:=(∀v,v<n->(L.getD v []).length<=2)/\∀v,v<n->∀j∈L.getD v [],0<=j/\j<m
theorem Z74:∀(l m:List Bool),l.length=m.length->(∀v,Zo l v=true->Zo m v=true)->unv m<=unv l:=by
 intro l
 induction l with
 | nil=>intro m hm _;cases m with | nil=>exact Nat.le_refl _ | cons x m=>simp at hm
 | cons x l ih2=>
   intro m hm hv
   cases m with
   | nil=>simp at hm
   | cons y m=>
     have h8:=ih2 m (by simpa using hm) λv=>hv (v+1)
     have h9:=hv 0
     unfold unv Zo at *
     rw[List.countP_cons,List.countP_cons]
     simp only[List.getD_cons_zero]at h9
     cases x<;>cases y<;>simp at h9 |-<;>omega
def Z3q(es:List (Int×Int))(i:Nat)(j:Nat):Nat:=if j=0 then zgz es (i:Int)else zh0 es (i:Int)
theorem zqh:∀(fuel:Nat) {D h:Hp} {f:BM} {p:Addr} {n bo bv bt:Nat} {L:List (List Int)} {ss:List Sl} {vis:List Bool} {T:List Int} {le:Sl} {es:List (Int×Int)} {K:Bool->Hp->Prop} {i:Nat},
 Bk D h f->AG D f p n L bo ss bt T le es->PV f bo ss n bv vis->bv≠bt->okL n es.length L->okE n es->i<es.length->unv vis+1<=fuel ->
 (∀r h' f' L' ss' vis' T',Bk D h' f'->AG D f' p n L' bo ss' bt T' le es->PV f' bo ss' n bv vis'->AP n es L vis (i:Int) r L' vis'->(r=false->ss'=ss)->K r h')->F.y_pebble_assignment_assign_ fuel (some p) (i:Int) ⟨some ⟨bv,0,none⟩,n,n⟩ K h:=by
 intro fuel
 induction fuel with
 | zero=>intro D h f p n bo bv bt L ss vis T le es K i _ _ _ _ _ _ _ hfu;omega
 | succ fuel ih=>
   intro D h f p n bo bv bt L ss vis T le es K i hB ag pv hbt hL hE hi hfu H
   unfold F.y_pebble_assignment_assign_
   have hvl:=pv.len
   have hol:=ag.pg.olen
   refine⟨le,Hp.cell_le hB.le ag.ce,?_⟩
   refine(ag.el.le Zy hB.le).get Zy i rfl hi λa3 x hx hc=>⟨_,hc 0 _ rfl,_,hc 1 _ rfl,?_⟩
   obtain⟨x1,x2⟩:=hx
   rw[x1,x2]
   have her:=hE _ (List.getElem_mem hi)
   have eA:zgz es (i:Int)=es[i].1.toNat:=by unfold zgz;rw[show((i:Int)).toNat=i from rfl,List.getD_eq_getElem?_getD,List.getElem?_eq_getElem hi];rfl
   have eB:zh0 es (i:Int)=es[i].2.toNat:=by unfold zh0;rw[show((i:Int)).toNat=i from rfl,List.getD_eq_getElem?_getD,List.getElem?_eq_getElem hi];rfl
   obtain⟨I,hI⟩:∃I:Nat->Hp->Prop,∀j h',I j h'↔∃f' vis' T',Bk D h' f'/\AG D f' p n L bo ss bt T' le es/\PV f' bo ss n bv vis'/\(∀v,Zo vis v=true->Zo vis' v=true)/\(0<j->Zo vis' (zgz es (i:Int))=true)/\(1<j->Zo vis' (zh0 es (i:Int))=true) /\
    (∀v,Zo vis' v=true->Zo vis v=false->(L.getD v []).length=2/\∀j∈L.getD v [],Zo vis' (zgz es j)=true/\Zo vis' (zh0 es j)=true):=⟨_,λ_ _=>Iff.rfl⟩
   refine Yr (n:=2) (by omega) I ((hI _ _).2 ⟨f,vis,T,hB,ag,pv,λv hv=>hv,by omega,by omega,λv hv hv2=>by rw[hv]at hv2;cases hv2⟩) ?_
   intro j h1 hj hIj k hk
   obtain⟨f1,vis1,T1,hB1,ag1,pv1,hsub,z1,z2,hcl⟩:=(hI _ _).1 hIj
   have hvl1:=pv1.len
   refine ze (λh3=>?_) (λh3=>?_)
   . have hj':j<2:=by have:(j:Int)<((2:Nat):Int):=h3;omega
     refine zk (λ_ h'=>I (j+1) h') (λs h' hs=>hk _ hj' hs) ?_
     refine zlv (by simp only;omega) (by simp only;omega) ?_
     obtain⟨v,hvn,hve,hvz⟩:∃v:Nat,v<n/\[Value.int .i64 es[i].1,Value.int .i64 es[i].2][((j:Int)).toNat*1]?=some (.int .i64 (v:Int))/\v=Z3q es i j:=by
      rcases(by omega:j=0\/j=1)with rfl | rfl
      . exact⟨es[i].1.toNat,by omega,by show some (Value.int .i64 es[i].1)=_;rw[show((es[i].1.toNat:Nat):Int)=es[i].1 by omega],by unfold Z3q;rw[if_pos rfl,eA]⟩
      . exact⟨es[i].2.toNat,by omega,by show some (Value.int .i64 es[i].2)=_;rw[show((es[i].2.toNat:Nat):Int)=es[i].2 by omega],by unfold Z3q;rw[if_neg (by decide),eB]⟩
     refine⟨(v:Int),hve,?_⟩
     have fin:∀h' f' vis' T',Bk D h' f'->AG D f' p n L bo ss bt T' le es->PV f' bo ss n bv vis'->(∀u,Zo vis1 u=true->Zo vis' u=true)->Zo vis' v=true ->
      (∀u,Zo vis' u=true->Zo vis u=false->(L.getD u []).length=2/\∀j∈L.getD u [],Zo vis' (zgz es j)=true/\Zo vis' (zh0 es j)=true)->I (j+1) h':=λh' f' vis' T' g1 g2 g3 g4 g5 g6=>by
      refine(hI _ _).2 ⟨f',vis',T',g1,g2,g3,λu hu=>g4 u (hsub u hu),λhh=>?_,λhh=>?_,g6⟩
      . rcases(by omega:j=0\/j=1)with rfl | rfl
        . unfold Z3q at hvz;rw[if_pos rfl]at hvz;rw[<-hvz];exact g5
        . exact g4 _ (z1 (by omega))
      . have:j=1:=by omega
        subst this
        unfold Z3q at hvz;rw[if_neg (by decide)]at hvz;rw[<-hvz];exact g5
     refine z79 hvn (hB1.ld (l:=.bool) pv1.cells (zph (by omega)) ?_)
     refine zp (λhvb=>fin h1 f1 vis1 T1 hB1 ag1 pv1 (λu hu=>hu) hvb hcl) (λhvb=>?_)
     have hvb0:Zo vis v=false:=by
      cases hh:Zo vis v with
      | false=>rfl
      | true=>rw[hsub v hh]at hvb;cases hvb
     refine z79 hvn (hB1.st pv1.cells (vs:=[Value.bool true]) (by simp;omega) rfl λh2 hB2=>?_)
     rw[Wa (by omega)]at hB2
     have ag2:=ag1.other (cs:=(vis1.set v true).map Value.bool) pv1.ne pv1.apt hbt
     have pv2:PV (Wd f1 bv ((vis1.set v true).map Value.bool)) bo ss n bv (vis1.set v true):=⟨Zn,by rw[List.length_set];exact hvl1,pv1.ne,pv1.apt⟩
     have hun:=zmr (by omega) hvb
     have hun1:=Z74 vis vis1 (by omega) hsub
     have vset:∀u,Zo (vis1.set v true) u=(Zo vis1 u||decide (u=v)):=λu=>zab (by omega)
     have hss2:=zfz (l:=ss) (v:=v) (by rw[ag.pg.slen];exact hvn)
     have rowL:(ss.getD v zf).len=(L.getD v []).length:=by have:=(ag2.pg.row v hvn).1;rw[List.length_map,Nat.mul_one]at this;exact this
     have hL2:=hL.1 v hvn
     refine⟨⟨some ⟨bo,0,none⟩,n,n⟩,Hp.cell_le hB2.le ag2.pg.cellA,z79 hvn (hB2.ld (l:=.sl) (x:=ss.getD v zf) ag2.pg.out hss2 ?_)⟩
     have tail:∀h' f' L' ss' vis' T',Bk D h' f'->AG D f' p n L' bo ss' bt T' le es->PV f' bo ss' n bv vis'->AP n es L vis (i:Int) true L' vis' ->
      ldL (.sl) (p.add 1) (λx26=>zg x26 (i:Int) 1 λa27=>stP a27 [.int .i64 (v:Int)] (λh6=>K true h6) h') h':=λh' f' L' ss' vis' T' g1 g2 g3 g4=>by
      refine⟨⟨some ⟨bt,0,none⟩,es.length,es.length⟩,Hp.cell_le g1.le g2.ct,z79 hi (g1.st g2.tc (vs:=[ic (v:Int)]) (by have:=g2.tl;simp;omega) rfl λh6 hB6=>?_)⟩
      rw[Wa (by rw[g2.tl];exact hi)]at hB6
      exact H true h6 _ L' ss' vis' _ hB6 (g2.setTail (by rw[List.length_set];exact g2.tl)) (g3.other (λhh=>hbt hh.symm)) g4 (λhh=>by cases hh)
     refine ze (λh4=>?_) (λh4=>?_)
     . have hfree:(L.getD v []).length<2:=by have h4:((ss.getD v zf).len:Int)<2:=h4;omega
       refine⟨⟨some ⟨bo,0,none⟩,n,n⟩,Hp.cell_le hB2.le ag2.pg.cellA,⟨⟨some ⟨bo,0,none⟩,n,n⟩,Hp.cell_le hB2.le ag2.pg.cellA,z79 hvn (hB2.ld (l:=.sl) (x:=ss.getD v zf) ag2.pg.out hss2 ?_)⟩⟩
       refine(ag2.pg.row v hvn).app hB2 (n:=1) (new:=[ic (i:Int)]) rfl rfl rfl (by omega) (by omega) λw f4 h5 hB5 ho5 hfr5 hin5=>?_
       rw[<-List.map_singleton (f:=ic),<-List.map_append]at ho5
       have hf5:f4 bo=some (ss.map slV):=by rw[hfr5 bo (ag2.pg.apt v hvn) (by rw[ag2.pg.out];simp)];exact ag2.pg.out
       refine⟨⟨⟨some ⟨bo,0,none⟩,n,n⟩,Hp.cell_le hB5.le ag2.pg.cellA,rfl⟩,z79 hvn (hB5.st hf5 (vs:=[slV w]) (by have:=ag.pg.slen;simp;omega) rfl λh6 hB6=>?_)⟩
       rw[Wa (by rw[ag.pg.slen];exact hvn)]at hB6
       have ag6:=ag2.setRow (f2:=f4) (l:=L.getD v []++[(i:Int)]) hvn (λb hn hb=>hfr5 b hb hn) ho5 (λb hb=>(hin5 b hb).imp id And.left)
       have pv6:=pv2.setRow (f2:=f4) (y:=w) ag.pg.slen hvn (λb hn hb=>hfr5 b hb hn) (λb hb=>(hin5 b hb).imp id And.left) (cs:=(ss.set v w).map slV)
       exact tail h6 _ _ _ _ _ hB6 ag6 pv6 (AP.free hol hL.1 pv2.len hvn hvb0 hfree)
     . have hfull:(L.getD v []).length=2:=by have h4:¬((ss.getD v zf).len:Int)<2:=h4;omega
       refine⟨⟨some ⟨bo,0,none⟩,n,n⟩,Hp.cell_le hB2.le ag2.pg.cellA,z79 hvn (hB2.ld (l:=.sl) (x:=ss.getD v zf) ag2.pg.out hss2 ?_)⟩
       refine Yr (n:=(L.getD v []).length) (by omega) (λc h'=>∃f' vis' T',Bk D h' f'/\AG D f' p n L bo ss bt T' le es/\PV f' bo ss n bv vis'/\(∀u,Zo (vis1.set v true) u=true->Zo vis' u=true) /\
        (∀d (hd:d<(L.getD v []).length),d<c->Zo vis' (zgz es (L.getD v [])[d])=true/\Zo vis' (zh0 es (L.getD v [])[d])=true) /\
        (∀u,Zo vis' u=true->Zo (vis1.set v true) u=false->(L.getD u []).length=2/\∀j∈L.getD u [],Zo vis' (zgz es j)=true/\Zo vis' (zh0 es j)=true))
        ⟨_,_,_,hB2,ag2,pv2,λu hu=>hu,λd _ hd=>by omega,λu hu hu2=>by rw[hu]at hu2;cases hu2⟩ ?_
       rintro c h7 hc ⟨f7,vis7,T7,hB7,ag7,pv7,hsub7,hno7,hcl7⟩ k2 hk2
       have hvl7:=pv7.len
       refine ze (λh8=>?_) (λh8=>?_)
       . have hc':c<(L.getD v []).length:=by have h8:(c:Int)<((ss.getD v zf).len:Int):=h8;omega
         have hIL:IL h7 (ss.getD v zf) (L.getD v []):=⟨(ag7.pg.row v hvn).rd hB7,(ag7.pg.row v hvn).2.1⟩
         refine hIL.get c rfl hc' ?_
         have hjr:=hL.2 v hvn _ (List.getElem_mem hc')
         obtain⟨q,hq⟩:∃q:Nat,(L.getD v [])[c]=(q:Int):=⟨((L.getD v [])[c]).toNat,by omega⟩
         rw[hq]at hjr |-
         have hv7:Zo vis7 v=true:=hsub7 v (by rw[vset];simp)
         have hun7:=Z74 (vis1.set v true) vis7 (by rw[List.length_set];omega) hsub7
         refine Qe (ih hB7 ag7 pv7 hbt hL hE (by omega) (by omega) λr h9 f9 L9 ss9 vis9 T9 hB9 ag9 pv9 hap hss=>?_)
         cases r with
         | true=>
           refine Z9 rfl ?_
           have hL9:L9.getD v []=L.getD v []:=hap.2.2.2.2 v hv7
           have hss9:=zfz (l:=ss9) (v:=v) (by rw[ag9.pg.slen];exact hvn)
           refine⟨⟨some ⟨bo,0,none⟩,n,n⟩,Hp.cell_le hB9.le ag9.pg.cellA,z79 hvn (hB9.ld (l:=.sl) (x:=ss9.getD v zf) ag9.pg.out hss9 ?_)⟩
           have hrow9:=ag9.pg.row v hvn
           rw[hL9]at hrow9
           have rl9:(ss9.getD v zf).len=(L.getD v []).length:=by have:=hrow9.1;rw[List.length_map,Nat.mul_one]at this;exact this
           refine hrow9.st (vs:=[ic (i:Int)]) c hB9 rfl (by omega) rfl (by decide) rfl λf10 h10 hB10 ho10 hfr10=>?_
           rw[Nat.mul_one,Wa hc']at ho10
           have ag10:=ag9.setIn (l:=(L.getD v []).set c (i:Int)) hvn hfr10 ho10
           have pv10:=pv9.setIn hvn hfr10
           exact tail h10 f10 _ _ _ _ hB10 ag10 pv10 (AP.swap (vis1:=vis7) hap hvn hvb0 hv7 (λu hu=>hsub7 u (by rw[vset,hsub u hu];rfl)) hc' hq)
         | false=>
           obtain⟨p1,p2,rfl,p4,p5,p6,p7⟩:=hap
           have:=hss rfl
           subst this
           refine zt rfl (hk2 _ hc' ⟨f9,vis9,T9,hB9,ag9,pv9,λu hu=>p4 u (hsub7 u hu),λd hd hdc=>?_,λu hu hu2=>?_⟩)
           . rcases Nat.lt_or_ge d c with h5 | h5
             . exact⟨p4 _ (hno7 d hd h5).1,p4 _ (hno7 d hd h5).2⟩
             . have:d=c:=by omega
               subst this
               rw[hq];exact⟨p5,p6⟩
           . cases hu3:Zo vis7 u with
             | true=>
               have:=hcl7 u hu3 hu2
               exact⟨this.1,λj hj=>⟨p4 _ (this.2 j hj).1,p4 _ (this.2 j hj).2⟩⟩
             | false=>exact p7 u hu hu3
       . have hc':c=(L.getD v []).length:=by have h8:¬(c:Int)<((ss.getD v zf).len:Int):=h8;omega
         refine fin h7 f7 vis7 T7 hB7 ag7 pv7 (λu hu=>hsub7 u (by rw[vset,hu];rfl)) (hsub7 v (by rw[vset];simp)) (λu hu hu2=>?_)
         by_cases huv:u=v
         . subst huv
           refine⟨hfull,λj hj=>?_⟩
           obtain⟨d,hd,rfl⟩:=List.mem_iff_getElem.1 hj
           exact hno7 d hd (by omega)
         . cases hu3:Zo vis1 u with
           | true=>
             have:=hcl u hu3 hu2
             have up:∀x,Zo vis1 x=true->Zo vis7 x=true:=λx hx=>hsub7 x (by rw[vset,hx];rfl)
             exact⟨this.1,λj hj=>⟨up _ (this.2 j hj).1,up _ (this.2 j hj).2⟩⟩
           | false=>exact hcl7 u hu (by rw[vset,hu3];simp[huv])
   . have hj':j=2:=by have:¬(j:Int)<((2:Nat):Int):=h3;omega
     exact H false h1 f1 L ss vis1 T1 hB1 ag1 pv1 ⟨hol,hvl1,rfl,hsub,z1 (by omega),z2 (by omega),hcl⟩ (λ_=>rfl)
end
end Den
end

section
namespace Den
open Go Iv Lx
theorem Bk.addOwn{D h h':Hp}{f:BM}{size:Nat}{y:Sl}{cs:List Value}(hB:Bk D h f)(ho:Own h h' size y cs):∃f',Bk D h' f'/\OS f' size y cs/\∀b,f b≠none->f' b=f b/\¬inB y b:=by
 obtain⟨h1,h2,h3,h4⟩:=ho
 have hB1:=hB.mono h1
 cases ha:y.a with
 | none=>
   rw[ha]at h4
   refine⟨f,hB1,⟨h2,h3,by rw[ha];exact h4⟩,λb _=>⟨rfl,λhh=>?_⟩⟩
   obtain⟨_,h5,_⟩:=hh
   rw[ha]at h5;cases h5
 | some a=>
   rw[ha]at h4
   obtain⟨g1,g2,g3,b,g4,g5,g6,g7⟩:=h4
   have hf:=hB.fresh g3
   refine⟨Wd f a.block b.cells,⟨hB1.le,λk cs hk=>?_⟩,⟨h2,h3,?_⟩,λk hk=>⟨Y0 λhh=>hk (hh▸hf.1),λhh=>?_⟩⟩
   . by_cases hka:k=a.block
     . subst hka
       rw[Zn]at hk;cases hk
       exact⟨hf.2,b.elem,by rw[g4,<-g5]⟩
     . rw[Y0 hka]at hk;exact hB1.own k cs hk
   . rw[ha]
     exact⟨g1,g2,b.cells,Zn,g6,g7⟩
   . obtain⟨x,h5,h6⟩:=hh
     rw[ha]at h5;cases h5
     exact hk (h6▸hf.1)
section
variable {D h : Hp} {f : BM} {n : Nat} {es : List (Int × Int)}
theorem ztt{l:Sl}{K:Sl×Bool->Hp->Prop}(hl:LR a2c 2 A2P h l es)(hE:okE n es)(hs:∀X:Int->Bool,2<=szX n X->z04 es X<=2*szX n X)(hn:n<=1000000)(hlen:es.length<=1000000)
 (H:∀r h',h.le h'->r.2=true->K r h'):zc (F.z5d (n:Int) l) K h:=by
 refine zd (λr h'=>r.2=true) (λK' hk=>?_) λr h' hl hr=>H r h' hl hr
 unfold F.z5d
 have hll:=hl.len Zy
 refine(Bk.start (h:=h)).mkF es.length es.length (by rw[hll]) (by rw[hll]) (Nat.le_refl _) (by omega) (by omega) λbt h1 hbt hDt hB1=>?_
 refine hB1.mkF n n rfl rfl (Nat.le_refl _) (by omega) (by omega) λbo h2 hbo hDo hB2=>?_
 have hne:bt≠bo:=λhh=>by rw[<-hh,Zn]at hbo;cases hbo
 refine hB2.newD λb3 D3 h3 _ hl3 c3 hB3=>?_
 have gn:∀v,(List.replicate n zf).getD v zf=zf:=λv=>by
  rw[List.getD_eq_getElem?_getD,List.getElem?_replicate];split<;>rfl
 have ge:∀v,(List.replicate n ([]:List Int)).getD v []=[]:=λv=>by
  rw[List.getD_eq_getElem?_getD,List.getElem?_replicate];split<;>rfl
 have nin:∀b,¬inB zf b:=λb hh=>by obtain⟨_,h5,_⟩:=hh;cases h5
 have r1:Z6 es.length [Value.int .i64 0]=(List.replicate es.length (0:Int)).map ic:=by unfold Z6 ic;simp
 have r2:Z6 n [Value.slice zf.a zf.len zf.cap]=(List.replicate n zf).map slV:=by unfold Z6 slV;simp
 have ag3:AG D3 (Wd (Wd z6x bt (Z6 es.length [Value.int .i64 0])) bo (Z6 n [Value.slice zf.a zf.len zf.cap])) ⟨b3,0,none⟩ n (List.replicate n []) bo (List.replicate n zf) bt (List.replicate es.length 0) l es:=by
  refine⟨⟨⟨_,rfl,?_⟩,by simp,by simp,?_,λv hv=>?_,λv hv=>?_,λu v hu hv huv b hb=>?_⟩,?_,?_,hl.le Zy hl3,?_,by simp,hne,λv hv=>?_⟩
  . rw[Zq,Vg];exact c3 2 _ rfl
  . rw[Zn,r2]
  . rw[gn,ge];exact OS.nil
  . rw[gn];exact nin _
  . rw[gn]at hb;exact absurd hb (nin _)
  . rw[Vg];exact c3 0 _ rfl
  . rw[Vg];have:=c3 1 _ rfl;exact this
  . rw[Y0 hne,Zn,r1]
  . rw[gn];exact nin _
 refine Yr (n:=es.length) (by omega) (λi h'=>∃f' L ss T,Bk D3 h' f'/\AG D3 f' ⟨b3,0,none⟩ n L bo ss bt T l es/\(∀v,v<n->(L.getD v []).length<=2)/\(∀a,L.flatten.count a<=1)/\∀a∈L.flatten,0<=a/\a<(i:Int))
  ⟨_,_,_,_,hB3,ag3,λv _=>by rw[ge];simp,λa=>by simp,λa ha=>by simp at ha⟩ ?_
 rintro i h4 hi ⟨f4,L4,ss4,T4,hB4,ag4,two4,cnt4,rng4⟩ k hk2
 refine ze (λh5=>?_) (λh5=>?_)
 . have hi':i<es.length:=by simp only at h5;omega
   refine hB4.mkF n n rfl rfl (Nat.le_refl _) (by omega) (by omega) λbv h6 hbv hDv hB6=>?_
   rw[zkd]at hB6
   have h1':bv≠bo:=λhh=>by rw[hh,ag4.pg.out]at hbv;cases hbv
   have h2':bv≠bt:=λhh=>by rw[hh,ag4.tc]at hbv;cases hbv
   have h3':∀v,v<n->¬inB (ss4.getD v zf) bv:=λv hv hh=>(ag4.pg.row v hv).there hh hbv
   have ag6:=ag4.other (cs:=(List.replicate n false).map Value.bool) h1' h3' h2'
   have pv6:PV (Wd f4 bv ((List.replicate n false).map Value.bool)) bo ss4 n bv (List.replicate n false):=⟨Zn,by simp,h1',h3'⟩
   have okl:okL n es.length L4:=⟨two4,λv hv j hj=>by
    have:j∈L4.flatten:=by
     rw[List.mem_flatten]
     refine⟨L4.getD v [],?_,hj⟩
     rw[List.getD_eq_getElem?_getD,List.getElem?_eq_getElem (by rw[ag4.pg.olen];exact hv)]
     exact List.getElem_mem _
    have:=rng4 j this
    omega⟩
   refine Qe ?_
   unfold F.y_pebble_assignment_assign
   refine⟨_,zqh _ hB6 ag6 pv6 h2' okl hE hi' (Nat.le_refl _) λr h7 f7 L7 ss7 vis7 T7 hB7 ag7 pv7 hap _=>?_⟩
   cases r with
   | false=>
     exact(zkv ag4.pg.olen cnt4 rng4 hi' hE hs (zpi n) hap).elim
   | true=>
     obtain⟨p1,p2,p3,p4,p5⟩:=hap
     have c0:L4.flatten.count (i:Int)=0:=List.count_eq_zero.2 λhh=>by have:=rng4 _ hh;omega
     refine zt rfl (hk2 _ hi' ⟨f7,L7,ss7,T7,hB7,ag7,p3,λa=>?_,λa ha=>?_⟩)
     . rw[p4 a,List.count_singleton]
       by_cases hai:(i:Int)=a
       . subst hai;rw[c0];simp
       . have:=cnt4 a
         have e:((i:Int)==a)=false:=by simp;exact hai
         rw[e];simp;exact this
     . have h8:0<L7.flatten.count a:=List.count_pos_iff.2 ha
       rw[p4 a,List.count_singleton]at h8
       by_cases hai:(i:Int)=a
       . subst hai;omega
       . have e:((i:Int)==a)=false:=by simp;exact hai
         rw[e]at h8
         have:=rng4 a (List.count_pos_iff.1 (by simpa using h8))
         omega
 . refine⟨⟨some ⟨bt,0,none⟩,es.length,es.length⟩,Hp.cell_le hB4.le ag4.ct,hk _ _ (Hp.le_trans hl3 hB4.le) rfl⟩
theorem zee{G:TGraph}{K:Sl×Bool->Hp->Prop}(hl:LR a2c 2 A2P h G.edges es)(hv:GV G.n es)(hs:Qk G.n.toNat es)(H:∀s h',h.le h'->K (s,true) h'):zc (F.Vs G) K h:=by
 refine zd (λr h'=>r.2=true) (λK' hk=>?_) λr h' hl hr=>?_
 . unfold F.Vs
   have hcap:=hv.cap
   have hn:=hv.1
   have hll:=hl.len Zy
   refine zk (λ_ h'=>h.le h') ?_ ?_
   . rintro _ h1 hl1
     refine Yq (n:=es.length) (by omega) (λi s h'=>∃f' cs,Bk h h' f'/\OS f' 1 s cs/\cs.length=i) ⟨z6x,[],(Bk.start (h:=h)).mono hl1,OS.nil,rfl⟩ ?_
     rintro i s h2 hi ⟨f2,cs,hB2,ho2,hcs⟩ k hk2
     refine ze (λh3=>?_) (λh3=>hk _ _ hB2.le rfl)
     have hi':i<es.length:=by simp only at h3;omega
     refine(hl.le Zy hB2.le).get Zy i rfl hi' λa3 x hx hc=>⟨_,hc 0 _ rfl,_,hc 1 _ rfl,?_⟩
     obtain⟨x1,x2⟩:=hx
     rw[x1,x2]
     refine zf1 (hl.el.le hB2.le) (by omega) λy h4 ho4=>?_
     obtain⟨f4,hB4,hoy,hfr⟩:=hB2.addOwn ho4
     have ho4s:=ho2.congr (g:=f4) λb hb=>(hfr b (ho2.there hb)).1
     have hyl:y.len=es.length:=by
      have:=hoy.1
      rw[Qf z2h]at this
      exact Nat.eq_of_mul_eq_mul_right (by decide) this
     refine hoy.app hB4 (n:=3) (new:=[es[i],es[i],es[i]].flatMap Xy) rfl rfl rfl (by omega) (by omega) λw f5 h5 hB5 how hfr5 _=>?_
     rw[<-List.flatMap_append]at how
     have ho5s:=ho4s.congr (g:=f5) λb hb=>hfr5 b ((hfr b (ho2.there hb)).2) (ho4s.there hb)
     obtain⟨m,hm⟩:∃m:Nat,G.n=(m:Int):=⟨G.n.toNat,by omega⟩
     rw[hm]at hv hs hn |-
     have hE:=GV.okE hv
     refine ztt (n:=m) (es:=es++[es[i],es[i],es[i]]) (EL.lr ⟨how.rd hB5,how.2.1⟩) (λe he=>?_) hs.triple (by omega) (by rw[List.length_append];simp;omega) λr9 h6 hl6 hr9=>?_
     . rcases List.mem_append.1 he with he | he
       . exact hE e he
       . have:e=es[i]:=by simpa using he
         rw[this];exact hE _ (List.getElem_mem hi')
     . rw[hr9]
       have hB6:=hB5.mono hl6
       have hsl:s.len=i:=by have:=ho2.1;rw[hcs,Nat.mul_one]at this;exact this
       refine zt rfl (ho5s.app hB6 (n:=1) (new:=[slV r9.1]) rfl rfl rfl (by omega) (by omega) λz f7 h7 hB7 hoz _ _=>hk2 _ _ hi' ⟨f7,_,hB7,hoz,by rw[List.length_append,hcs];rfl⟩)
   . refine Vd hl (by omega) λb h7 hl7 hb=>?_
     rw[hb.2 hv]
     refine zt rfl ?_
     refine z3c (hl.le Zy hl7) hv hs (by omega) λr h8 hl8 hr=>?_
     have hrl:=hr.len
     rw[za0]at hrl
     refine ze (λh9=>by omega) (λ_=>Hp.le_trans hl7 hl8)
 . obtain⟨s,b⟩:=r
   simp only at hr
   subst hr
   exact H s h' hl
end
end Den
end

section
namespace Den
def inP(P:List Int)(v:Int):Bool:=decide (v∈P)
structure Lam(n:Nat)(P:List Int)(E:List (Int×Int)):Prop where
 rng:∀v∈P,0<=v/\v<n
 few:∀X:Int->Bool,2<=szX n (λv=>X v&&inP P v)->z04 E X+3<=2*szX n λv=>X v&&inP P v
 none:∀X:Int->Bool,szX n (λv=>X v&&inP P v)<=1->z04 E X=0
 tight:E.length+3=2*szX n (inP P)
theorem zg6{n:Nat}{Y:Int->Bool}{x z:Int}(hx:0<=x/\x<n)(hz:0<=z/\z<n)(hne:x≠z):(if Y x then 1 else 0)+(if Y z then 1 else 0)<=szX n Y:=by
 unfold szX
 have key:∀m:Nat,(if Y x/\x<(m:Int)then 1 else 0)+(if Y z/\z<(m:Int)then 1 else 0)<=(List.range m).countP λi:Nat=>Y (i:Int):=by
  intro m
  induction m with
  | zero=>rw[if_neg (by omega),if_neg (by omega)];simp
  | succ m ih=>
    rw[List.range_succ,List.countP_append,List.countP_singleton]
    by_cases h1:x=(m:Int)
    . have h2:¬z=(m:Int):=λhh=>hne (h1.trans hh.symm)
      have e2:(if Y z/\z<((m+1:Nat):Int)then 1 else 0)=(if Y z/\z<(m:Int)then 1 else 0):=by
       congr 1;exact propext ⟨λh=>⟨h.1,by omega⟩,λh=>⟨h.1,by omega⟩⟩
      rw[e2]
      rw[if_neg (show ¬(Y x/\x<(m:Int))by omega)]at ih
      subst h1
      by_cases hy:Y (m:Int)=true
      . rw[if_pos hy,if_pos (show Y (m:Int)=true/\(m:Int)<((m+1:Nat):Int) from ⟨hy,by omega⟩)];omega
      . rw[if_neg hy,if_neg (show ¬(Y (m:Int)=true/\(m:Int)<((m+1:Nat):Int)) from λhh=>hy hh.1)];omega
    . have e1:(if Y x/\x<((m+1:Nat):Int)then 1 else 0)=(if Y x/\x<(m:Int)then 1 else 0):=by
       congr 1;exact propext ⟨λh=>⟨h.1,by omega⟩,λh=>⟨h.1,by omega⟩⟩
      rw[e1]
      by_cases h2:z=(m:Int)
      . rw[if_neg (show ¬(Y z/\z<(m:Int))by omega)]at ih
        subst h2
        by_cases hy:Y (m:Int)=true
        . rw[if_pos hy,if_pos (show Y (m:Int)=true/\(m:Int)<((m+1:Nat):Int) from ⟨hy,by omega⟩)];omega
        . rw[if_neg hy,if_neg (show ¬(Y (m:Int)=true/\(m:Int)<((m+1:Nat):Int)) from λhh=>hy hh.1)];omega
      . have e2:(if Y z/\z<((m+1:Nat):Int)then 1 else 0)=(if Y z/\z<(m:Int)then 1 else 0):=by
         congr 1;exact propext ⟨λh=>⟨h.1,by omega⟩,λh=>⟨h.1,by omega⟩⟩
        rw[e2];omega
 have:=key n
 have e1:(if Y x/\x<(n:Int)then 1 else 0)=(if Y x then 1 else 0):=by congr 1;exact propext ⟨λh=>h.1,λh=>⟨h,hx.2⟩⟩
 have e2:(if Y z/\z<(n:Int)then 1 else 0)=(if Y z then 1 else 0):=by congr 1;exact propext ⟨λh=>h.1,λh=>⟨h,hz.2⟩⟩
 rw[e1,e2]at this
 exact this
theorem Z7z{n:Nat}{a b:Int}(ha:0<=a/\a<n)(hb:0<=b/\b<n)(hab:a≠b):Lam n [a,b] [(a,b)]:=by
 have hle:∀X:Int->Bool,szX n (λv=>X v&&inP [a,b] v)<=2:=by
  intro X
  unfold szX
  have key:∀m:Nat,(List.range m).countP (λi:Nat=>X (i:Int)&&inP [a,b] (i:Int))<=(if a<(m:Int)then 1 else 0)+(if b<(m:Int)then 1 else 0):=by
   intro m
   induction m with
   | zero=>simp
   | succ m ih=>
     rw[List.range_succ,List.countP_append,List.countP_singleton]
     have hi:(X (m:Int)&&inP [a,b] (m:Int))=true->(m:Int)=a\/(m:Int)=b:=λh=>by
      rw[Bool.and_eq_true]at h
      have:=of_decide_eq_true h.2
      simpa using this
     by_cases hh:(X (m:Int)&&inP [a,b] (m:Int))=true
     . rw[if_pos hh]
       rcases hi hh with h1 | h1
       . rw[if_neg (show ¬a<(m:Int)by omega)]at ih
         rw[if_pos (show a<((m+1:Nat):Int)by omega)]
         by_cases h2:b<(m:Int)
         . rw[if_pos h2]at ih;rw[if_pos (by omega)];omega
         . rw[if_neg h2]at ih;rw[if_neg (by omega)];omega
       . rw[if_neg (show ¬b<(m:Int)by omega)]at ih
         rw[if_pos (show b<((m+1:Nat):Int)by omega)]
         by_cases h2:a<(m:Int)
         . rw[if_pos h2]at ih;rw[if_pos (by omega)];omega
         . rw[if_neg h2]at ih;rw[if_neg (by omega)];omega
     . rw[if_neg hh]
       have e1:(if a<(m:Int)then 1 else 0)<=(if a<((m+1:Nat):Int)then 1 else 0):=by split<;>split<;>omega
       have e2:(if b<(m:Int)then 1 else 0)<=(if b<((m+1:Nat):Int)then 1 else 0):=by split<;>split<;>omega
       omega
  have:=key n
  rw[if_pos ha.2,if_pos hb.2]at this
  exact this
 have hge:∀X:Int->Bool,(if X a then 1 else 0)+(if X b then 1 else 0)<=szX n (λv=>X v&&inP [a,b] v):=λX=>by
  have:=zg6 (Y:=λv=>X v&&inP [a,b] v) ha hb hab
  have e1:inP [a,b] a=true:=decide_eq_true (by simp)
  have e2:inP [a,b] b=true:=decide_eq_true (by simp)
  simp only[e1,e2,Bool.and_true]at this
  exact this
 have hc:∀X:Int->Bool,z04 [(a,b)] X=if X a&&X b then 1 else 0:=λX=>by unfold z04;rw[List.countP_singleton]
 refine⟨λv hv=>?_,λX hX=>?_,λX hX=>?_,?_⟩
 . simp only[List.mem_cons,List.not_mem_nil,or_false]at hv
   rcases hv with rfl | rfl<;>assumption
 . rw[hc];split<;>omega
 . have:=hge X
   rw[hc,if_neg]
   intro hh
   rw[Bool.and_eq_true]at hh
   rw[if_pos hh.1,if_pos hh.2]at this
   omega
 . have h1:=hle λ_=>true
   have h2:=hge λ_=>true
   simp only[Bool.true_and,if_true]at h1 h2
   have e:(λv=>inP [a,b] v)=inP [a,b]:=rfl
   rw[e]at h1 h2
   simp only[List.length_cons,List.length_nil]
   omega
theorem Z4b{n:Nat}{P1 P2 P3 P:List Int}{x y z:Int}{X:Int->Bool}(hx:∀v,v∈P1/\v∈P2↔v=x)(hy:∀v,v∈P2/\v∈P3↔v=y)(hz:∀v,v∈P1/\v∈P3↔v=z)(hxy:x≠y)(hyz:y≠z)(hxz:x≠z)
 (hP:∀v,v∈P↔v∈P1\/v∈P2\/v∈P3) (bx:0<=x/\x<n) (by_:0<=y/\y<n) (bz:0<=z/\z<n) :
 szX n (λv=>X v&&inP P1 v)+szX n (λv=>X v&&inP P2 v)+szX n (λv=>X v&&inP P3 v)=szX n (λv=>X v&&inP P v)+((if X x then 1 else 0)+(if X y then 1 else 0)+(if X z then 1 else 0)):=by
 unfold szX
 have one:∀v:Int,(if (X v&&inP P1 v)=true then 1 else 0)+(if (X v&&inP P2 v)=true then 1 else 0)+(if (X v&&inP P3 v)=true then 1 else 0) =
  (if (X v&&inP P v)=true then 1 else 0)+((if X v/\v=x then 1 else 0)+(if X v/\v=y then 1 else 0)+(if X v/\v=z then 1 else 0)):=by
  intro v
  cases hX:X v with
  | false=>simp
  | true=>
    have g1:=hx v
    have g2:=hy v
    have g3:=hz v
    have g4:=hP v
    unfold inP
    by_cases m1:v∈P1<;>by_cases m2:v∈P2<;>by_cases m3:v∈P3<;>simp only[m1,m2,m3,and_true,and_self,and_false,or_true,or_false,true_iff,false_iff,iff_true,iff_false]at g1 g2 g3 g4 <;>
     first
     | exact absurd (g1.symm.trans g2) hxy
     | (simp[m1,m2,m3,g1,g2,g3,g4];done)
     | (subst g1;simp[m1,m2,m3,g4,hxy,hxz];done)
     | (subst g2;simp[m1,m2,m3,g4,hyz,hxy.symm];done)
     | (subst g3;simp[m1,m2,m3,g4,hyz.symm,hxz.symm];done)
 have at_:∀(w:Int) m,(if X w/\w<((m+1:Nat):Int)then 1 else 0)=(if X w/\w<(m:Int)then 1 else 0)+(if X (m:Int)/\(m:Int)=w then 1 else 0):=by
  intro w m
  by_cases h1:(m:Int)=w
  . subst h1
    by_cases h2:X (m:Int)=true
    . rw[if_pos ⟨h2,by omega⟩,if_neg (by omega),if_pos ⟨h2,rfl⟩]
    . rw[if_neg (λh=>h2 h.1),if_neg (λh=>h2 h.1),if_neg (λh=>h2 h.1)]
  . rw[if_neg (show ¬(X (m:Int)/\(m:Int)=w) from λh=>h1 h.2)]
    have:(X w/\w<((m+1:Nat):Int))=(X w/\w<(m:Int)):=propext ⟨λh=>⟨h.1,by omega⟩,λh=>⟨h.1,by omega⟩⟩
    simp only[this,Nat.add_zero]
 have key:∀m:Nat,(List.range m).countP (λi:Nat=>X (i:Int)&&inP P1 (i:Int))+(List.range m).countP (λi:Nat=>X (i:Int)&&inP P2 (i:Int))+(List.range m).countP (λi:Nat=>X (i:Int)&&inP P3 (i:Int)) =
  (List.range m).countP (λi:Nat=>X (i:Int)&&inP P (i:Int))+((if X x/\x<(m:Int)then 1 else 0)+(if X y/\y<(m:Int)then 1 else 0)+(if X z/\z<(m:Int)then 1 else 0)):=by
  intro m
  induction m with
  | zero=>
    rw[if_neg (show ¬(X x/\x<((0:Nat):Int))by omega),if_neg (show ¬(X y/\y<((0:Nat):Int))by omega),if_neg (show ¬(X z/\z<((0:Nat):Int))by omega)]
    simp
  | succ m ih=>
    simp only[List.range_succ,List.countP_append,List.countP_singleton]
    rw[at_ x m,at_ y m,at_ z m]
    have:=one (m:Int)
    omega
 have:=key n
 have e:∀w:Int,w<n->(if X w/\w<(n:Int)then 1 else 0)=(if X w then 1 else 0):=λw hw=>by congr 1;exact propext ⟨λh=>h.1,λh=>⟨h,hw⟩⟩
 rw[e x bx.2,e y by_.2,e z bz.2]at this
 exact this
theorem zwo{n:Nat}{P1 P2 P3 P:List Int}{E1 E2 E3 E:List (Int×Int)}{x y z:Int}(h1:Lam n P1 E1)(h2:Lam n P2 E2)(h3:Lam n P3 E3)(hx:∀v,v∈P1/\v∈P2↔v=x)(hy:∀v,v∈P2/\v∈P3↔v=y)(hz:∀v,v∈P1/\v∈P3↔v=z)
 (hxy:x≠y) (hyz:y≠z) (hxz:x≠z) (hP:∀v,v∈P↔v∈P1\/v∈P2\/v∈P3) (hE:E.Perm (E1++E2++E3)):Lam n P E:=by
 have mx:=(hx x).2 rfl
 have my:=(hy y).2 rfl
 have mz:=(hz z).2 rfl
 have bx:=h1.rng x mx.1
 have by_:=h2.rng y my.1
 have bz:=h1.rng z mz.1
 have sz:∀X:Int->Bool,_:=λX=>Z4b (n:=n) (X:=X) hx hy hz hxy hyz hxz hP bx by_ bz
 have i1:∀{Q:List Int} {v:Int},v∈Q->inP Q v=true:=λh=>decide_eq_true h
 have w1:∀X:Int->Bool,(if X x then 1 else 0)+(if X z then 1 else 0)<=szX n (λv=>X v&&inP P1 v):=λX=>by
  have:=zg6 (Y:=λv=>X v&&inP P1 v) bx bz hxz
  simp only[i1 mx.1,i1 mz.1,Bool.and_true]at this
  exact this
 have w2:∀X:Int->Bool,(if X x then 1 else 0)+(if X y then 1 else 0)<=szX n (λv=>X v&&inP P2 v):=λX=>by
  have:=zg6 (Y:=λv=>X v&&inP P2 v) bx by_ hxy
  simp only[i1 mx.2,i1 my.1,Bool.and_true]at this
  exact this
 have w3:∀X:Int->Bool,(if X y then 1 else 0)+(if X z then 1 else 0)<=szX n (λv=>X v&&inP P3 v):=λX=>by
  have:=zg6 (Y:=λv=>X v&&inP P3 v) by_ bz hyz
  simp only[i1 my.2,i1 mz.2,Bool.and_true]at this
  exact this
 have hb:∀X:Int->Bool,∀w,(if X w then 1 else 0)<=1:=λX w=>by split<;>omega
 have hc:∀X:Int->Bool,z04 E X=z04 E1 X+z04 E2 X+z04 E3 X:=λX=>by
  rw[zjl hE]
  unfold z04
  rw[List.countP_append,List.countP_append]
 refine⟨λv hv=>?_,λX hX=>?_,λX hX=>?_,?_⟩
 . rcases(hP v).1 hv with h | h | h
   . exact h1.rng v h
   . exact h2.rng v h
   . exact h3.rng v h
 . have a0:=sz X
   have a1:=w1 X
   have a2:=w2 X
   have a3:=w3 X
   have b1:=hb X x
   have b2:=hb X y
   have b3:=hb X z
   have c1:=h1.few X
   have c2:=h2.few X
   have c3:=h3.few X
   have d1:=h1.none X
   have d2:=h2.none X
   have d3:=h3.none X
   rw[hc]
   generalize szX n (λv=>X v&&inP P1 v)=s1 at *
   generalize szX n (λv=>X v&&inP P2 v)=s2 at *
   generalize szX n (λv=>X v&&inP P3 v)=s3 at *
   generalize szX n (λv=>X v&&inP P v)=s at *
   generalize (if X x then 1 else 0)=p at *
   generalize (if X y then 1 else 0)=q at *
   generalize (if X z then 1 else 0)=r at *
   generalize z04 E1 X=k1 at *
   generalize z04 E2 X=k2 at *
   generalize z04 E3 X=k3 at *
   omega
 . have a0:=sz X
   have a1:=w1 X
   have a2:=w2 X
   have a3:=w3 X
   have d1:=h1.none X
   have d2:=h2.none X
   have d3:=h3.none X
   rw[hc]
   generalize szX n (λv=>X v&&inP P1 v)=s1 at *
   generalize szX n (λv=>X v&&inP P2 v)=s2 at *
   generalize szX n (λv=>X v&&inP P3 v)=s3 at *
   generalize szX n (λv=>X v&&inP P v)=s at *
   generalize (if X x then 1 else 0)=p at *
   generalize (if X y then 1 else 0)=q at *
   generalize (if X z then 1 else 0)=r at *
   omega
 . have a0:=sz λ_=>true
   simp only[Bool.true_and,if_true]at a0
   have t1:=h1.tight
   have t2:=h2.tight
   have t3:=h3.tight
   rw[hE.length_eq,List.length_append,List.length_append]
   have e1:(λv=>inP P1 v)=inP P1:=rfl
   have e2:(λv=>inP P2 v)=inP P2:=rfl
   have e3:(λv=>inP P3 v)=inP P3:=rfl
   have e4:(λv=>inP P v)=inP P:=rfl
   rw[e1,e2,e3,e4]at a0
   omega
theorem Lam.sparse{n:Nat}{P:List Int}{E:List (Int×Int)}(h:Lam n P E)(hall:∀v:Nat,v<n->(v:Int)∈P):Qk n E/\E.length+3=2*n:=by
 have e:∀X:Int->Bool,szX n (λv=>X v&&inP P v)=szX n X:=λX=>by
  unfold szX
  exact List.countP_congr λi hi=>by
   have:inP P (i:Int)=true:=decide_eq_true (hall i (List.mem_range.1 hi))
   simp[this]
 refine⟨λX hX=>?_,?_⟩
 . have:=h.few X
   rw[e]at this
   exact this hX
 . have h1:=h.tight
   have h2:=e λ_=>true
   simp only[Bool.true_and]at h2
   have e1:(λv=>inP P v)=inP P:=rfl
   rw[e1]at h2
   rw[h1,h2]
   unfold szX
   rw[show(λi:Nat=>true)=λ_=>true from rfl,List.countP_true,List.length_range]
end Den
end

section
namespace Den
theorem zku{α:Type}{R:α->α->Prop}(hirr:∀a,¬R a a)(hasym:∀a b,R a b->¬R b a):∀{l m:List α},l.Pairwise R->m.Pairwise R->(∀v,v∈l↔v∈m)->l=m
 | [],[],_,_,_=>rfl
 | [],b :: m,_,_,h=>absurd ((h b).2 (List.mem_cons_self ..)) List.not_mem_nil
 | a :: l,[],_,_,h=>absurd ((h a).1 (List.mem_cons_self ..)) List.not_mem_nil
 | a :: l,b :: m,h1,h2,h=>by
   rw[List.pairwise_cons]at h1 h2
   have e:a=b:=by
    rcases List.mem_cons.1 ((h a).1 (List.mem_cons_self ..))with h3 | h3
    . exact h3
    . rcases List.mem_cons.1 ((h b).2 (List.mem_cons_self ..))with h4 | h4
      . exact h4.symm
      . exact absurd (h1.1 b h4) (hasym b a (h2.1 a h3))
   subst e
   rw[zku hirr hasym h1.2 h2.2 λv=>?_]
   constructor
   . intro hv
     rcases List.mem_cons.1 ((h v).1 (List.mem_cons_of_mem _ hv))with h3 | h3
     . subst h3;exact absurd (h1.1 v hv) (hirr v)
     . exact h3
   . intro hv
     rcases List.mem_cons.1 ((h v).2 (List.mem_cons_of_mem _ hv))with h3 | h3
     . subst h3;exact absurd (h2.1 v hv) (hirr v)
     . exact h3
def Yd:List Int->List Int
 | []=>[]
 | [a]=>[a]
 | a :: b :: l=>if a=b then Yd (b :: l)else a :: Yd (b :: l)
theorem z97:∀{l:List Int} {v:Int},v∈Yd l↔v∈l
 | [],_=>Iff.rfl
 | [a],_=>Iff.rfl
 | a :: b :: l,v=>by
   have ih:=z97 (l:=b :: l) (v:=v)
   unfold Yd
   by_cases h:a=b
   . rw[if_pos h,ih,h];simp
   . rw[if_neg h,List.mem_cons,ih,List.mem_cons (l:=b :: l)]
theorem zf2:∀{l:List Int},l.Pairwise (·<=·)->(Yd l).Pairwise (·<·)
 | [],_=>List.Pairwise.nil
 | [a],_=>List.pairwise_singleton _ _
 | a :: b :: l,h=>by
   have h':=List.pairwise_cons.1 h
   have ih:=zf2 h'.2
   unfold Yd
   by_cases hab:a=b
   . rw[if_pos hab];exact ih
   . rw[if_neg hab,List.pairwise_cons]
     refine⟨λv hv=>?_,ih⟩
     have h1:=z97.1 hv
     have h2:=h'.1 v h1
     have h3:=h'.1 b (List.mem_cons_self ..)
     rcases List.mem_cons.1 h1 with rfl | h4
     . omega
     . have:=(List.pairwise_cons.1 h'.2).1 v h4
       omega
def z8z(es:List (Int×Int)):List Int:=es.flatMap λe=>[e.1,e.2]
theorem zam:∀(es:List (Int×Int)),(z8z es).length=2*es.length
 | []=>rfl
 | e :: es=>by
   have ih:=zam es
   unfold z8z at ih |-
   rw[List.flatMap_cons,List.length_append,ih,List.length_cons]
   simp only[List.length_cons,List.length_nil]
   omega
def z1i(es:List (Int×Int)):List Int:=Yd ((z8z es).mergeSort λx y=>decide (x<=y))
theorem zat{es:List (Int×Int)}{v:Int}:v∈z1i es↔∃e∈es,v=e.1\/v=e.2:=by
 unfold z1i
 rw[z97,List.mem_mergeSort]
 unfold z8z
 rw[List.mem_flatMap]
 constructor
 . rintro⟨e,he,hv⟩
   exact⟨e,he,by simpa using hv⟩
 . rintro⟨e,he,hv⟩
   exact⟨e,he,by simpa using hv⟩
theorem zd6{es:List (Int×Int)}:(z1i es).Pairwise (·<·):=by
 unfold z1i
 refine zf2 ?_
 have:=List.pairwise_mergeSort (le:=λx y:Int=>decide (x<=y)) (λa b c h1 h2=>by simp at *;omega) (λa b=>by simp;omega) (z8z es)
 exact this.imp λh=>by simpa using h
theorem zhz{es fs:List (Int×Int)}{v:Int}:v∈z1i (es++fs)↔v∈z1i es\/v∈z1i fs:=by
 rw[zat,zat,zat]
 constructor
 . rintro⟨e,he,hv⟩
   rcases List.mem_append.1 he with h | h
   . exact .inl ⟨e,h,hv⟩
   . exact .inr ⟨e,h,hv⟩
 . rintro(⟨e,he,hv⟩ | ⟨e,he,hv⟩)
   . exact⟨e,List.mem_append_left _ he,hv⟩
   . exact⟨e,List.mem_append_right _ he,hv⟩
def zcf(a b:List Int):Option Int:=match a.filter λx=>decide (x∈b)with | [x]=>some x | _=>none
theorem zl4{a b:List Int}{x:Int}(h:zcf a b=some x)(v:Int):v∈a/\v∈b↔v=x:=by
 unfold zcf at h
 have e:a.filter (λx=>decide (x∈b))=[x]:=by
  split at h
  . rename_i y hy;cases h;exact hy
  . cases h
 have:v∈a.filter (λx=>decide (x∈b))↔v∈[x]:=by rw[e]
 rw[List.mem_filter,List.mem_singleton,decide_eq_true_iff]at this
 exact this
def mrg(a b c:List Int):Option (Int×Int×Int):=
 match zcf a b,zcf b c,zcf a c with
 | some x,some y,some z=>if x=y\/y=z\/x=z then none else some (x,y,z)
 | _,_,_=>none
theorem Z4g{a b c:List Int}{x y z:Int}(h:mrg a b c=some (x,y,z)):zcf a b=some x/\zcf b c=some y/\zcf a c=some z/\x≠y/\y≠z/\x≠z:=by
 unfold mrg at h
 split at h
 . rename_i x' y' z' h1 h2 h3
   split at h
   . cases h
   . rename_i hn
     simp only[Option.some.injEq,Prod.mk.injEq]at h
     obtain⟨rfl,rfl,rfl⟩:=h
     exact⟨h1,h2,h3,λhh=>hn (.inl hh),λhh=>hn (.inr (.inl hh)),λhh=>hn (.inr (.inr hh))⟩
 . cases h
inductive PTr where
 | leaf (a b:Int)
 | node (a b c:Int) (p q r:PTr)
def PTr.bars:PTr->List (Int×Int)
 | .leaf a b=>[(a,b)]
 | .node _ _ _ p q r=>p.bars++q.bars++r.bars
def PTr.size:PTr->Nat
 | .leaf _ _=>1
 | .node _ _ _ p q r=>p.size+q.size+r.size+1
def PTr.dep:PTr->Nat
 | .leaf _ _=>1
 | .node _ _ _ p q r=>max p.dep (max q.dep r.dep)+1
theorem PTr.bars_pos:∀(t:PTr),1<=t.bars.length
 | .leaf _ _=>Nat.le_refl _
 | .node _ _ _ p q r=>by
   have:=PTr.bars_pos p
   unfold PTr.bars
   rw[List.length_append,List.length_append];omega
theorem PTr.dep_le:∀(t:PTr),t.dep<=t.bars.length
 | .leaf _ _=>Nat.le_refl _
 | .node _ _ _ p q r=>by
   have h1:=PTr.dep_le p
   have h2:=PTr.dep_le q
   have h3:=PTr.dep_le r
   have g1:=PTr.bars_pos p
   have g2:=PTr.bars_pos q
   have g3:=PTr.bars_pos r
   unfold PTr.bars PTr.dep
   rw[List.length_append,List.length_append];omega
def PTr.right:PTr->Prop
 | .leaf _ _=>True
 | .node a b c p q r=>p.right/\q.right/\r.right/\mrg (z1i p.bars) (z1i q.bars) (z1i r.bars)=some (b,c,a)
theorem Lam.congr{n:Nat}{P Q:List Int}{E:List (Int×Int)}(h:Lam n P E)(hPQ:∀v,v∈P↔v∈Q):Lam n Q E:=by
 have e:inP P=inP Q:=by funext v;unfold inP;rw[decide_eq_decide];exact hPQ v
 obtain⟨h1,h2,h3,h4⟩:=h
 rw[e]at h2 h3 h4
 exact⟨λv hv=>h1 v ((hPQ v).2 hv),h2,h3,h4⟩
theorem PTr.lam{n:Nat}:∀{t:PTr},t.right->(∀e∈t.bars,0<=e.1/\e.1<e.2/\e.2<(n:Int))->Lam n (z1i t.bars) t.bars
 | .leaf a b,_,h=>by
   have:=h (a,b) (by unfold PTr.bars;simp)
   simp only at this
   refine(Z7z (n:=n) (a:=a) (b:=b) ⟨this.1,by omega⟩ ⟨by omega,this.2.2⟩ (by omega)).congr λv=>?_
   rw[zat]
   unfold PTr.bars
   simp
 | .node a b c p q r,hr,h=>by
   obtain⟨h1,h2,h3,h4⟩:=hr
   unfold PTr.bars at h
   have l1:=PTr.lam h1 λe he=>h e (by simp[he])
   have l2:=PTr.lam h2 λe he=>h e (by simp[he])
   have l3:=PTr.lam h3 λe he=>h e (by simp[he])
   obtain⟨g1,g2,g3,g4,g5,g6⟩:=Z4g h4
   refine zwo l1 l2 l3 (zl4 g1) (zl4 g2) (zl4 g3) g4 g5 g6 (λv=>?_) (List.Perm.refl _)
   show v∈z1i (p.bars++q.bars++r.bars)↔_
   rw[zhz,zhz,or_assoc]
theorem zy3{n:Nat}{l:List Int}(h:l.Pairwise (·<·))(hr:∀v∈l,0<=v/\v<(n:Int))(hlen:l.length=n):∀v:Nat,v<n->(v:Int)∈l:=by
 have key:∀k (hk:k<l.length),(k:Int)<=l[k]:=by
  intro k
  induction k with
  | zero=>intro hk;exact(hr _ (List.getElem_mem hk)).1
  | succ k ih=>
    intro hk
    have h1:=ih (by omega)
    have h2:=List.pairwise_iff_getElem.1 h k (k+1) (by omega) hk (by omega)
    omega
 have key2:∀j k (hk:k<l.length),k+j+1=n->l[k]<=(k:Int):=by
  intro j
  induction j with
  | zero=>
    intro k hk hj
    have:=(hr _ (List.getElem_mem hk)).2
    omega
  | succ j ih=>
    intro k hk hj
    have h1:=ih (k+1) (by omega) (by omega)
    have h2:=List.pairwise_iff_getElem.1 h k (k+1) (by omega) (by omega) (by omega)
    omega
 intro v hv
 have h1:=key v (by omega)
 have h2:=key2 (n-v-1) v (by omega) (by omega)
 have:(v:Int)=l[v]'(by omega):=by omega
 rw[this]
 exact List.getElem_mem _
theorem PTr.composed{n:Nat}{t:PTr}{es:List (Int×Int)}(h:t.right)(hes:∀e∈es,0<=e.1/\e.1<e.2/\e.2<(n:Int))(hp:t.bars.Perm es)(hlen:(z1i t.bars).length=n):Qk n es/\es.length+3=2*n:=by
 have hb:∀e∈t.bars,0<=e.1/\e.1<e.2/\e.2<(n:Int):=λe he=>hes e (hp.mem_iff.1 he)
 have hl:=PTr.lam h hb
 have:=hl.sparse (zy3 zd6 hl.rng hlen)
 exact⟨this.1.perm hp,by rw[<-hp.length_eq];exact this.2⟩
end Den
end

section
namespace Den
open Go Iv Lx
def tc(x:TTree):List Value:=[.int .i64 x.a,.int .i64 x.b,.int .i64 x.c,.slice x.parts.a x.parts.len x.parts.cap]
theorem Zij(x:TTree):(tc x).length=4:=rfl
inductive TR (h:Hp):TTree->PTr->Prop
 | leaf (a b:Int) (s:Sl):s.len=0->TR h ⟨a,b,0,s⟩ (.leaf a b)
 | node (a b c:Int) (s:Sl) (X Y Z:TTree) (p q r:PTr):Rd h 4 s (tc X++(tc Y++tc Z))->s.len=3->s.len<=s.cap->TR h X p->TR h Y q->TR h Z r->TR h ⟨a,b,c,s⟩ (.node a b c p q r)
theorem TR.le{h h':Hp}(hl:h.le h'){x:TTree}{t:PTr}(hx:TR h x t):TR h' x t:=by
 induction hx with
 | leaf a b s h=>exact .leaf a b s h
 | node a b c s X Y Z p q r h1 h2 h3 _ _ _ i1 i2 i3=>exact .node a b c s X Y Z p q r (h1.le hl) h2 h3 i1 i2 i3
theorem Xo:Rec tc 4 TR:=⟨Zij,by decide,λx=>rfl,λhx hl=>hx.le hl⟩
theorem TR.parts{h:Hp}{a b c:Int}{s:Sl}{p q r:PTr}(hx:TR h ⟨a,b,c,s⟩ (.node a b c p q r)):LR tc 4 TR h s [p,q,r]/\s.len=3:=by
 cases hx with
 | node _ _ _ _ X Y Z _ _ _ h1 h2 h3 hX hY hZ=>
   refine⟨⟨[X,Y,Z],?_,h3,rfl,λk k1 k2=>?_⟩,h2⟩
   . show Rd h 4 s (tc X++(tc Y++(tc Z++[])))
     rw[List.append_nil];exact h1
   . have:k<3:=k1
     rcases(by omega:k=0\/k=1\/k=2)with rfl | rfl | rfl
     . exact hX
     . exact hY
     . exact hZ
theorem zy4:∀(fuel:Nat) {h:Hp} {x:TTree} {t:PTr} {K:Sl->Hp->Prop},TR h x t->t.dep<=fuel->t.bars.length<=100000->(∀y h',Own h h' 2 y (t.bars.flatMap Xy)->K y h')->F.Wc fuel x K h:=by
 intro fuel
 induction fuel with
 | zero=>intro h x t K _ hd _ _;cases t<;>unfold PTr.dep at hd<;>omega
 | succ fuel ih=>
   intro h x t K hx hd hlen H
   unfold F.Wc
   cases hx with
   | leaf a b s h0=>
     refine Za (λ_=>?_) (λh1=>by simp only at h1;omega)
     refine z6w (n:=1) (size:=2) rfl λbk h' _ ho=>H _ h' ?_
     exact ho
   | node a b c s X Y Z p q r h1 h2 h3 hX hY hZ=>
     have hp:=TR.parts (.node a b c s X Y Z p q r h1 h2 h3 hX hY hZ)
     unfold PTr.dep at hd
     unfold PTr.bars at hlen
     rw[List.length_append,List.length_append]at hlen
     refine Za (λh4=>by simp only at h4;omega) (λ_=>?_)
     obtain⟨ps,hps⟩:∃ps:List PTr,ps=[p,q,r]:=⟨_,rfl⟩
     have hdep:∀t∈ps,t.dep<=fuel/\t.bars.length<=100000:=λt ht=>by
      rw[hps]at ht
      simp only[List.mem_cons,List.not_mem_nil,or_false]at ht
      rcases ht with rfl | rfl | rfl<;>omega
     have hpl:ps.length=3:=by rw[hps];rfl
     have htot:(ps.flatMap PTr.bars).length<=100000:=by rw[hps];simp only[List.flatMap_cons,List.flatMap_nil,List.append_nil,List.length_append];omega
     have hfin:PTr.bars (.node a b c p q r)=ps.flatMap PTr.bars:=by
      rw[hps]
      show p.bars++q.bars++r.bars=p.bars++(q.bars++(r.bars++[]))
      rw[List.append_nil,List.append_assoc]
     rw[hfin]at H
     rw[<-hps]at hp
     refine Yq (n:=3) (by omega) (λi s' h'=>Own h h' 2 s' (((ps.take i).flatMap PTr.bars).flatMap Xy)) (by simpa using Own.nil (Hp.le_refl h)) ?_
     intro i s' h' hi ho k hk
     refine ze (λh4=>?_) (λh4=>?_)
     . have hi':i<ps.length:=by rw[hpl];simp only at h4;omega
       refine(hp.1.le Xo ho.1).get Xo i rfl hi' λa4 x hx hc=>⟨_,hc 0 _ rfl,_,hc 1 _ rfl,_,hc 2 _ rfl,x.parts,hc 3 _ rfl,?_⟩
       have hd':=hdep _ (List.getElem_mem hi')
       refine zd (λy h''=>Own h' h'' 2 y (ps[i].bars.flatMap Xy)) (λK' hk'=>ih hx hd'.1 hd'.2 λy h'' hy=>hk' _ _ hy.1 hy) λy h3 hl3 hy=>?_
       have hyl:y.len=ps[i].bars.length:=by
        have:=hy.2.1
        rw[Qf z2h]at this
        exact Nat.eq_of_mul_eq_mul_right (by decide) this
       have hcl:(ps[i].bars.flatMap Xy).length=y.len*2:=hy.2.1.symm
       refine⟨_,by rw[<-hcl];exact hy.rd.2,?_⟩
       have hsl:s'.len=((ps.take i).flatMap PTr.bars).length:=by
        have:=ho.2.1
        rw[Qf z2h]at this
        exact Nat.eq_of_mul_eq_mul_right (by decide) this
       have htk:(ps.take (i+1)).flatMap PTr.bars=(ps.take i).flatMap PTr.bars++ps[i].bars:=by
        rw[<-List.take_append_getElem hi',List.flatMap_append];simp
       have hle:((ps.take i).flatMap PTr.bars).length+ps[i].bars.length<=100000:=by
        rw[<-List.length_append,<-htk]
        have:=congrArg (λl=>(l.flatMap PTr.bars).length) (List.take_append_drop (i+1) ps)
        simp only[List.flatMap_append,List.length_append]at this
        omega
       refine z3r (ho.le hl3) (n:=y.len) hcl rfl (by rw[List.all_flatMap];exact List.all_eq_true.2 λ_ _=>rfl) (by show(s'.len+y.len)*16<=_;omega) (by show s'.len+y.len<=_;omega) λw h4 hw _=>hk _ _ (by omega) ?_
       rw[htk,List.flatMap_append];exact hw
     . have:i=3:=by simp only at h4;omega
       subst this
       rw[List.take_of_length_le (by omega)]at ho
       exact H _ _ ho
section
variable {D h : Hp} {f : BM} {Ks : Sl → Hp → Prop}
theorem zjg{x:TTree}{t:PTr}(hx:TR h x t)(hlen:t.bars.length<=100000)(H:∀y h',Own h h' 2 y (t.bars.flatMap Xy)->Ks y h'):zc (F.z1m x) Ks h:=by
 refine zd (λy h'=>Own h h' 2 y (t.bars.flatMap Xy)) (λK' hk=>?_) λy h' _ hy=>H y h' hy
 unfold F.z1m
 exact⟨t.dep,zy4 _ hx (Nat.le_refl _) hlen λy h' hy=>hk _ _ hy.1 hy⟩
theorem zp7{α:Type}{enc:α->List Value}{size:Nat}{srt:List α->List α}{x:Sl}{xs:List α}{K:Unit->Hp->Prop}(hsz:0<size)(hc:∀a,(enc a).length=size)(hsl:(srt xs).length=xs.length)(hlf:∀a,(enc a).all Value.leaf=true)(ho:OS f size x (xs.flatMap enc))(hB:Bk D h f)(hlen:xs.length<=140737488355328)
 (H:∀f' h',Bk D h' f'->OS f' size x ((srt xs).flatMap enc)->K () h'):zfk enc size srt x K h:=by
 have hl:x.len=xs.length:=by
  have:=ho.1
  rw[Qf hc]at this
  exact Nat.eq_of_mul_eq_mul_right hsz this
 have ho':=ho
 obtain⟨h1,h2,h3⟩:=ho
 cases ha:x.a with
 | none=>
   rw[ha]at h3
   simp only at h3
   have h0:x.len=0:=by omega
   refine .inl ⟨h0,H f h hB ?_⟩
   have:srt xs=[]:=List.eq_nil_of_length_eq_zero (by omega)
   rw[this]
   have e:xs=[]:=List.eq_nil_of_length_eq_zero (by omega)
   rw[e]at ho'
   exact ho'
 | some a=>
   rw[ha]at h3
   obtain⟨g1,g2,bs,g3,g4,g5⟩:=h3
   have ea:a=⟨a.block,0,none⟩:=by cases a;simp only at g1 g2;rw[g1,g2]
   obtain⟨k1,e,k2⟩:=hB.own _ _ g3
   have hfl:(xs.flatMap enc).length=xs.length*size:=Qf hc _
   have hsl2:((srt xs).flatMap enc).length=xs.length*size:=by rw[Qf hc,hsl]
   have hle:xs.length*size<=bs.length:=by rw[g4,<-hl];exact Nat.mul_le_mul_right _ h2
   refine .inr ⟨a.block,0,⟨bs,e,(0,0)⟩,xs,by rw[<-ea];exact ha,hl,hlen,k2,rfl,by show 0+xs.length*size<=bs.length;omega,?_,?_⟩
   . show(bs.drop 0).take _=_
     rw[List.drop_zero,<-hfl];exact g5
   . have hk:stP ⟨a.block,0,none⟩ ((srt xs).flatMap enc) (λh'=>K () h') h:=by
      refine hB.st g3 (by rw[hsl2];omega) (by rw[List.all_flatMap];exact List.all_eq_true.2 λa _=>hlf a) λh' hB'=>H _ h' hB' ⟨by rw[hsl2,hl],h2,?_⟩
      rw[ha]
      refine⟨g1,g2,_,Zn,by rw[Yb (by rw[hsl2];omega)];exact g4,?_⟩
      unfold z8
      rw[List.take_zero,List.nil_append,List.take_append_of_le_length (Nat.le_refl _),List.take_of_length_le (Nat.le_refl _)]
     obtain⟨b2,q1,q2,q3,q4,q5,q6⟩:=hk
     rw[k2]at q1;cases q1
     exact q6
theorem z85:∀{l:List Int} {b a:Int},Yd (l++[b,a])=Yd (l++[b])++(if b=a then []else [a])
 | [],b,a=>by
   show Yd [b,a]=Yd [b]++_
   unfold Yd
   by_cases h:b=a
   . rw[if_pos h,if_pos h,h];rfl
   . rw[if_neg h,if_neg h];rfl
 | [x],b,a=>by
   have ih:=z85 (l:=[]) (b:=b) (a:=a)
   rw[List.nil_append,List.nil_append]at ih
   show Yd (x :: b :: [a])=Yd (x :: b :: [])++_
   unfold Yd
   by_cases h:x=b
   . rw[if_pos h,if_pos h,ih]
   . rw[if_neg h,if_neg h,ih];rfl
 | x :: y :: l,b,a=>by
   have ih:=z85 (l:=y :: l) (b:=b) (a:=a)
   show Yd (x :: y :: (l++[b,a]))=Yd (x :: y :: (l++[b]))++_
   rw[List.cons_append,List.cons_append]at ih
   unfold Yd
   by_cases h:x=y
   . rw[if_pos h,if_pos h,ih]
   . rw[if_neg h,if_neg h,ih];rfl
theorem zch{xs:List Int}{k:Nat}(h1:0<k)(hk:k<xs.length):Yd (xs.take (k+1))=Yd (xs.take k)++(if xs[k-1]=xs[k]then []else [xs[k]]):=by
 have e1:xs.take k=xs.take (k-1)++[xs[k-1]]:=by
  have:=List.take_append_getElem (l:=xs) (i:=k-1) (by omega)
  rw[show k-1+1=k by omega]at this
  exact this.symm
 have e2:xs.take (k+1)=xs.take (k-1)++[xs[k-1],xs[k]]:=by
  rw[<-List.take_append_getElem hk,e1,List.append_assoc];rfl
 rw[e2,z85,<-e1]
theorem zf3:∀{l:List Int},(Yd l).length<=l.length
 | []=>Nat.le_refl _
 | [a]=>Nat.le_refl _
 | a :: b :: l=>by
   have ih:=zf3 (l:=b :: l)
   unfold Yd
   split
   . simp only[List.length_cons]at ih |-;omega
   . simp only[List.length_cons]at ih |-;omega
theorem OS.il{x:Sl}{xs:List Int}(ho:OS f 1 x (xs.map ic))(hB:Bk D h f):IL h x xs:=⟨ho.rd hB,ho.2.1⟩
theorem ziz{x:Sl}{xs:List Int}(ho:OS f 1 x (xs.map ic))(hB:Bk D h f)(hlen:xs.length<=1000000)(H:∀y h',D.le h'->IL h' y (Yd xs)->Ks y h'):qg (F.Xu x) Ks h:=by
 refine Qe ?_
 unfold F.Xu
 have hl:=(ho.il hB).len
 refine ze (λh1=>?_) (λh1=>?_)
 . refine H x h hB.le ?_
   have:Yd xs=xs:=by
    match xs,hl with
    | [],_=>rfl
    | [a],_=>rfl
    | a :: b :: l,hl=>simp at hl;omega
   rw[this];exact ho.il hB
 have h2:2<=xs.length:=by omega
 refine y9 (λst h'=>∃k:Nat,st.1=(k:Int)/\1<=k/\k<=xs.length/\h'=h/\Yd (xs.take k)=xs.take k) (λst=>(xs.length-st.1).toNat) ⟨1,rfl,Nat.le_refl _,by omega,by trivial,?_⟩ ?_
 . match xs,h2 with
   | a :: b :: l,_=>rfl
 rintro⟨_,_⟩ h9 ⟨k,rfl,hk1,hk2,hh9,hck⟩
 rw[hh9]
 clear hh9
 simp only
 refine ze (λh3=>?_) (λh3=>?_)
 . have hk':k<xs.length:=by omega
   have hcs:=zch (by omega) hk'
   have e1:i64.wrap ((k:Int)-1)=((k-1:Nat):Int):=by rw[w64 (by omega)];omega
   rw[e1]
   refine(ho.il hB).get k rfl hk' ((ho.il hB).get (k-1) rfl (by omega) ?_)
   refine Za (λh4=>?_) (λh4=>⟨⟨k+1,by rw[w64 (by omega)];rfl,by omega,hk',by trivial,?_⟩,by rw[w64 (by omega)];omega⟩)
   . have hc0:=ho.2.1
     refine⟨by omega,by omega,by omega,?_⟩
     have e3:((x.len:Int)).toNat=x.len:=rfl
     have e2:((k:Int)).toNat=k:=rfl
     rw[e2,e3]
     have hcap:x.cap≠k:=by omega
     refine y9 (λst h'=>∃(w m:Nat) (f':BM) (ys:List Int),st.1=(w:Int)/\st.2.1=(m:Int)/\1<=m/\k+m<=xs.length/\w<=k+m-1/\1<=w/\Bk D h' f'/\OS f' 1 x (ys.map ic)/\ys.length=xs.length/\ys.take w=Yd (xs.take (k+m))/\ys.drop (k+m-1)=xs.drop (k+m-1))
      (λst=>(xs.length-st.2.1).toNat) ⟨k,1,f,xs,rfl,rfl,Nat.le_refl _,by omega,by omega,by omega,hB,ho,rfl,?_,rfl⟩ ?_
     . rw[hcs,if_pos h4.symm,List.append_nil];exact hck.symm
     rintro⟨_,_,_⟩ h5 ⟨w,m,f5,ys,rfl,rfl,hm1,hm2,hw,hw1,hB5,ho5,hyl,hyt,hyd⟩
     have hcl:(x.cut k x.len 1).len=x.len-k:=rfl
     simp only
     have hil5:=ho5.il hB5
     refine ze (λh6=>?_) (λh6=>?_)
     . have hm':k+m<xs.length:=by rw[hcl]at h6;omega
       have hy1:ys[k+m]'(by omega)=xs[k+m]:=by
        have:=congrArg (λl=>l[1]?) hyd
        simp only[List.getElem?_drop]at this
        rw[show k+m-1+1=k+m by omega,List.getElem?_eq_getElem (by omega),List.getElem?_eq_getElem hm']at this
        exact Option.some.inj this
       have hy0:ys[k+m-1]'(by omega)=xs[k+m-1]'(by omega):=by
        have:=congrArg (λl=>l[0]?) hyd
        simp only[List.getElem?_drop]at this
        rw[Nat.add_zero,List.getElem?_eq_getElem (by omega),List.getElem?_eq_getElem (by omega)]at this
        exact Option.some.inj this
       have e4:i64.wrap ((m:Int)-1)=((m-1:Nat):Int):=by rw[w64 (by omega)];omega
       rw[e4]
       have cg:=zch (xs:=xs) (k:=k+m) (by omega) hm'
       obtain⟨J,hJ⟩:∃J:Int×Unit->Hp->Prop,∀s h',J s h'↔∃(w:Nat) (f':BM) (ys:List Int),s.1=(w:Int)/\w<=k+m/\1<=w/\Bk D h' f'/\OS f' 1 x (ys.map ic)/\ys.length=xs.length/\ys.take w=Yd (xs.take (k+m+1))/\ys.drop (k+m)=xs.drop (k+m):=⟨_,λ_ _=>Iff.rfl⟩
       refine zk J (λs h' hs=>?_) ?_
       . obtain⟨w',f',ys',q1,q2,q3,q4,q5,q6,q7,q8⟩:=(hJ s h').1 hs
         refine⟨⟨w',m+1,f',ys',q1,by rw[w64 (by omega)];rfl,by omega,by omega,by omega,q3,q4,q5,q6,q7,by rw[show k+(m+1)-1=k+m by omega];exact q8⟩,?_⟩
         rw[w64 (by omega)];omega
       have hyd':ys.drop (k+m)=xs.drop (k+m):=by
        have:=congrArg (List.drop 1) hyd
        rw[List.drop_drop,List.drop_drop,show k+m-1+1=k+m by omega]at this
        exact this
       have rd:∀(j:Nat) (K:Int->Prop),k+j<ys.length->(∀(hj:k+j<ys.length),K ys[k+j])->zg (x.cut k x.len 1) (j:Int) 1 λa=>ldL (.int .i64) a K h5:=λj K hj hK=>by
        have:=(hil5.1.cut k x.len (by omega) (by rw[List.length_map];omega) hc0)
        refine zi3 j this rfl (v:=ic (ys[k+j])) ?_ λa ha=>⟨_,ha,hK hj⟩
        rw[List.getElem?_take_of_lt (by omega),List.getElem?_drop,List.getElem?_map,List.getElem?_eq_getElem hj];rfl
       refine rd m _ (by omega) λ_=>rd (m-1) _ (by omega) λ_=>?_
       have ey1:ys[k+m]'(by omega)=xs[k+m]:=hy1
       have ey0:ys[k+(m-1)]'(by omega)=xs[k+m-1]'(by omega):=by
        have:k+(m-1)=k+m-1:=by omega
        simp only[this];exact hy0
       rw[ey1,ey0]
       refine yt (λh7=>?_) (λh7=>(hJ _ _).2 ⟨w,f5,ys,rfl,by omega,hw1,hB5,ho5,hyl,?_,hyd'⟩)
       . refine rd m _ (by omega) λ_=>?_
         rw[ey1]
         refine ho5.st (vs:=[ic xs[k+m]]) w hB5 rfl (by omega) rfl (by decide) rfl λf8 h8 hB8 ho8 _=>?_
         rw[Nat.mul_one,Wa (by omega)]at ho8
         refine(hJ _ _).2 ⟨w+1,f8,ys.set w xs[k+m],by rw[w64 (by omega)];rfl,by omega,by omega,hB8,ho8,by rw[List.length_set];exact hyl,?_,?_⟩
         . rw[cg,if_neg (λhh=>h7 hh.symm),<-hyt]
           have:(ys.set w xs[k+m]).take (w+1)=ys.take w++[xs[k+m]]:=by
            rw[<-List.take_append_getElem (by rw[List.length_set];omega),List.getElem_set_self,List.take_set_of_le (Nat.le_refl _)]
           exact this
         . rw[List.drop_set_of_lt (by omega)];exact hyd'
       . rw[cg,if_pos h7.symm,List.append_nil];exact hyt
     . have hm':k+m=xs.length:=by rw[hcl]at h6;omega
       rw[hm',List.take_of_length_le (Nat.le_refl _)]at hyt
       refine⟨by omega,by omega,by omega,?_⟩
       have ew:((w:Int)).toNat=w:=rfl
       rw[ew,e3]
       have hcut:=ho5.cut (n:=w) (by omega)
       rw[Nat.mul_one,<-List.map_take,hyt]at hcut
       have hca:(x.cut 0 w 1).a=x.a:=zgr x w 1
       have hxa:∃a,x.a=some a:=by
        cases hxa:x.a with
        | none=>
          have h9:=ho.2.2
          rw[hxa]at h9
          simp only at h9
          omega
        | some a=>exact⟨a,rfl⟩
       have fin:∀f' h',Bk D h' f'->OS f' 1 (x.cut 0 w 1) ((Yd xs).map ic)->slP x 0 (w:Int) 1 λc20=>Ks c20 h':=λf' h' q1 q2=>⟨by omega,by omega,by omega,H _ h' q1.le (q2.il q1)⟩
       refine⟨λh0=>fin f5 h5 hB5 hcut,λh0=>?_⟩
       have hlen1:(x.cut w x.len 1).len=x.len-w:=rfl
       rw[hlen1]
       obtain⟨a,hxa⟩:=hxa
       have ea:(x.cut w x.len 1).a=some (a.add w):=by
        show(if x.cap=w then x.a else x.a.map (·.add (w*1)))=_
        rw[if_neg (by omega),hxa,Nat.mul_one];rfl
       rw[ea]
       have key:=hcut.spare (vs:=Z6 (x.len-w) [.int .i64 0]) (k:=w) hB5 ⟨a,by rw[hca];exact hxa⟩ (by rw[List.length_map,<-hyt,List.length_take];omega) (by rw[z2v];show w+(x.len-w)*1<=(x.cap-0)*1;omega)
        (by unfold Z6;rw[List.all_flatten];exact List.all_eq_true.2 λl hl=>by rw[List.mem_replicate]at hl;rw[hl.2];rfl) (K:=λh'=>slP x 0 (w:Int) 1 λc20=>Ks c20 h') λf' h' q1 q2 _=>fin f' h' q1 q2
       rw[hca,hxa]at key
       simp only[stO]at key |-
       rw[Zq]
       exact key
   . rw[hcs,if_neg (λhh=>h4 hh.symm),hck,List.take_append_getElem hk']
 . have:k=xs.length:=by omega
   subst this
   rw[List.take_of_length_le (Nat.le_refl _)]at hck
   refine H x h hB.le ?_
   rw[hck];exact ho.il hB
theorem zco(l:List Int):l.flatMap Z8c=l.map ic:=by
 induction l with
 | nil=>rfl
 | cons a l ih=>rw[List.flatMap_cons,ih];rfl
theorem z4g{x:TTree}{t:PTr}(hx:TR h x t)(hlen:t.bars.length<=100000)(H:∀y h',h.le h'->IL h' y (z1i t.bars)->Ks y h'):zc (F.Qs x) Ks h:=by
 refine zd (λy h'=>IL h' y (z1i t.bars)) (λK' hk=>?_) λy h' hl hy=>H y h' hl hy
 unfold F.Qs
 refine zjg hx hlen λy h1 ho1=>?_
 have hyl:y.len=t.bars.length:=by
  have:=ho1.2.1
  rw[Qf z2h]at this
  exact Nat.eq_of_mul_eq_mul_right (by decide) this
 have hel:EL h1 y t.bars:=⟨ho1.rd,ho1.2.2.1⟩
 refine Yq (n:=t.bars.length) (by omega) (λi s h'=>Own h1 h' 1 s ((z8z (t.bars.take i)).map ic)) (by simpa [z8z] using Own.nil (Hp.le_refl h1)) ?_
 intro i s h2 hi ho k hk2
 refine ze (λh3=>?_) (λh3=>?_)
 . have hi':i<t.bars.length:=by simp only at h3;omega
   refine(hel.lr.le Zy ho.1).get Zy i rfl hi' λa4 x hx hc=>⟨_,hc 0 _ rfl,_,hc 1 _ rfl,?_⟩
   obtain⟨x1,x2⟩:=hx
   rw[x1,x2]
   have hsl:s.len=2*i:=by
    have:=ho.2.1
    rw[List.length_map,Nat.mul_one]at this
    rw[this,zam,List.length_take];omega
   refine z3r ho (n:=2) (new:=[ic t.bars[i].1,ic t.bars[i].2]) rfl rfl rfl (by show(s.len+2)*8<=_;omega) (by show s.len+2<=_;omega) λw h4 hw _=>hk2 _ _ hi' ?_
   have:z8z (t.bars.take (i+1))=z8z (t.bars.take i)++[t.bars[i].1,t.bars[i].2]:=by
    unfold z8z
    rw[<-List.take_append_getElem hi',List.flatMap_append];simp
   rw[this,List.map_append];exact hw
 . have:i=t.bars.length:=by simp only at h3;omega
   subst this
   rw[List.take_of_length_le (Nat.le_refl _)]at ho
   obtain⟨f2,hB2,hos⟩:=ho.bk
   have hel2:(z8z t.bars).length<=200000:=by rw[zam];omega
   refine Qe (zp7 (size:=1) (xs:=z8z t.bars) (by decide) (λ_=>rfl) (by unfold Z9f;rw[List.length_mergeSort]) (λ_=>rfl) (by rw[zco];exact hos) hB2 (by omega) λf3 h4 hB4 ho4=>?_)
   rw[zco]at ho4
   exact ziz ho4 hB4 (by unfold Z9f;rw[List.length_mergeSort];omega) λy2 h5 hl5 hy2=>hk _ _ (Hp.le_trans ho1.1 hl5) hy2
end
end Den
end

section
namespace Den
open Go Iv Lx
theorem LR.get2{α β:Type}{c:α->List Value}{n:Nat}{P:Hp->α->β->Prop}{D h:Hp}{l:Sl}{ps:List β}{i:Int}{K:Addr->Prop}(hR:Rec c n P)(hx:LR c n P D l ps)(hl:D.le h)(k:Nat)(hi:i=k)(hk:k<ps.length)
 (H:∀a x,P D x ps[k]->(∀j v,(c x)[j]?=some v->h.cell (a.add j)=some v)->K a):zg l i n K:=by
 obtain⟨xs,h1,h2,h3,h4⟩:=hx
 refine zkb hR.len hR.pos (h1.le hl) k hi (by omega) λa ha=>H a xs[k] (h4 k (by omega) hk) λj v hv=>ha j v ?_ hv
 have:=(List.getElem?_eq_some_iff.1 hv).1
 rwa [hR.len]at this
section
variable {h : Hp} {a b c : Sl} {A B C : List Int} {Kb : Bool → Hp → Prop}
theorem znl{α:Type}{l:List α}(h:l.length=1):∃x,l=[x]:=by
 match l,h with
 | [x],_=>exact⟨x,rfl⟩
theorem z96{K:Int×Bool->Hp->Prop}(ha:IL h a A)(hb:IL h b B)(hlA:A.length<=200000)(hlB:B.length<=200000)(H:∀r h',h.le h'->(r.2=true->zcf A B=some r.1)->(r.2=false->zcf A B=none)->K r h'):zc (F.W7 a b) K h:=by
 refine zd (λr h'=>(r.2=true->zcf A B=some r.1)/\(r.2=false->zcf A B=none)) (λK' hk=>?_) λr h' hl hr=>H r h' hl hr.1 hr.2
 unfold F.W7
 have hal:=ha.len
 refine Yq (n:=A.length) (by omega) (λi s h'=>OI h h' s ((A.take i).filter λx=>decide (x∈B))) (by simpa using OI.nil) ?_
 intro i s h1 hi ho k hk2
 refine ze (λh2=>?_) (λh2=>?_)
 . have hi':i<A.length:=by simp only at h2;omega
   refine zk (λs h'=>OI h h' s.1 ((A.take (i+1)).filter λx=>decide (x∈B))) (λs h' hs=>hk2 _ _ hi' hs) ?_
   refine(ha.le ho.dle).get i rfl hi' ?_
   refine Wt (hb.le ho.dle) (by omega) λh3 hl3=>?_
   have ho3:=Own.le ho hl3
   have e:(A.take (i+1)).filter (λx=>decide (x∈B))=(A.take i).filter (λx=>decide (x∈B))++(if A[i]∈B then [A[i]]else []):=by
    rw[<-List.take_append_getElem hi',List.filter_append]
    congr 1
    by_cases hn:A[i]∈B<;>simp[List.filter,hn]
   refine ze (λh4=>?_) (λh4=>?_)
   . refine OI.app (xs:=(A.take i).filter λx=>decide (x∈B)) ho3 (by have:=List.length_filter_le (λx=>decide (x∈B)) (A.take i);simp at this;omega) λy h' hy=>?_
     show OI _ _ _ _
     rw[e,if_pos h4];exact hy
   . show OI _ _ _ _
     rw[e,if_neg h4,List.append_nil];exact ho3
 . have:i=A.length:=by simp only at h2;omega
   subst this
   rw[List.take_length]at ho
   have hsl:=ho.il.len
   refine yt (λh3=>hk _ _ ho.dle ⟨λhh=>(by cases hh),λ_=>?_⟩) (λh3=>?_)
   . unfold zcf
     split
     . rename_i x hx
       rw[hx]at hsl
       exact absurd (by simp only;rw[hsl];rfl) h3
     . rfl
   . obtain⟨x,hx⟩:=znl (l:=A.filter λx=>decide (x∈B)) (by simp only at h3;omega)
     refine ho.il.get 0 rfl (by rw[hx];simp) ?_
     refine hk _ _ ho.dle ⟨λ_=>?_,λhh=>(by cases hh)⟩
     unfold zcf
     simp only[hx,List.getElem_cons_zero]
theorem ze9(ha:IL h a A)(hlA:A.length<=200000)(hasc:A.Pairwise (·<·))(hnn:∀x∈A,0<=x)(H:∀h',h.le h'->Kb true h'):zc (F.z0h a) Kb h:=by
 refine zd (λr h'=>r=true) (λK' hk=>?_) λr h' hl hr=>by subst hr;exact H h' hl
 unfold F.z0h
 have hal:=ha.len
 refine Yr (n:=A.length) (by omega) (λi h'=>h.le h') (Hp.le_refl _) ?_
 intro i h1 hi hl1 k hk2
 refine ze (λh2=>?_) (λh2=>hk _ _ hl1 rfl)
 have hi':i<A.length:=by simp only at h2;omega
 refine zk (λ_ h'=>h.le h') (λs h' hs=>hk2 _ hi' hs) ?_
 refine(ha.le hl1).get i rfl hi' ?_
 refine ze (λh3=>?_) (λ_=>ze (λh4=>?_) (λ_=>hl1))
 . have:=hnn _ (List.getElem_mem hi')
   have h3:A[i]<0:=h3
   omega
 . have hi0:0<i:=by simp only at h4;omega
   simp only
   rw[show i64.wrap ((i:Int)-1)=((i-1:Nat):Int) from by rw[w64 (by omega)];omega]
   refine(ha.le hl1).get (i-1) rfl (by omega) ?_
   refine ze (λh5=>?_) (λ_=>hl1)
   have:=List.pairwise_iff_getElem.1 hasc (i-1) i (by omega) hi' (by omega)
   have h5:A[i-1]>=A[i]:=h5
   omega
theorem zq1{K:Int×Int×Int×Bool->Hp->Prop}(ha:IL h a A)(hb:IL h b B)(hc:IL h c C)(hlA:A.length<=200000)(hlB:B.length<=200000)(hlC:C.length<=200000)
 (sA:A.Pairwise (·<·)) (sB:B.Pairwise (·<·)) (sC:C.Pairwise (·<·)) (nA:∀x∈A,0<=x) (nB:∀x∈B,0<=x) (nC:∀x∈C,0<=x)
 (H:∀r h',h.le h'->(r.2.2.2=true->mrg A B C=some (r.1,r.2.1,r.2.2.1))->(r.2.2.2=false->mrg A B C=none)->K r h'):zc (F.z3t a b c) K h:=by
 refine zd (λr h'=>(r.2.2.2=true->mrg A B C=some (r.1,r.2.1,r.2.2.1))/\(r.2.2.2=false->mrg A B C=none)) (λK' hk=>?_) λr h' hl hr=>H r h' hl hr.1 hr.2
 unfold F.z3t
 refine z96 ha hb hlA hlB λr1 h1 hl1 p1 q1=>?_
 refine z96 (hb.le hl1) (hc.le hl1) hlB hlC λr2 h2 hl2 p2 q2=>?_
 have hle2:=Hp.le_trans hl1 hl2
 refine z96 (ha.le hle2) (hc.le hle2) hlA hlC λr3 h3 hl3 p3 q3=>?_
 have hle3:=Hp.le_trans hle2 hl3
 have no:∀h',h.le h'->mrg A B C=none->K' (0,0,0,false) h':=λh' hl hn=>hk _ _ hl ⟨λhh=>(by cases hh),λ_=>hn⟩
 refine zk (λ_ h'=>h.le h'/\mrg A B C=some (r1.1,r2.1,r3.1)) (λ_ h' hs=>hk _ _ hs.1 ⟨λ_=>hs.2,λhh=>(by cases hh)⟩) ?_
 refine zp (λg1=>no _ hle3 ?_) (λg1=>?_)
 . unfold mrg;rw[q1 (by simpa using g1)]
 have g1:=p1 (by simpa using g1)
 refine zp (λg2=>no _ hle3 ?_) (λg2=>?_)
 . unfold mrg;rw[g1,q2 (by simpa using g2)]
 have g2:=p2 (by simpa using g2)
 refine zp (λg3=>no _ hle3 ?_) (λg3=>?_)
 . unfold mrg;rw[g1,g2,q3 (by simpa using g3)]
 have g3:=p3 (by simpa using g3)
 have em:mrg A B C=if r1.1=r2.1\/r2.1=r3.1\/r1.1=r3.1 then none else some (r1.1,r2.1,r3.1):=by unfold mrg;rw[g1,g2,g3]
 refine Za (λg4=>no _ hle3 ?_) (λg4=>Za (λg5=>no _ hle3 ?_) (λg5=>Za (λg6=>no _ hle3 ?_) (λg6=>?_)))
 . rw[em,if_pos (.inl g4)]
 . rw[em,if_pos (.inr (.inl g5))]
 . rw[em,if_pos (.inr (.inr g6))]
 refine ze9 (ha.le hle3) hlA sA nA λh5 hl5=>zt rfl ?_
 have hle5:=Hp.le_trans hle3 hl5
 refine ze9 (hb.le hle5) hlB sB nB λh6 hl6=>zt rfl ?_
 have hle6:=Hp.le_trans hle5 hl6
 refine ze9 (hc.le hle6) hlC sC nC λh7 hl7=>zt rfl ⟨Hp.le_trans hle6 hl7,?_⟩
 rw[em,if_neg]
 rintro(hh | hh | hh)
 . exact g4 hh
 . exact g5 hh
 . exact g6 hh
def nnB(t:PTr):Prop:=(∀e∈t.bars,0<=e.1/\0<=e.2)/\t.bars.length<=4000
theorem zsk{t:PTr}(h:nnB t):(∀x∈z1i t.bars,0<=x)/\(z1i t.bars).length<=200000:=by
 refine⟨λx hx=>?_,?_⟩
 . obtain⟨e,he,hv⟩:=zat.1 hx
   have:=h.1 e he
   rcases hv with rfl | rfl
   . exact this.1
   . exact this.2
 . unfold z1i
   refine Nat.le_trans zf3 ?_
   rw[List.length_mergeSort,zam]
   have:=h.2
   omega
def z7o(p q r:PTr):Option (Int×Int×Int):=mrg (z1i p.bars) (z1i q.bars) (z1i r.bars)
theorem zhl{X Y Z:TTree}{p q r:PTr}{K:TTree×Bool->Hp->Prop}(hX:TR h X p)(hY:TR h Y q)(hZ:TR h Z r)(np:nnB p)(nq:nnB q)(nr:nnB r)
 (H:∀W h',h.le h'->(W.2=true->∃x y z,z7o p q r=some (x,y,z)/\TR h' W.1 (.node z x y p q r)/\W.1.a=z/\W.1.b=x/\W.1.c=y)->(W.2=false->z7o p q r=none)->K W h'):zc (F.z0f X Y Z) K h:=by
 refine zd (λW h'=>(W.2=true->∃x y z,z7o p q r=some (x,y,z)/\TR h' W.1 (.node z x y p q r)/\W.1.a=z/\W.1.b=x/\W.1.c=y)/\(W.2=false->z7o p q r=none)) (λK' hk=>?_) λr h' hl hr=>H r h' hl hr.1 hr.2
 unfold F.z0f
 refine z4g hX (by have:=np.2;omega) λa h1 hl1 ha=>?_
 refine z4g (hY.le hl1) (by have:=nq.2;omega) λb h2 hl2 hb=>?_
 have hle2:=Hp.le_trans hl1 hl2
 refine z4g (hZ.le hle2) (by have:=nr.2;omega) λc h3 hl3 hc=>?_
 have hle3:=Hp.le_trans hle2 hl3
 have n1:=zsk np
 have n2:=zsk nq
 have n3:=zsk nr
 refine zq1 (ha.le (Hp.le_trans hl2 hl3)) (hb.le hl3) hc n1.2 n2.2 n3.2 zd6 zd6 zd6 n1.1 n2.1 n3.1 λR h4 hl4 g1 g2=>?_
 have hle4:=Hp.le_trans hle3 hl4
 refine zbx 4 3 rfl λa5 h5 hl5 hr5=>hk _ _ (Hp.le_trans hle4 hl5) ⟨λhh=>?_,g2⟩
 have hle5:=Hp.le_trans hle4 hl5
 exact⟨_,_,_,g1 hh,.node _ _ _ _ X Y Z p q r hr5 rfl (Nat.le_refl _) (hX.le hle5) (hY.le hle5) (hZ.le hle5),rfl,rfl,rfl⟩
end
def rm3(i j k:Nat):Nat->List PTr->List PTr
 | _,[]=>[]
 | n,t :: ts=>if n=i\/n=j\/n=k then rm3 i j k (n+1) ts else t :: rm3 i j k (n+1) ts
theorem zp1{i j k:Nat}{t:PTr}:∀{n:Nat} {ts:List PTr},rm3 i j k n (ts++[t])=rm3 i j k n ts++(if n+ts.length=i\/n+ts.length=j\/n+ts.length=k then []else [t])
 | n,[]=>by
   show(if n=i\/n=j\/n=k then rm3 i j k (n+1) []else t :: rm3 i j k (n+1) [])=[]++_
   rw[List.nil_append];rfl
 | n,x :: ts=>by
   have ih:=zp1 (i:=i) (j:=j) (k:=k) (t:=t) (n:=n+1) (ts:=ts)
   show(if n=i\/n=j\/n=k then rm3 i j k (n+1) (ts++[t])else x :: rm3 i j k (n+1) (ts++[t]))=_
   rw[ih]
   have e:n+(x :: ts).length=n+1+ts.length:=by rw[List.length_cons];omega
   rw[e]
   show _=(if n=i\/n=j\/n=k then rm3 i j k (n+1) ts else x :: rm3 i j k (n+1) ts)++_
   split<;>rfl
theorem zic{i j k m:Nat}{ts:List PTr}(hm:m<ts.length):rm3 i j k 0 (ts.take (m+1))=rm3 i j k 0 (ts.take m)++(if m=i\/m=j\/m=k then []else [ts[m]]):=by
 rw[<-List.take_append_getElem hm,zp1,List.length_take,Nat.zero_add,Nat.min_eq_left (by omega)]
theorem zv1{i j k:Nat}{ts:List PTr}(g:PTr->Nat)(hij:i<j)(hjk:j<k)(hk:k<ts.length):∀m,m<=ts.length->((ts.take m).map g).sum=((rm3 i j k 0 (ts.take m)).map g).sum+((if i<m then g (ts[i]'(by omega))else 0)+(if j<m then g (ts[j]'(by omega))else 0)+(if k<m then g ts[k]else 0))
 | 0,_=>by simp[rm3]
 | m+1,hm=>by
   have hm':m<ts.length:=hm
   have ih:=zv1 g hij hjk hk m (by omega)
   rw[zic hm',<-List.take_append_getElem hm',List.map_append,List.sum_append,ih]
   simp only[List.map_cons,List.map_nil,List.sum_cons,List.sum_nil,Nat.add_zero,List.map_append,List.sum_append]
   by_cases h1:m=i
   . subst h1
     have q1:¬j<m:=by omega
     have q2:¬j<m+1:=by omega
     have q3:¬k<m:=by omega
     have q4:¬k<m+1:=by omega
     simp only[true_or,if_true,Nat.lt_irrefl,if_false,q1,q2,q3,q4,Nat.lt_succ_self,List.map_nil,List.sum_nil,Nat.add_zero]
   . by_cases h2:m=j
     . subst h2
       have q1:i<m:=by omega
       have q2:i<m+1:=by omega
       have q3:¬k<m:=by omega
       have q4:¬k<m+1:=by omega
       simp only[true_or,or_true,if_true,Nat.lt_irrefl,if_false,q1,q2,q3,q4,Nat.lt_succ_self,List.map_nil,List.sum_nil,Nat.add_zero]
       omega
     . by_cases h3:m=k
       . subst h3
         have q1:i<m:=by omega
         have q2:i<m+1:=by omega
         have q3:j<m:=by omega
         have q4:j<m+1:=by omega
         simp only[or_true,if_true,Nat.lt_irrefl,if_false,q1,q2,q3,q4,Nat.lt_succ_self,List.map_nil,List.sum_nil,Nat.add_zero]
         omega
       . rw[if_neg (by omega:¬(m=i\/m=j\/m=k))]
         have e1:(if i<m+1 then g (ts[i]'(by omega))else 0)=(if i<m then g (ts[i]'(by omega))else 0):=by
          by_cases hh:i<m
          . rw[if_pos hh,if_pos (by omega)]
          . rw[if_neg hh,if_neg (by omega)]
         have e2:(if j<m+1 then g (ts[j]'(by omega))else 0)=(if j<m then g (ts[j]'(by omega))else 0):=by
          by_cases hh:j<m
          . rw[if_pos hh,if_pos (by omega)]
          . rw[if_neg hh,if_neg (by omega)]
         have e3:(if k<m+1 then g ts[k]else 0)=(if k<m then g ts[k]else 0):=by
          by_cases hh:k<m
          . rw[if_pos hh,if_pos (by omega)]
          . rw[if_neg hh,if_neg (by omega)]
         rw[e1,e2,e3]
         simp;omega
theorem zme{i j k:Nat}{t:PTr}:∀{n:Nat} {ts:List PTr},t∈rm3 i j k n ts->t∈ts
 | _,[],h=>by simp[rm3]at h
 | n,x :: ts,h=>by
   unfold rm3 at h
   split at h
   . exact List.mem_cons_of_mem _ (zme h)
   . rcases List.mem_cons.1 h with rfl | h
     . exact List.mem_cons_self ..
     . exact List.mem_cons_of_mem _ (zme h)
def z6v(ts:List PTr)(i j k:Nat)(x y z:Int):List PTr:=.node z x y (ts.getD i (.leaf 0 0)) (ts.getD j (.leaf 0 0)) (ts.getD k (.leaf 0 0)) :: rm3 i j k 0 ts
theorem zbq{e:Int×Int}:∀{ts:List PTr},(ts.flatMap PTr.bars).count e=(ts.map λt=>t.bars.count e).sum
 | []=>rfl
 | t :: ts=>by rw[List.flatMap_cons,List.count_append,List.map_cons,List.sum_cons,zbq]
theorem z1y{ts:List PTr}{i:Nat}{d:PTr}(h:i<ts.length):ts.getD i d=ts[i]:=by rw[List.getD_eq_getElem?_getD,List.getElem?_eq_getElem h];rfl
theorem z8d{ts:List PTr}{i j k:Nat}{x y z:Int}(hij:i<j)(hjk:j<k)(hk:k<ts.length):((z6v ts i j k x y z).flatMap PTr.bars).Perm (ts.flatMap PTr.bars)/\(z6v ts i j k x y z).length+2=ts.length:=by
 have hall:=λg=>zv1 (i:=i) (j:=j) (k:=k) (ts:=ts) g hij hjk hk ts.length (Nat.le_refl _)
 simp only[List.take_length,if_pos (show i<ts.length by omega),if_pos (show j<ts.length by omega),if_pos hk]at hall
 refine⟨List.perm_iff_count.2 λe=>?_,?_⟩
 . rw[zbq,zbq,hall λt=>t.bars.count e]
   unfold z6v
   rw[List.map_cons,List.sum_cons]
   have:(PTr.bars (.node z x y (ts.getD i (.leaf 0 0)) (ts.getD j (.leaf 0 0)) (ts.getD k (.leaf 0 0)))).count e=ts[i].bars.count e+ts[j].bars.count e+ts[k].bars.count e:=by
    show(PTr.bars (ts.getD i (.leaf 0 0))++PTr.bars (ts.getD j (.leaf 0 0))++PTr.bars (ts.getD k (.leaf 0 0))).count e=_
    rw[List.count_append,List.count_append,z1y (show i<ts.length by omega),z1y (show j<ts.length by omega),z1y hk]
   rw[this];omega
 . have h1:=hall λ_=>1
   have hs:∀l:List PTr,(l.map λ_=>1).sum=l.length:=λl=>by
    induction l with
    | nil=>rfl
    | cons a l ih=>rw[List.map_cons,List.sum_cons,ih,List.length_cons];omega
   rw[hs,hs]at h1
   unfold z6v
   rw[List.length_cons];omega
structure First(ts:List PTr)(i j k:Nat)(x y z:Int):Prop where
 ij:i<j
 jk:j<k
 lt:k<ts.length
 can:z7o (ts.getD i (.leaf 0 0)) (ts.getD j (.leaf 0 0)) (ts.getD k (.leaf 0 0))=some (x,y,z)
 first:∀i' j' k',i'<j'->j'<k'->k'<ts.length->(i'<i\/i'=i/\(j'<j\/j'=j/\k'<k))->z7o (ts.getD i' (.leaf 0 0)) (ts.getD j' (.leaf 0 0)) (ts.getD k' (.leaf 0 0))=none
section
variable {h : Hp} {l : Sl} {ts : List PTr}
theorem zap{body:(Int×Unit)->((Int×Unit)->Hp->Prop)->Hp->Prop}{h0:Hp}{n m:Nat}{z:Int}(hz:z=m)(hn:n<=140737488355328)(I:Nat->Hp->Prop)(h:I m h0)
 (step:∀i h,m<=i->I i h->∀k,(∀h',i<n->I (i+1) h'->k (i64.wrap ((i:Int)+1),()) h')->body ((i:Int),()) k h):zr body (z,()) h0:=by
 refine y9 (λst h'=>∃i:Nat,st.1=(i:Int)/\m<=i/\I i h') (λst=>(n-st.1).toNat) ⟨m,hz,Nat.le_refl _,h⟩ ?_
 rintro⟨_,_⟩ h' ⟨i,rfl,hi,hI⟩
 refine step i h' hi hI _ λh2 hlt hI2=>⟨⟨i+1,?_,by omega,hI2⟩,?_⟩
 . simp only;rw[w64 (by omega)];rfl
 . simp only;rw[w64 (by omega)];omega
theorem zty{K:Sl×Bool->Hp->Prop}(hl:LR tc 4 TR h l ts)(hn:∀t∈ts,nnB t)(hlen:ts.length<=4000)
 (H1:∀r h' i j k x y z,h.le h'->First ts i j k x y z->LR tc 4 TR h' r (z6v ts i j k x y z)->K (r,true) h')
 (H0:∀h',h.le h'->(∀i j k,i<j->j<k->k<ts.length->z7o (ts.getD i (.leaf 0 0)) (ts.getD j (.leaf 0 0)) (ts.getD k (.leaf 0 0))=none)->K (l,false) h'):zc (F.z43 l) K h:=by
 refine zd (λr h'=>(r.2=true/\∃i j k x y z,First ts i j k x y z/\LR tc 4 TR h' r.1 (z6v ts i j k x y z))\/(r=(l,false)/\∀i j k,i<j->j<k->k<ts.length->z7o (ts.getD i (.leaf 0 0)) (ts.getD j (.leaf 0 0)) (ts.getD k (.leaf 0 0))=none)) (λK' hk=>?_) λr h' hl hr=>?_
 . unfold F.z43
   have hll:=hl.len Xo
   have nn:∀i (hi:i<ts.length),nnB ts[i]:=λi hi=>hn _ (List.getElem_mem hi)
   refine Yr (n:=ts.length) (by omega) (λi h'=>h.le h'/\∀i' j' k',i'<i->i'<j'->j'<k'->k'<ts.length->z7o (ts.getD i' (.leaf 0 0)) (ts.getD j' (.leaf 0 0)) (ts.getD k' (.leaf 0 0))=none) ⟨Hp.le_refl _,λi' j' k' hh=>by omega⟩ ?_
   rintro i h1 hi ⟨hl1,f1⟩ c1 hc1
   refine ze (λh2=>?_) (λh2=>?_)
   . have hi':i<ts.length:=by simp only at h2;omega
     refine zap (n:=ts.length) (m:=i+1) (by simp only;rw[w64 (by omega)];rfl) (by omega) (λj h'=>h.le h'/\∀j' k',j'<j->i<j'->j'<k'->k'<ts.length->z7o (ts.getD i (.leaf 0 0)) (ts.getD j' (.leaf 0 0)) (ts.getD k' (.leaf 0 0))=none) ⟨hl1,λj' k' hh=>by omega⟩ ?_
     rintro j h3 hj ⟨hl3,f3⟩ c3 hc3
     refine ze (λh4=>?_) (λh4=>?_)
     . have hj':j<ts.length:=by simp only at h4;omega
       refine zap (n:=ts.length) (m:=j+1) (by simp only;rw[w64 (by omega)];rfl) (by omega) (λk h'=>h.le h'/\∀k',k'<k->j<k'->k'<ts.length->z7o (ts.getD i (.leaf 0 0)) (ts.getD j (.leaf 0 0)) (ts.getD k' (.leaf 0 0))=none) ⟨hl3,λk' hh=>by omega⟩ ?_
       rintro k h5 hkj ⟨hl5,f5⟩ c5 hc5
       refine ze (λh6=>?_) (λh6=>?_)
       . have hk':k<ts.length:=by simp only at h6;omega
         have hl5':=hl.le Xo hl5
         refine hl5'.get Xo i rfl hi' λa7 X hX c7=>⟨_,c7 0 _ rfl,_,c7 1 _ rfl,_,c7 2 _ rfl,X.parts,c7 3 _ rfl,?_⟩
         refine hl5'.get Xo j rfl hj' λa9 Y hY c9=>⟨_,c9 0 _ rfl,_,c9 1 _ rfl,_,c9 2 _ rfl,Y.parts,c9 3 _ rfl,?_⟩
         refine hl5'.get Xo k rfl hk' λa11 Z hZ c11=>⟨_,c11 0 _ rfl,_,c11 1 _ rfl,_,c11 2 _ rfl,Z.parts,c11 3 _ rfl,?_⟩
         refine zhl (X:=X) (Y:=Y) (Z:=Z) hX hY hZ (nn i hi') (nn j hj') (nn k hk') λW h7 hl7 m1 m0=>?_
         have hle7:=Hp.le_trans hl5 hl7
         refine zp (λh8=>?_) (λh8=>?_)
         . have:=m0 (by simpa using h8)
           refine hc5 _ hk' ⟨hle7,λk' hk1 hk2 hk3=>?_⟩
           rcases Nat.lt_or_ge k' k with h9 | h9
           . exact f5 k' h9 hk2 hk3
           . have:k'=k:=by omega
             subst this
             rw[z1y hi',z1y hj',z1y hk'];assumption
         . obtain⟨x,y,z,e1,e2,_⟩:=m1 (by simpa using h8)
           have hF:First ts i j k x y z:=by
            refine⟨by omega,by omega,hk',by rw[z1y hi',z1y hj',z1y hk'];exact e1,λi' j' k' q1 q2 q3 q4=>?_⟩
            rcases q4 with q4 | ⟨rfl,q4 | ⟨rfl,q4⟩⟩
            . exact f1 i' j' k' q4 q1 q2 q3
            . exact f3 j' k' q4 q1 q2 q3
            . exact f5 k' q4 q2 q3
           refine z6w (n:=1) (size:=4) rfl λb8 h8' hb8 ho8=>?_
           have hnode:TR h7 W.1 (.node z x y (ts.getD i (.leaf 0 0)) (ts.getD j (.leaf 0 0)) (ts.getD k (.leaf 0 0))):=by
            rw[z1y hi',z1y hj',z1y hk'];exact e2
           have start:LO tc 4 TR h7 h8' ⟨some ⟨b8,0,none⟩,1,1⟩ [.node z x y (ts.getD i (.leaf 0 0)) (ts.getD j (.leaf 0 0)) (ts.getD k (.leaf 0 0))]:=by
            refine⟨[W.1],?_,rfl,λq q1 q2=>?_⟩
            . exact ho8
            . have:q=0:=by simp at q1;omega
              subst this
              exact hnode
           refine Yq (n:=ts.length) (by omega) (λm s h'=>LO tc 4 TR h7 h' s (.node z x y (ts.getD i (.leaf 0 0)) (ts.getD j (.leaf 0 0)) (ts.getD k (.leaf 0 0)) :: rm3 i j k 0 (ts.take m))) (by simpa [rm3] using start) ?_
           intro m s h9 hm hs c9' hc9
           refine ze (λh10=>?_) (λh10=>?_)
           . have hm':m<ts.length:=by simp only at h10;omega
             obtain⟨J,hJ⟩:∃J:Sl×Unit->Hp->Prop,∀s h',J s h'↔LO tc 4 TR h7 h' s.1 (.node z x y (ts.getD i (.leaf 0 0)) (ts.getD j (.leaf 0 0)) (ts.getD k (.leaf 0 0)) :: rm3 i j k 0 (ts.take (m+1))):=⟨_,λ_ _=>Iff.rfl⟩
             refine zk J (λs h' hs=>hc9 _ _ hm' ((hJ s h').1 hs)) ?_
             refine(hl.le Xo hle7).get2 Xo hs.dle m rfl hm' λa19 V hV c19=>⟨_,c19 0 _ rfl,_,c19 1 _ rfl,_,c19 2 _ rfl,V.parts,c19 3 _ rfl,?_⟩
             have same:(m=i\/m=j\/m=k)->J (s,()) h9:=λhh=>(hJ _ _).2 (by rw[zic hm',if_pos hh,List.append_nil];exact hs)
             refine yt (λg1=>yt (λg2=>yt (λg3=>?_) (λg3=>same (.inr (.inr (by simp only at g3;omega))))) (λg2=>same (.inr (.inl (by simp only at g2;omega))))) (λg1=>same (.inl (by simp only at g1;omega)))
             have hlr:=hs.len Xo
             have hrl:(rm3 i j k 0 (ts.take m)).length<=ts.length:=by
              have:∀(n:Nat) (us:List PTr),(rm3 i j k n us).length<=us.length:=λn us=>by
               induction us generalizing n with
               | nil=>exact Nat.le_refl _
               | cons u us ih=>
                 unfold rm3
                 split
                 . have:=ih (n+1);rw[List.length_cons];omega
                 . have:=ih (n+1);rw[List.length_cons,List.length_cons];omega
              have:=this 0 (ts.take m)
              rw[List.length_take]at this
              omega
             refine hs.app Xo (bytes:=48) (zero:=[.int .i64 0,.int .i64 0,.int .i64 0,.slice zf.a zf.len zf.cap]) (x:=V) (b:=ts[m]) rfl (by rw[List.length_cons];omega) (by rw[List.length_cons];omega) hV λw h11 hw=>(hJ _ _).2 ?_
             rw[zic hm',if_neg (by simp only at g1 g2 g3;omega)]
             exact hw
           . have hm':m=ts.length:=by simp only at h10;omega
             subst hm'
             rw[List.take_length]at hs
             exact hk _ _ (Hp.le_trans hle7 hs.dle) (.inl ⟨rfl,i,j,k,x,y,z,hF,hs.lr Xo⟩)
       . have:k>=ts.length:=by simp only at h6;omega
         refine hc3 _ hj' ⟨hl5,λj' k' q1 q2 q3 q4=>?_⟩
         rcases Nat.lt_or_ge j' j with h9 | h9
         . exact f3 j' k' h9 q2 q3 q4
         . have:j'=j:=by omega
           subst this
           exact f5 k' (by omega) q3 q4
     . have:j>=ts.length:=by simp only at h4;omega
       refine hc1 _ hi' ⟨hl3,λi' j' k' q1 q2 q3 q4=>?_⟩
       rcases Nat.lt_or_ge i' i with h9 | h9
       . exact f1 i' j' k' h9 q2 q3 q4
       . have:i'=i:=by omega
         subst this
         exact f3 j' k' (by omega) q2 q3 q4
   . have:i=ts.length:=by simp only at h2;omega
     subst this
     exact hk _ _ hl1 (.inr ⟨rfl,λi' j' k' q1 q2 q3=>f1 i' j' k' (by omega) q1 q2 q3⟩)
 . rcases hr with ⟨h1,i,j,k,x,y,z,h2,h3⟩ | ⟨rfl,h2⟩
   . obtain⟨r,b⟩:=r
     simp only at h1
     subst h1
     exact H1 r h' i j k x y z hl h2 h3
   . exact H0 h' hl h2
end
end Den
end

section
namespace Tq
def sm(n:Nat)(f:Nat->Rat):Rat:=match n with | 0=>0 | n+1=>sm n f+f n
theorem sm_zero{f:Nat->Rat}:sm 0 f=0:=rfl
theorem sm_succ{n:Nat}{f:Nat->Rat}:sm (n+1) f=sm n f+f n:=rfl
theorem sm_congr{n:Nat}{f g:Nat->Rat}(h:∀i,i<n->f i=g i):sm n f=sm n g:=by
 induction n with
 | zero=>rfl
 | succ n ih=>rw[sm_succ,sm_succ,ih (λi hi=>h i (by omega)),h n (by omega)]
theorem sm_add{n:Nat}{f g:Nat->Rat}:sm n (λi=>f i+g i)=sm n f+sm n g:=by
 induction n with
 | zero=>simp only[sm_zero];grind
 | succ n ih=>simp only[sm_succ,ih];grind
theorem sm_mul{n:Nat}{f:Nat->Rat}{c:Rat}:sm n (λi=>c*f i)=c*sm n f:=by
 induction n with
 | zero=>simp only[sm_zero];grind
 | succ n ih=>simp only[sm_succ,ih];grind
theorem sm_zeros{n:Nat}{f:Nat->Rat}(h:∀i,i<n->f i=0):sm n f=0:=by
 induction n with
 | zero=>rfl
 | succ n ih=>rw[sm_succ,ih (λi hi=>h i (by omega)),h n (by omega)];grind
theorem sm_one{n k:Nat}{f:Nat->Rat}(hk:k<n)(h:∀i,i<n->i≠k->f i=0):sm n f=f k:=by
 induction n with
 | zero=>omega
 | succ n ih=>
   rw[sm_succ]
   by_cases h1:k=n
   . subst h1
     rw[sm_zeros λi hi=>h i (by omega) (by omega)];grind
   . rw[ih (by omega) (λi hi h2=>h i (by omega) h2),h n (by omega) (by omega)];grind
theorem sm_two{n k l:Nat}{f:Nat->Rat}(hkl:k<l)(hl:l<n)(h:∀i,i<n->i≠k->i≠l->f i=0):sm n f=f k+f l:=by
 induction n with
 | zero=>omega
 | succ n ih=>
   rw[sm_succ]
   by_cases h1:l=n
   . subst h1
     rw[sm_one (k:=k) hkl λi hi h2=>h i (by omega) h2 (by omega)]
   . rw[ih (by omega) (λi hi h2 h3=>h i (by omega) h2 h3),h n (by omega) (by omega) (by omega)];grind
def Ker(M:Nat->Nat->Rat)(r n:Nat)(x:Nat->Rat):Prop:=∀i,i<r->sm n (λj=>M i j*x j)=0
def Indep(A:Nat->Nat->Rat)(r n:Nat):Prop:=∀x,Ker A r n x->∀j,j<n->x j=0
structure EI(A:Nat->Nat->Rat)(r n k:Nat)(M:Nat->Nat->Rat):Prop where
 ker:∀x,Ker M r n x->Ker A r n x
 unit:∀i,i<r->∀j,j<k->M i j=if i=j then 1 else 0
theorem EI.start{A:Nat->Nat->Rat}{r n:Nat}:EI A r n 0 A:=⟨λx h=>h,λi hi j hj=>by omega⟩
theorem EI.pivot{A M:Nat->Nat->Rat}{r n k:Nat}(h:EI A r n k M)(hA:Indep A r n)(hk:k<n):∃i,k<=i/\i<r/\M i k≠0:=by
 apply Classical.byContradiction
 intro hc
 have hz:∀i,k<=i->i<r->M i k=0:=λi h1 h2=>Classical.byContradiction λh3=>hc ⟨i,h1,h2,h3⟩
 have hx:Ker M r n (λj=>if j<k then-M j k else if j=k then 1 else 0):=λi hi=>by
  by_cases hik:i<k
  . rw[sm_two (k:=i) (l:=k) hik hk λj hj h1 h2=>by
     by_cases h3:j<k
     . rw[h.unit i hi j h3,if_neg (λhh=>h1 hh.symm)];grind
     . simp only[if_neg h3,if_neg h2];grind]
    rw[h.unit i hi i hik,if_pos rfl]
    simp only[if_pos hik,if_neg (Nat.lt_irrefl k),if_true]
    grind
  . rw[sm_one (k:=k) hk λj hj h1=>by
     by_cases h3:j<k
     . rw[h.unit i hi j h3,if_neg (by omega)];grind
     . simp only[if_neg h3,if_neg h1];grind]
    rw[hz i (by omega) hi];grind
 have:=hA _ (h.ker _ hx) k hk
 simp only[if_neg (Nat.lt_irrefl k),if_true]at this
 exact absurd this (by decide)
def swapM(M:Nat->Nat->Rat)(a b:Nat):Nat->Nat->Rat:=λi j=>if i=a then M b j else if i=b then M a j else M i j
def scaleM(M:Nat->Nat->Rat)(a:Nat)(p:Rat):Nat->Nat->Rat:=λi j=>if i=a then M a j/p else M i j
def elimM(M:Nat->Nat->Rat)(a k:Nat):Nat->Nat->Rat:=λi j=>if i=a then M a j else M i j-M i k*M a j
theorem EI.swap{A M:Nat->Nat->Rat}{r n k i:Nat}(h:EI A r n k M)(h1:k<=i)(h2:i<r):EI A r n k (swapM M k i):=by
 refine⟨λx hx=>h.ker x λj hj=>?_,λj hj l hl=>?_⟩
 . by_cases e1:j=k
   . have:=hx i h2
     by_cases e2:i=k
     . subst e1;subst e2;simpa [swapM] using this
     . simp only[swapM,if_neg e2,if_true]at this
       subst e1;exact this
   . by_cases e2:j=i
     . have:=hx k (by omega)
       simp only[swapM,if_true]at this
       subst e2;exact this
     . have:=hx j hj
       simpa only[swapM,if_neg e1,if_neg e2] using this
 . unfold swapM
   by_cases e1:j=k
   . subst e1
     rw[if_pos rfl,h.unit i h2 l hl,if_neg (by omega),if_neg (by omega)]
   . rw[if_neg e1]
     by_cases e2:j=i
     . subst e2
       rw[if_pos rfl,h.unit k (by omega) l hl,if_neg (by omega),if_neg (by omega)]
     . rw[if_neg e2];exact h.unit j hj l hl
theorem EI.scale{A M:Nat->Nat->Rat}{r n k:Nat}(h:EI A r n k M)(hk:k<r){p:Rat}(hp:p≠0):EI A r n k (scaleM M k p):=by
 refine⟨λx hx=>h.ker x λj hj=>?_,λj hj l hl=>?_⟩
 . by_cases e1:j=k
   . subst e1
     have:=hx j hj
     simp only[scaleM,if_true]at this
     have e:sm n (λl=>M j l*x l)=p*sm n (λl=>M j l/p*x l):=by
      rw[<-sm_mul]
      exact sm_congr λl _=>by grind
     rw[e,this];grind
   . have:=hx j hj
     simpa only[scaleM,if_neg e1] using this
 . unfold scaleM
   by_cases e1:j=k
   . subst e1
     rw[if_pos rfl,h.unit j hj l hl,if_neg (by omega)];grind
   . rw[if_neg e1];exact h.unit j hj l hl
theorem EI.elim{A M:Nat->Nat->Rat}{r n k:Nat}(h:EI A r n k M)(hk:k<r)(hp:M k k=1):EI A r n (k+1) (elimM M k k):=by
 refine⟨λx hx=>h.ker x λj hj=>?_,λj hj l hl=>?_⟩
 . by_cases e1:j=k
   . have:=hx j hj
     subst e1
     simpa only[elimM,if_true] using this
   . have h1:=hx j hj
     have h2:=hx k hk
     simp only[elimM,if_neg e1,if_true]at h1 h2
     have e:sm n (λl=>M j l*x l)=sm n (λl=>(M j l-M j k*M k l)*x l)+M j k*sm n (λl=>M k l*x l):=by
      rw[<-sm_mul,<-sm_add]
      exact sm_congr λl _=>by grind
     rw[e,h1,h2];grind
 . unfold elimM
   by_cases e1:j=k
   . subst e1
     rw[if_pos rfl]
     by_cases e2:l=j
     . subst e2;rw[if_pos rfl];exact hp
     . rw[h.unit j hj l (by omega)]
   . rw[if_neg e1]
     by_cases e2:l=k
     . subst e2;rw[hp,if_neg e1];grind
     . rw[h.unit j hj l (by omega),h.unit k hk l (by omega),if_neg (show ¬k=l by omega)];grind
theorem EI.step{A M:Nat->Nat->Rat}{r n k i:Nat}(h:EI A r n k M)(h1:k<=i)(h2:i<r)(h3:M i k≠0):EI A r n (k+1) (elimM (scaleM (swapM M k i) k (M i k)) k k):=by
 refine((h.swap h1 h2).scale (by omega) h3).elim (by omega) ?_
 simp only[scaleM,swapM,if_true]
 grind
def ls(l:List Rat):Rat:=l.foldr (·+·) 0
theorem ls_nil:ls []=0:=rfl
theorem ls_cons{a:Rat}{l:List Rat}:ls (a :: l)=a+ls l:=rfl
theorem ls_append{l m:List Rat}:ls (l++m)=ls l+ls m:=by
 induction l with
 | nil=>rw[List.nil_append,ls_nil];grind
 | cons a l ih=>rw[List.cons_append,ls_cons,ls_cons,ih];grind
theorem ls_perm{l m:List Rat}(h:l.Perm m):ls l=ls m:=by
 induction h with
 | nil=>rfl
 | cons a _ ih=>rw[ls_cons,ls_cons,ih]
 | swap a b l=>rw[ls_cons,ls_cons,ls_cons,ls_cons];grind
 | trans _ _ h1 h2=>rw[h1,h2]
theorem ls_zeros{α:Type}{l:List α}{f:α->Rat}(h:∀a∈l,f a=0):ls (l.map f)=0:=by
 induction l with
 | nil=>rfl
 | cons a l ih=>rw[List.map_cons,ls_cons,h a (List.mem_cons_self ..),ih λb hb=>h b (List.mem_cons_of_mem _ hb)];grind
theorem ls_sm{l:List Rat}:ls l=sm l.length (λi=>l.getD i 0):=by
 have H:∀l:List Rat,ls l.reverse=sm l.reverse.length (λi=>l.reverse.getD i 0):=by
  intro l
  induction l with
  | nil=>rfl
  | cons a l ih=>
    rw[List.reverse_cons,ls_append,List.length_append,List.length_singleton,sm_succ,ih,ls_cons,ls_nil]
    rw[sm_congr (f:=λi=>(l.reverse++[a]).getD i 0) (g:=λi=>l.reverse.getD i 0) λi hi=>by
     rw[List.getD_eq_getElem?_getD,List.getD_eq_getElem?_getD,List.getElem?_append_left hi]]
    have:(l.reverse++[a]).getD l.reverse.length 0=a:=by
     rw[List.getD_eq_getElem?_getD,List.getElem?_append_right (Nat.le_refl _)];simp
    rw[this];grind
 have:=H l.reverse
 rwa [List.reverse_reverse]at this
def coef(X:Int->Rat)(e:Int×Int)(v:Int):Rat:=if v=e.1 then X e.1-X e.2 else if v=e.2 then X e.2-X e.1 else 0
def Free(E:List (Int×Int))(X Y:Int->Rat):Prop:=
 ∀ω:Int×Int->Rat,(∀v,ls (E.map λe=>ω e*coef X e v)=0)->(∀v,ls (E.map λe=>ω e*coef Y e v)=0)->∀e∈E,ω e=0
theorem Free.perm{E F:List (Int×Int)}{X Y:Int->Rat}(h:Free E X Y)(hp:E.Perm F):Free F X Y:=λω h1 h2 e he=>
 h ω (λv=>by rw[ls_perm (hp.map _)];exact h1 v) (λv=>by rw[ls_perm (hp.map _)];exact h2 v) e (hp.mem_iff.2 he)
theorem Free.bar{X Y:Int->Rat}{a b:Int}(h:X a≠X b\/Y a≠Y b):Free [(a,b)] X Y:=λω h1 h2 e he=>by
 rw[List.mem_singleton.1 he]
 have e1:=h1 a
 have e2:=h2 a
 simp only[List.map_cons,List.map_nil,ls_cons,ls_nil,coef,if_true]at e1 e2
 rcases h with h | h
 . have h3:X a-X b≠0:=λhh=>h (by grind)
   have h4:ω (a,b)*(X a-X b)=0:=by grind
   rcases Rat.mul_eq_zero.1 h4 with h5 | h5
   . exact h5
   . exact absurd h5 h3
 . have h3:Y a-Y b≠0:=λhh=>h (by grind)
   have h4:ω (a,b)*(Y a-Y b)=0:=by grind
   rcases Rat.mul_eq_zero.1 h4 with h5 | h5
   . exact h5
   . exact absurd h5 h3
theorem Free.add{E:List (Int×Int)}{X Y:Int->Rat}{a b n:Int}(h:Free E X Y)(hE:∀e∈E,e.1≠n/\e.2≠n)(han:a≠n)(hbn:b≠n)
 (hc:(X b-X a)*(Y n-Y a)-(Y b-Y a)*(X n-X a)≠0):Free (E++[(a,n),(b,n)]) X Y:=λω h1 h2=>by
 have z:∀Z:Int->Rat,ls (E.map λe=>ω e*coef Z e n)=0:=λZ=>ls_zeros λe he=>by
  unfold coef
  rw[if_neg (λhh=>(hE e he).1 hh.symm),if_neg (λhh=>(hE e he).2 hh.symm)];grind
 have e1:=h1 n
 have e2:=h2 n
 rw[List.map_append,ls_append,z]at e1 e2
 simp only[List.map_cons,List.map_nil,ls_cons,ls_nil,coef,if_neg (λhh:n=a=>han hh.symm),if_neg (λhh:n=b=>hbn hh.symm),if_true]at e1 e2
 have k1:ω (a,n)*((X b-X a)*(Y n-Y a)-(Y b-Y a)*(X n-X a))=0:=by grind
 have k2:ω (b,n)*((X b-X a)*(Y n-Y a)-(Y b-Y a)*(X n-X a))=0:=by grind
 have wa:ω (a,n)=0:=(Rat.mul_eq_zero.1 k1).resolve_right hc
 have wb:ω (b,n)=0:=(Rat.mul_eq_zero.1 k2).resolve_right hc
 have r:∀(Z:Int->Rat) v,ls ((E++[(a,n),(b,n)]).map λe=>ω e*coef Z e v)=0->ls (E.map λe=>ω e*coef Z e v)=0:=λZ v hv=>by
  rw[List.map_append,ls_append]at hv
  simp only[List.map_cons,List.map_nil,ls_cons,ls_nil,wa,wb]at hv
  grind
 intro e he
 rcases List.mem_append.1 he with he | he
 . exact h ω (λv=>r X v (h1 v)) (λv=>r Y v (h2 v)) e he
 . simp only[List.mem_cons,List.not_mem_nil,or_false]at he
   rcases he with rfl | rfl
   . exact wa
   . exact wb
def frameM(E:List (Int×Int))(X Y:Int->Rat):Nat->Nat->Rat:=λi j=>
 if i % 2=0 then coef X (E.getD j (0,0)) ((i/2:Nat):Int)else coef Y (E.getD j (0,0)) ((i/2:Nat):Int)
theorem Free.indep{E:List (Int×Int)}{X Y:Int->Rat}{n:Nat}(h:Free E X Y)(hn:E.Nodup)(hE:∀e∈E,0<=e.1/\e.1<n/\0<=e.2/\e.2<n):Indep (frameM E X Y) (2*n) E.length:=λx hx j hj=>by
 have key:∀(Z:Int->Rat) v,(∀c,(∀i,frameM E X Y (2*i+c)=λj=>coef Z (E.getD j (0,0)) (i:Int))->c<2->ls (E.map λe=>x (E.idxOf e)*coef Z e v)=0):=by
  intro Z v c hc hc2
  by_cases hv:0<=v/\v<n
  . have h1:=hx (2*v.toNat+c) (by omega)
    rw[hc v.toNat]at h1
    rw[ls_sm,List.length_map]
    refine Eq.trans (sm_congr λi hi=>?_) h1
    show _=coef Z (E.getD i (0,0)) ((v.toNat:Nat):Int)*x i
    have e1:E.getD i (0,0)=E[i]:=by rw[List.getD_eq_getElem?_getD,List.getElem?_eq_getElem hi];rfl
    have e2:E.idxOf E[i]=i:=List.Nodup.idxOf_getElem hn i hi
    have e3:((v.toNat:Nat):Int)=v:=by omega
    rw[List.getD_eq_getElem?_getD,List.getElem?_map,List.getElem?_eq_getElem hi,e1,e3]
    simp only[Option.map_some,Option.getD_some,e2]
    grind
  . refine ls_zeros λe he=>?_
    have:=hE e he
    unfold coef
    rw[if_neg (by omega),if_neg (by omega)];grind
 have:=h (λe=>x (E.idxOf e)) (λv=>key X v 0 (λi=>by funext j;unfold frameM;rw[if_pos (by omega)];congr 2;omega) (by omega))
  (λv=>key Y v 1 (λi=>by funext j;unfold frameM;rw[if_neg (by omega)];congr 2;omega) (by omega)) E[j] (List.getElem_mem hj)
 simpa only[List.Nodup.idxOf_getElem hn j hj] using this
end Tq
end

section
namespace Tq
theorem Free.congr{E:List (Int×Int)}{X Y X' Y':Int->Rat}(h:Free E X Y)(hx:∀e∈E,X e.1=X' e.1/\X e.2=X' e.2)(hy:∀e∈E,Y e.1=Y' e.1/\Y e.2=Y' e.2):Free E X' Y':=λω h1 h2=>by
 have key:∀(Z Z':Int->Rat),(∀e∈E,Z e.1=Z' e.1/\Z e.2=Z' e.2)->∀v,(E.map λe=>ω e*coef Z e v)=E.map λe=>ω e*coef Z' e v:=λZ Z' hz v=>by
  refine List.map_congr_left λe he=>?_
  have:=hz e he
  unfold coef
  rw[this.1,this.2]
 exact h ω (λv=>by rw[key X X' hx v];exact h1 v) (λv=>by rw[key Y Y' hy v];exact h2 v)
end Tq
namespace Den
def z9r(at_:List (Int×Int))(v:Int):Rat:=(((at_.getD v.toNat (0,0)).1:Int):Rat)
def zb3(at_:List (Int×Int))(v:Int):Rat:=(((at_.getD v.toNat (0,0)).2:Int):Rat)
theorem zas{at_:List (Int×Int)}{x:Int×Int}{v:Int}(h:v.toNat<at_.length):z9r (at_++[x]) v=z9r at_ v/\zb3 (at_++[x]) v=zb3 at_ v:=by
 unfold z9r zb3
 have e:(at_++[x]).getD v.toNat (0,0)=at_.getD v.toNat (0,0):=by
  rw[List.getD_eq_getElem?_getD,List.getD_eq_getElem?_getD,List.getElem?_append_left h]
 rw[e];exact⟨rfl,rfl⟩
theorem Z92{at_:List (Int×Int)}{x:Int×Int}:z9r (at_++[x]) (at_.length:Int)=((x.1:Int):Rat)/\zb3 (at_++[x]) (at_.length:Int)=((x.2:Int):Rat):=by
 unfold z9r zb3
 have e:(at_++[x]).getD ((at_.length:Int)).toNat (0,0)=x:=by
  rw[List.getD_eq_getElem?_getD]
  simp
 rw[e];exact⟨rfl,rfl⟩
theorem GV.nodup{n:Int}{es:List (Int×Int)}(h:GV n es):es.Nodup:=by
 refine List.pairwise_iff_getElem.2 λi j hi hj hij hh=>?_
 have:=h.lt j i hj hij
 rw[hh]at this
 unfold z1w at this
 omega
structure HI(n:Nat)(es:List (Int×Int))(at_:List (Int×Int)):Prop where
 n2:2<=n
 gv:GV n es
 len:es.length+3=2*n
 sp:Qk n es
 free:Tq.Free es (z9r at_) (zb3 at_)
 alen:at_.length=n
theorem HI.step{n:Nat}{es es' at_:List (Int×Int)}{a b:Nat}{x:Int×Int}(h:HI n es at_)(ha:a<n)(hb:b<n)(hab:a≠b)(hp:es'.Perm (es++[((a:Int),(n:Int)),((b:Int),(n:Int))]))(hg:GV ((n+1:Nat):Int) es')
 (hc:((at_.getD b (0,0)).1-(at_.getD a (0,0)).1)*(x.2-(at_.getD a (0,0)).2)-((at_.getD b (0,0)).2-(at_.getD a (0,0)).2)*(x.1-(at_.getD a (0,0)).1)≠0):HI (n+1) es' (at_++[x]):=by
 have hr:=h.gv.2.1
 have hal:=h.alen
 have hold:∀e∈es,e.1.toNat<at_.length/\e.2.toNat<at_.length:=λe he=>by have:=hr e he;omega
 have f1:Tq.Free es (z9r (at_++[x])) (zb3 (at_++[x])):=h.free.congr
  (λe he=>⟨(zas (hold e he).1).1.symm,(zas (hold e he).2).1.symm⟩) (λe he=>⟨(zas (hold e he).1).2.symm,(zas (hold e he).2).2.symm⟩)
 have oa:=zas (at_:=at_) (x:=x) (v:=(a:Int)) (by show a<_;omega)
 have ob:=zas (at_:=at_) (x:=x) (v:=(b:Int)) (by show b<_;omega)
 have on:=Z92 (at_:=at_) (x:=x)
 rw[hal]at on
 have f2:Tq.Free (es++[((a:Int),(n:Int)),((b:Int),(n:Int))]) (z9r (at_++[x])) (zb3 (at_++[x])):=by
  refine f1.add (λe he=>by have:=hr e he;omega) (by omega) (by omega) ?_
  rw[oa.1,oa.2,ob.1,ob.2,on.1,on.2]
  intro hh
  refine hc ?_
  have e1:z9r at_ (a:Int)=(((at_.getD a (0,0)).1:Int):Rat):=rfl
  have e2:zb3 at_ (a:Int)=(((at_.getD a (0,0)).2:Int):Rat):=rfl
  have e3:z9r at_ (b:Int)=(((at_.getD b (0,0)).1:Int):Rat):=rfl
  have e4:zb3 at_ (b:Int)=(((at_.getD b (0,0)).2:Int):Rat):=rfl
  rw[e1,e2,e3,e4,<-Rat.intCast_sub,<-Rat.intCast_sub,<-Rat.intCast_sub,<-Rat.intCast_sub,<-Rat.intCast_mul,<-Rat.intCast_mul,<-Rat.intCast_sub]at hh
  exact Rat.intCast_inj.1 (hh.trans (by rfl))
 refine⟨by have:=h.n2;omega,hg,?_,?_,f2.perm hp.symm,by rw[List.length_append,List.length_singleton,hal]⟩
 . rw[hp.length_eq,List.length_append]
   have:=h.len
   simp only[List.length_cons,List.length_nil]
   omega
 . refine(Qk.add h.sp hr ⟨by omega,by omega⟩ ⟨by omega,by omega⟩ (by omega)).perm hp.symm
theorem HI.indep{n:Nat}{es at_:List (Int×Int)}(h:HI n es at_):Tq.Indep (Tq.frameM es (z9r at_) (zb3 at_)) (2*n) es.length:=
 h.free.indep h.gv.nodup λe he=>by have:=h.gv.2.1 e he;omega
end Den
end

section
namespace Den
open Go Iv Lx
inductive Reach:List PTr->List PTr->Prop
 | refl (ts:List PTr):Reach ts ts
 | step {ts us:List PTr} (i j k:Nat) (x y z:Int):Reach ts us->First us i j k x y z->Reach ts (z6v us i j k x y z)
def lfE(e:Int×Int):PTr:=.leaf e.1 e.2
theorem zog:∀(es:List (Int×Int)),(es.map lfE).flatMap PTr.bars=es
 | []=>rfl
 | e :: es=>by
   rw[List.map_cons,List.flatMap_cons,zog es];rfl
theorem Reach.keep{es:List (Int×Int)}{ts:List PTr}(h:Reach (es.map lfE) ts):(∀t∈ts,t.right)/\(ts.flatMap PTr.bars).Perm es:=by
 generalize hs:es.map lfE=s at h
 induction h with
 | refl=>
   subst hs
   refine⟨λt ht=>?_,by rw[zog]⟩
   obtain⟨e,_,rfl⟩:=List.mem_map.1 ht
   exact trivial
 | step i j k x y z _ hF ih=>
   obtain⟨h1,h2⟩:=ih
   refine⟨λt ht=>?_,(z8d hF.ij hF.jk hF.lt).1.trans h2⟩
   unfold z6v at ht
   have hij:=hF.ij
   have hjk:=hF.jk
   have hlt:=hF.lt
   rcases List.mem_cons.1 ht with rfl | ht
   . refine⟨?_,?_,?_,hF.can⟩
     . rw[z1y (by omega)];exact h1 _ (List.getElem_mem _)
     . rw[z1y (by omega)];exact h1 _ (List.getElem_mem _)
     . rw[z1y (by omega)];exact h1 _ (List.getElem_mem _)
   . exact h1 t (zme ht)
theorem Z49{ts:List PTr}{t:PTr}(h:t∈ts):t.bars.length<=(ts.flatMap PTr.bars).length/\∀e∈t.bars,e∈ts.flatMap PTr.bars:=by
 refine⟨?_,λe he=>List.mem_flatMap.2 ⟨t,h,he⟩⟩
 induction ts with
 | nil=>cases h
 | cons a ts ih=>
   rw[List.flatMap_cons,List.length_append]
   rcases List.mem_cons.1 h with rfl | h
   . omega
   . have:=ih h;omega
theorem Reach.nn{n:Int}{es:List (Int×Int)}{ts:List PTr}(h:Reach (es.map lfE) ts)(hv:GV n es):∀t∈ts,nnB t:=λt ht=>by
 have h2:=h.keep.2
 have h3:=Z49 ht
 have hc:=hv.cap
 refine⟨λe he=>?_,?_⟩
 . have:=hv.2.1 e (h2.mem_iff.1 (h3.2 e he));omega
 . have:=h2.length_eq;omega
theorem Reach.len{es:List (Int×Int)}{ts:List PTr}(h:Reach (es.map lfE) ts):ts.length<=es.length:=by
 generalize hs:es.map lfE=s at h
 induction h with
 | refl=>subst hs;simp
 | step i j k x y z _ hF ih=>
   have:=ih
   have:=(z8d (x:=x) (y:=y) (z:=z) hF.ij hF.jk hF.lt).2
   omega
def Z8t(ts:List PTr):Prop:=∀i j k,i<j->j<k->k<ts.length->z7o (ts.getD i (.leaf 0 0)) (ts.getD j (.leaf 0 0)) (ts.getD k (.leaf 0 0))=none
section
variable {h : Hp} {G : TGraph} {es : List (Int × Int)} {Kb : Bool → Hp → Prop}
theorem zgh{K:TTree×Int->Hp->Prop}(hl:LR a2c 2 A2P h G.edges es)(hv:GV G.n es)(h12:G.n<=12)
 (H1:∀X h' t,h.le h'->TR h' X t->Reach (es.map lfE) [t]->((z1i t.bars).length:Int)=G.n->K (X,0) h')
 (H0:∀X e h' ts,h.le h'->e≠0->Reach (es.map lfE) ts->Z8t ts->(∀t,ts=[t]->((z1i t.bars).length:Int)≠G.n)->K (X,e) h'):zc (F.z0d G) K h:=by
 refine zd (λr h'=>(r.2=0/\∃t,TR h' r.1 t/\Reach (es.map lfE) [t]/\((z1i t.bars).length:Int)=G.n)\/(r.2≠0/\∃ts,Reach (es.map lfE) ts/\Z8t ts/\∀t,ts=[t]->((z1i t.bars).length:Int)≠G.n)) (λK' hk=>?_) λr h' hl hr=>?_
 . unfold F.z0d
   have hcap:=hv.cap
   have hll:=hl.len Zy
   refine Vd hl (by omega) λb h1 hl1 hb=>?_
   rw[hb.2 hv]
   refine zt rfl (ze (λhh=>by omega) (λ_=>?_))
   refine Yq (n:=es.length) (by omega) (λi s h'=>LO tc 4 TR h1 h' s ((es.take i).map lfE)) (by simpa using LO.nil) ?_
   intro i s h2 hi hs k hk2
   refine ze (λh3=>?_) (λh3=>?_)
   . have hi':i<es.length:=by simp only at h3;omega
     refine(hl.le Zy (Hp.le_trans hl1 hs.dle)).get Zy i rfl hi' λa4 x hx hc=>⟨_,hc 0 _ rfl,_,hc 1 _ rfl,?_⟩
     obtain⟨x1,x2⟩:=hx
     rw[x1,x2]
     refine hs.app Xo (bytes:=48) (zero:=[.int .i64 0,.int .i64 0,.int .i64 0,.slice zf.a zf.len zf.cap]) (x:=⟨es[i].1,es[i].2,0,zf⟩) (b:=lfE es[i]) rfl (by rw[List.length_map,List.length_take];omega) (by rw[List.length_map,List.length_take];omega) (.leaf _ _ _ rfl) λw h4 hw=>hk2 _ _ hi' ?_
     rw[<-List.take_append_getElem hi',List.map_append];exact hw
   . have hi':i=es.length:=by simp only at h3;omega
     subst hi'
     rw[List.take_length]at hs
     have hlr:=hs.lr Xo
     have hle2:=Hp.le_trans hl1 hs.dle
     refine zcw (λm st h'=>h.le h'/\∃ts,LR tc 4 TR h' st.1 ts/\Reach (es.map lfE) ts/\(st.2.1=false->Z8t ts)/\m=2*ts.length+(if st.2.1=true then 1 else 0)) ⟨hle2,es.map lfE,hlr,.refl _,λhh=>(by cases hh),rfl⟩ ?_
     rintro m ⟨l,more,_⟩ h4 ⟨hl4,ts,hts,hR,hno,rfl⟩ K8 hK8
     have hnn:=hR.nn hv
     have htl:=hR.len
     simp only at hts hno
     refine zp (λh5=>?_) (λh5=>?_)
     . refine zty hts hnn (by omega) (λr h6 i j k x y z hl6 hF hr=>?_) (λh6 hl6 hn6=>?_)
       . have:=(z8d (x:=x) (y:=y) (z:=z) hF.ij hF.jk hF.lt).2
         refine hK8 _ _ _ ?_ ⟨Hp.le_trans hl4 hl6,_,hr,.step i j k x y z hR hF,λhh=>(by cases hh),rfl⟩
         simp only;split<;>omega
       . refine hK8 _ _ _ ?_ ⟨Hp.le_trans hl4 hl6,ts,hts.le Xo hl6,hR,λ_=>hn6,rfl⟩
         simp only at h5
         simp only[h5];simp
     . simp only at h5
       have hn4:=hno h5
       have htsl:=hts.len Xo
       refine zk (λ_ h'=>h.le h'/\LR tc 4 TR h' l ts/\∃t,ts=[t]/\((z1i t.bars).length:Int)=G.n) ?_ ?_
       . rintro _ h6 ⟨hl6,hts6,t,rfl,ht⟩
         refine hts6.get Xo 0 rfl (by simp) λa12 X hX c12=>⟨_,c12 0 _ rfl,_,c12 1 _ rfl,_,c12 2 _ rfl,X.parts,c12 3 _ rfl,?_⟩
         exact hk _ _ hl6 (.inl ⟨rfl,t,hX,hR,ht⟩)
       . refine yt (λh6=>hk _ _ hl4 (.inr ⟨by decide,ts,hR,hn4,λt ht=>?_⟩)) (λh6=>?_)
         . rw[ht]at htsl
           exact absurd (by simp only;rw[htsl];rfl) h6
         . obtain⟨t,rfl⟩:=znl (l:=ts) (by simp only at h6;omega)
           refine hts.get Xo 0 rfl (by simp) λa14 X hX c14=>⟨_,c14 0 _ rfl,_,c14 1 _ rfl,_,c14 2 _ rfl,X.parts,c14 3 _ rfl,?_⟩
           have hnt:=hnn t (List.mem_cons_self ..)
           have hX:TR h4 X t:=hX
           refine z4g (x:=X) hX (by have:=hnt.2;omega) λy h7 hl7 hy=>?_
           have hyl:=hy.len
           refine yt (λh8=>hk _ _ (Hp.le_trans hl4 hl7) (.inr ⟨by decide,[t],hR,hn4,λt' ht'=>?_⟩)) (λh8=>⟨Hp.le_trans hl4 hl7,hts.le Xo hl7,t,rfl,by rw[<-hyl];exact h8⟩)
           cases ht'
           rw[<-hyl];exact h8
 . obtain⟨X,e⟩:=r
   rcases hr with ⟨h1,t,h2,h3,h4⟩ | ⟨h1,ts,h2,h3,h4⟩
   . simp only at h1
     subst h1
     exact H1 X h' t hl h2 h3 h4
   . exact H0 X e h' ts hl h1 h2 h3 h4
theorem znw{a b:Sl}(ha:EL h a es)(hb:EL h b es)(hlen:es.length<=1000000)(H:∀h',h.le h'->Kb true h'):zc (F.Q7 a b) Kb h:=by
 refine zd (λr h'=>r=true) (λK' hk=>?_) λr h' hl hr=>by subst hr;exact H h' hl
 unfold F.Q7
 have hal:=ha.len
 have hbl:=hb.len
 refine yt (λh1=>absurd (by rw[hal,hbl]) h1) (λ_=>?_)
 refine Yr (n:=es.length) (by omega) (λi h'=>h'=h) rfl ?_
 rintro i h1 hi hh k hk2
 rw[hh]
 refine ze (λh2=>?_) (λh2=>hk _ _ (Hp.le_refl _) rfl)
 have hi':i<es.length:=by simp only at h2;omega
 refine ha.lr.get Zy i rfl hi' λa5 x hx hc=>⟨_,hc 0 _ rfl,_,hc 1 _ rfl,?_⟩
 refine hb.lr.get Zy i rfl hi' λa7 y hy hc7=>⟨_,hc7 0 _ rfl,_,hc7 1 _ rfl,?_⟩
 refine zt ?_ (hk2 _ hi' (by trivial))
 rw[hx.1,hx.2,hy.1,hy.2]
 simp
theorem zl2{a b:Int×Int}:z56 a b<0↔z1w a b:=by
 unfold z56 z1w
 constructor
 . intro hh
   by_cases h1:a.1<b.1
   . exact .inl h1
   . rw[if_neg h1]at hh
     by_cases h2:b.1<a.1
     . rw[if_pos h2]at hh;omega
     . rw[if_neg h2]at hh
       by_cases h3:a.2<b.2
       . exact .inr ⟨by omega,h3⟩
       . rw[if_neg h3]at hh
         split at hh<;>omega
 . rintro(h1 | ⟨h1,h2⟩)
   . rw[if_pos h1];decide
   . rw[if_neg (by omega),if_neg (by omega),if_pos h2];decide
theorem GV.pair{n:Int}(hv:GV n es):es.Pairwise z1w:=List.pairwise_iff_getElem.2 λi j hi hj hij=>hv.lt j i hj hij
theorem Z9g{n:Int}{xs:List (Int×Int)}(hp:xs.Perm es)(hv:GV n es):zij xs=es:=by
 have hp2:(zij xs).Perm xs:=List.mergeSort_perm _ _
 have hnd:(zij xs).Nodup:=(hp2.trans hp).nodup_iff.2 hv.nodup
 have hs:=List.pairwise_mergeSort (le:=λx y:Int×Int=>!(decide (z56 y x<0))) (λa b c h1 h2=>by
  simp only[Bool.not_eq_true',decide_eq_false_iff_not,zl2]at h1 h2 |-
  unfold z1w at *
  omega) (λa b=>by
  simp only[Bool.or_eq_true,Bool.not_eq_true',decide_eq_false_iff_not,zl2]
  unfold z1w
  omega) xs
 have hst:(zij xs).Pairwise z1w:=by
  have hs2:(zij xs).Pairwise λa b=>(!(decide (z56 b a<0)))=true:=hs
  refine List.Pairwise.imp₂ (λa b h1 h2=>?_) hs2 hnd
  simp only[Bool.not_eq_true',decide_eq_false_iff_not,zl2]at h1
  unfold z1w at *
  rcases Int.lt_trichotomy a.1 b.1 with h3 | h3 | h3
  . exact .inl h3
  . rcases Int.lt_trichotomy a.2 b.2 with h4 | h4 | h4
    . exact .inr ⟨h3,h4⟩
    . exact absurd (Prod.ext h3 h4) h2
    . exact absurd (.inr ⟨h3.symm,h4⟩) h1
  . exact absurd (.inl h3) h1
 refine zku (R:=z1w) (λa hh=>?_) (λa b h1 h2=>?_) hst hv.pair λv=>(hp2.trans hp).mem_iff
 . unfold z1w at hh;omega
 . unfold z1w at h1 h2;omega
theorem nnB.sub{a b c:Int}{p q r:PTr}(h:nnB (.node a b c p q r)):nnB p/\nnB q/\nnB r:=by
 obtain⟨h1,h2⟩:=h
 have e:PTr.bars (.node a b c p q r)=p.bars++q.bars++r.bars:=rfl
 rw[e]at h1 h2
 rw[List.length_append,List.length_append]at h2
 exact⟨⟨λe he=>h1 e (by simp[he]),by omega⟩,⟨λe he=>h1 e (by simp[he]),by omega⟩,⟨λe he=>h1 e (by simp[he]),by omega⟩⟩
theorem zxb:∀(fuel:Nat) {h:Hp} {x:TTree} {t:PTr} {K:Bool->Hp->Prop},TR h x t->t.dep<=fuel->t.right->nnB t->(∀h',h.le h'->K true h')->F.Qt fuel x K h:=by
 intro fuel
 induction fuel with
 | zero=>intro h x t K _ hd _ _ _;cases t<;>unfold PTr.dep at hd<;>omega
 | succ fuel ih=>
   intro h x t K hx hd hr hn H
   unfold F.Qt
   cases hx with
   | leaf a b s h0=>exact Za (λ_=>H _ (Hp.le_refl _)) (λh1=>by simp only at h1;omega)
   | node a b c s X Y Z p q r h1 h2 h3 hX hY hZ=>
     have hp:=(TR.parts (.node a b c s X Y Z p q r h1 h2 h3 hX hY hZ)).1
     obtain⟨r1,r2,r3,r4⟩:=hr
     obtain⟨n1,n2,n3⟩:=hn.sub
     have hd':p.dep<=fuel/\q.dep<=fuel/\r.dep<=fuel:=by unfold PTr.dep at hd;omega
     have hall:∀t∈[p,q,r],t.dep<=fuel/\t.right/\nnB t:=λt ht=>by
      simp only[List.mem_cons,List.not_mem_nil,or_false]at ht
      rcases ht with rfl | rfl | rfl
      . exact⟨hd'.1,r1,n1⟩
      . exact⟨hd'.2.1,r2,n2⟩
      . exact⟨hd'.2.2,r3,n3⟩
     refine Za (λh4=>by simp only at h4;omega) (λ_=>?_)
     refine zk (λ_ h'=>h.le h') ?_ ?_
     . rintro _ h5 hl5
       have hp5:=hp.le Xo hl5
       refine hp5.get Xo 0 rfl (by simp) λa3 X' hX' c3=>⟨_,c3 0 _ rfl,_,c3 1 _ rfl,_,c3 2 _ rfl,X'.parts,c3 3 _ rfl,?_⟩
       refine hp5.get Xo 1 rfl (by simp) λa5 Y' hY' c5=>⟨_,c5 0 _ rfl,_,c5 1 _ rfl,_,c5 2 _ rfl,Y'.parts,c5 3 _ rfl,?_⟩
       refine hp5.get Xo 2 rfl (by simp) λa7 Z' hZ' c7=>⟨_,c7 0 _ rfl,_,c7 1 _ rfl,_,c7 2 _ rfl,Z'.parts,c7 3 _ rfl,?_⟩
       refine zhl (X:=X') (Y:=Y') (Z:=Z') hX' hY' hZ' n1 n2 n3 λW h6 hl6 m1 m0=>?_
       have hm:z7o p q r=some (b,c,a):=r4
       have hle:=Hp.le_trans hl5 hl6
       cases hW:W.2 with
       | false=>
         have:=m0 hW
         simp only[List.getElem_cons_zero,List.getElem_cons_succ]at this
         rw[hm]at this;cases this
       | true=>
         obtain⟨x,y,z,e1,_,e3,e4,e5⟩:=m1 hW
         simp only[List.getElem_cons_zero,List.getElem_cons_succ]at e1
         rw[hm]at e1
         simp only[Option.some.injEq,Prod.mk.injEq]at e1
         obtain⟨rfl,rfl,rfl⟩:=e1
         refine Z9 rfl (Za (λ_=>Za (λ_=>?_) (λhh=>absurd e4 hh)) (λhh=>absurd e3 hh))
         have:(W.1.c==c)=true:=by rw[e5];simp
         rw[this];exact H _ hle
     . refine yt (λh4=>absurd (by simp only;rw[h2];rfl) h4) (λ_=>?_)
       refine zd (λr h'=>r=false) (λK2 hk2=>?_) λr h' hl hr=>by subst hr;exact zt rfl hl
       unfold F.yd
       refine zd (λr h'=>r=-1) (λK3 hk3=>?_) λr h' hl hr=>by subst hr;exact hk2 _ _ hl rfl
       unfold F.yq
       refine Yr (n:=3) (by omega) (λi h'=>h.le h') (Hp.le_refl _) ?_
       intro i h5 hi hl5 k hk4
       refine ze (λh6=>?_) (λh6=>hk3 _ _ hl5 rfl)
       have hi':i<[p,q,r].length:=by simp only at h6;show i<3;omega
       refine(hp.le Xo hl5).get Xo i rfl hi' λa3 V hV c3=>⟨_,c3 0 _ rfl,_,c3 1 _ rfl,_,c3 2 _ rfl,V.parts,c3 3 _ rfl,?_⟩
       have ha:=hall _ (List.getElem_mem hi')
       refine zd (λr h'=>r=false) (λK4 hk5=>?_) λr h' hl hr=>by subst hr;exact zt rfl (hk4 _ (by simpa using hi') (Hp.le_trans hl5 hl))
       unfold F.z3p
       refine zd (λr h'=>r=true) (λK5 hk6=>ih (x:=V) hV ha.1 ha.2.1 ha.2.2 λh' hl=>hk6 _ _ hl rfl) λr h' hl hr=>by subst hr;exact hk5 _ _ hl rfl
theorem zfm{X:TTree}{t:PTr}(hl:LR a2c 2 A2P h G.edges es)(hv:GV G.n es)(h12:G.n<=12)(hX:TR h X t)(hr:t.right)(hp:t.bars.Perm es)(hpt:((z1i t.bars).length:Int)=G.n)(H:∀h',h.le h'->Kb true h'):zc (F.z0e G X) Kb h:=by
 refine zd (λr h'=>r=true) (λK' hk=>?_) λr h' hl hr=>by subst hr;exact H h' hl
 unfold F.z0e
 have hcap:=hv.cap
 have hnn:nnB t:=⟨λe he=>by have:=hv.2.1 e (hp.mem_iff.1 he);omega,by have:=hp.length_eq;omega⟩
 refine Vd hl (by have:=hl.len Zy;omega) λb h1 hl1 hb=>?_
 rw[hb.2 hv]
 refine Z9 rfl (ze (λ_=>?_) (λhh=>absurd h12 hh))
 refine zd (λr h'=>r=true) (λK2 hk2=>?_) λr h' hl hr=>by subst hr;exact hk _ _ (Hp.le_trans hl1 hl) rfl
 unfold F.z32
 refine zjg (hX.le hl1) (by have:=hnn.2;omega) λy h2 ho2=>?_
 obtain⟨f2,hB2,hos⟩:=ho2.bk
 refine Qe (zp7 (size:=2) (xs:=t.bars) (by decide) z2h (by unfold zij;rw[List.length_mergeSort]) (λ_=>rfl) hos hB2 (by have:=hnn.2;omega) λf3 h4 hB4 ho4=>?_)
 rw[Z9g hp hv]at ho4
 have hle4:h1.le h4:=hB4.le
 refine znw ⟨ho4.rd hB4,ho4.2.1⟩ ((hl.le Zy (Hp.le_trans hl1 hle4)).el) (by omega) λh5 hl5=>?_
 have hle5:=Hp.le_trans hle4 hl5
 refine Z9 rfl ?_
 refine z4g (hX.le (Hp.le_trans hl1 hle5)) (by have:=hnn.2;omega) λz h6 hl6 hz=>?_
 have hzl:=hz.len
 have hle6:=Hp.le_trans hle5 hl6
 refine Za (λ_=>?_) (λhh=>absurd (by rw[hzl];exact hpt) hh)
 refine zd (λr h'=>r=true) (λK3 hk3=>?_) λr h' hl hr=>by subst hr;exact hk2 _ _ (Hp.le_trans hle6 hl) rfl
 unfold F.z6i
 exact⟨t.dep,zxb _ (hX.le (Hp.le_trans hl1 hle6)) (Nat.le_refl _) hr hnn λh' hl=>hk3 _ _ hl rfl⟩
end
end Den
end

section
namespace Den
open Go Iv Lx
def NQ(h:Hp)(B:Nat)(x:TNumber)(q:Rat):Prop:=x.radicands.len=0/\PL h B x.coefs [q]
theorem NQ.le{h h':Hp}{B:Nat}{x:TNumber}{q:Rat}(hx:NQ h B x q)(hl:h.le h'):NQ h' B x q:=⟨hx.1,hx.2.le hl⟩
theorem NQ.mono{h:Hp}{B C:Nat}{x:TNumber}{q:Rat}(hx:NQ h B x q)(hB:B<=C):NQ h C x q:=⟨hx.1,hx.2.mono hB⟩
def nc(x:TNumber):List Value:=[.slice x.radicands.a x.radicands.len x.radicands.cap,.slice x.coefs.a x.coefs.len x.coefs.cap]
def NQP(B:Nat)(h:Hp)(x:TNumber)(q:Rat):Prop:=NQ h B x q
theorem Xf(B:Nat):Rec nc 2 (NQP B):=⟨λ_=>rfl,by decide,λ_=>rfl,λhx hl=>hx.le hl⟩
theorem NR.lens{h:Hp}{x:TRat}{q:Rat}{k:Nat}(hx:NR h x q)(hq:BR k q):x.num.mag.len<=k/\x.den.mag.len<=k:=by
 have e1:=hx.1.len
 have e2:=hx.2.len
 exact⟨by rw[e1];exact Xm.2 hq.1,by rw[e2];exact Xm.2 hq.2⟩
section
variable {h : Hp} {B C k : Nat} {t u a b l : Sl} {x y : TRat} {p q : Rat} {X Y : TNumber} {Kb : Bool → Hp → Prop} {Ks : Sl → Hp → Prop} {KR : TRat → Hp → Prop} {KN : TNumber → Hp → Prop} {KE : TNumber × Int → Hp → Prop} {Ki : Int → Hp → Prop}
theorem zuu{K:Addr->Hp->Prop}(hx:NR h x q)(hq:BR B q)(H:∀A h',h.le h'->PL h' B ⟨some A,1,1⟩ [q]->K A h'):Yu [.bool x.num.neg,.slice x.num.mag.a x.num.mag.len x.num.mag.cap,.bool x.den.neg,.slice x.den.mag.a x.den.mag.len x.den.mag.cap] K h:=by
 refine zbx (cells:=qc x) 4 1 rfl λA h' hl hr=>H A h' hl ⟨[x],hr,?_,Nat.le_refl _⟩
 refine⟨rfl,λk k1 k2=>?_⟩
 have:k=0:=by simp at k1;omega
 subst this
 exact⟨hx.le hl,hq⟩
theorem zcj(hx:NR h x q)(hq:BR B q)(hB:B<=1000000000000)(H:∀z h',h.le h'->NR h' z q->KR z h'):zc (F.z0a x) KR h:=by
 refine zd (λz h'=>NR h' z q) (λK' hk=>?_) λz h' hl hz=>H z h' hl hz
 unfold F.z0a
 have hl:=hx.lens hq
 refine z95 hx.1.1 (by rw[<-hx.1.len];omega) λy1 h1 ho1=>?_
 refine z95 (hx.2.1.le ho1.1) (by rw[<-hx.2.len];omega) λy2 h2 ho2=>hk _ _ (Hp.le_trans ho1.1 ho2.1) ?_
 exact⟨⟨ho1.rdW.le ho2.1,hx.1.2⟩,⟨ho2.rdW,hx.2.2⟩⟩
theorem zj8(hx:NR h x q)(hq:BR B q)(hB:B<=1000000000000)(H:∀z h',h.le h'->NQ h' B z q->KN z h'):zc (F.z2p x) KN h:=by
 refine zd (λz h'=>NQ h' B z q) (λK' hk=>?_) λz h' hl hz=>H z h' hl hz
 unfold F.z2p
 refine zcj hx hq hB λz h1 hl1 hz=>?_
 exact zuu hz hq λA h2 hl2 hp=>hk _ _ (Hp.le_trans hl1 hl2) ⟨rfl,hp⟩
theorem zkp{n:Int}(h1:-9223372036854775808<=n)(h2:n<=9223372036854775807):BR 2 (n:Rat):=by
 refine⟨?_,?_⟩
 . rw[Rat.num_intCast];unfold Lt W;omega
 . rw[Rat.den_intCast];unfold Lt;decide
theorem z7a{n:Int}(h1:-9223372036854775808<=n)(h2:n<=9223372036854775807)(H:∀z h',h.le h'->NQ h' 2 z (n:Rat)->KN z h'):zc (F.X8 n) KN h:=by
 refine zd (λz h'=>NQ h' 2 z (n:Rat)) (λK' hk=>?_) λz h' hl hz=>H z h' hl hz
 unfold F.X8
 refine z1j h1 h2 λz h3 hl3 hz=>?_
 exact zj8 hz (zkp h1 h2) (by decide) λw h4 hl4 hw=>hk _ _ (Hp.le_trans hl3 hl4) hw
theorem zid{n:Int}(h1:-9223372036854775808<=n)(h2:n<=9223372036854775807)(H:∀z h',h.le h'->NQ h' 2 z (n:Rat)->KN z h'):zc (F.z1l n) KN h:=by
 refine zd (λz h'=>NQ h' 2 z (n:Rat)) (λK' hk=>?_) λz h' hl hz=>H z h' hl hz
 unfold F.z1l
 refine z2x h1 h2 λz h3 hl3 hz=>?_
 refine zd (λz h'=>NQ h' 2 z (n:Rat)) (λK2 hk2=>?_) λz h' hl hz=>hk _ _ (Hp.le_trans hl3 hl) hz
 unfold F.z7c
 exact zuu hz (zkp h1 h2) λA h4 hl4 hp=>hk2 _ _ hl4 ⟨rfl,hp⟩
theorem zev(ht:t.len=0)(hu:u.len=0)(H:Kb true h):zc (F.V8 t u) Kb h:=by
 refine Zk _ (λK' hk=>?_) H
 unfold F.V8
 refine ze (λ_=>?_) (λhh=>absurd (by rw[ht,hu];exact Int.le_refl _) hh)
 rw[hu]
 refine⟨by omega,by omega,by omega,Zk _ (λK2 hk2=>?_) hk⟩
 unfold F.Zs
 refine yt (λhh=>absurd (by rw[hu];rfl) hh) (λ_=>?_)
 refine Yr (n:=0) (by omega) (λ_ h'=>h'=h) rfl ?_
 rintro i h1 _ hh k _
 rw[hh]
 refine ze (λh2=>?_) (λ_=>hk2)
 exfalso
 have:(t.cut ((0:Int)).toNat ((0:Nat):Int).toNat 1).len=0:=rfl
 rw[this]at h2
 simp only at h2
 omega
theorem zox(hp:PL h B l [q])(H:∀y h',h.le h'->PL h' B y [q]->Ks y h'):zc (F.qz l) Ks h:=by
 refine zd (λy h'=>PL h' B y [q]) (λK' hk=>?_) λy h' hl hy=>H y h' hl hy
 unfold F.qz
 have hll:=hp.len
 obtain⟨xs,h1,h2,h3⟩:=hp
 cases ha:l.a with
 | none=>
   have h4:=h1.2
   rw[ha]at h4
   simp only[Z3]at h4
   split at h4
   . rename_i h5
     have:=h1.1
     rw[h5,hll]at this
     simp at this
   . cases h4
 | some A=>
   refine zt rfl ?_
   refine(Bk.start (h:=h)).newF λbk h5 hb hD hB1=>?_
   have hxl:(xs.flatMap qc).length=l.len*4:=h1.1.symm
   refine⟨xs.flatMap qc,?_,?_⟩
   . have:=z6p hB1.le h1.2
     rw[hxl,ha]at this
     exact this
   . have ho:OS (Wd z6x bk []) 4 ⟨some ⟨bk,0,none⟩,0,0⟩ []:=OS.blk rfl
     have hl1:l.len=1:=hll
     refine ho.app hB1 (n:=l.len) hxl rfl ?_ ?_ ?_ λy f2 h6 hB2 ho2 _ _=>hk _ _ hB2.le ⟨xs,?_,h2.le hB2.le,ho2.2.1⟩
     . rw[List.all_flatMap];exact List.all_eq_true.2 λ_ _=>rfl
     . show(0+l.len)*64<=_;omega
     . show 0+l.len<=_;omega
     . rw[List.nil_append]at ho2
       exact ho2.rd hB2
theorem Z99(ht:t.len=0):i64.wrap (1*2 ^ (min ((t.len:Int):Int).toNat i64.bits))=1:=by
 rw[ht]
 have e:min (((0:Nat):Int)).toNat i64.bits=0:=Nat.zero_min _
 rw[e];rfl
theorem Z4q(ht:t.len=0)(hp:PL h B a [q])(H:∀y h',h.le h'->PL h' B y [q]->Ks y h'):zc (F.z61 t a) Ks h:=by
 refine zd (λy h'=>PL h' B y [q]) (λK' hk=>?_) λy h' hl hy=>H y h' hl hy
 unfold F.z61
 refine zox hp λy h1 hl1 hy=>?_
 have hyl:=hy.len
 refine y9 (λst h'=>st.1=y/\h'=h1) (λ_=>0) ⟨rfl,rfl⟩ ?_
 rintro⟨_,_⟩ h2 ⟨rfl,hh⟩
 rw[hh,Z99 ht]
 refine⟨by omega,ze (λh3=>?_) (λ_=>hk _ _ hl1 hy)⟩
 simp only at h3 hyl
 rw[hyl]at h3
 simp at h3
theorem zj0(hp:PL h B l [q])(hB:B<=1000000000000)(H:∀y h',h.le h'->PL h' B y [q]->Ks y h'):zc (F.V4 l) Ks h:=by
 refine zd (λy h'=>PL h' B y [q]) (λK' hk=>?_) λy h' hl hy=>H y h' hl hy
 unfold F.V4
 have hll:=hp.len
 have h1l:l.len=1:=hll
 have hbr:=hp.bound q (List.mem_cons_self ..)
 rw[h1l]
 refine(Bk.start (h:=h)).mkF 1 1 rfl rfl (Nat.le_refl _) (by omega) (by omega) λbm h1 hbm hDm hB1=>?_
 refine Yr (n:=1) (by omega) (λi h'=>(i=0/\h'=h1)\/(0<i/\h.le h'/\PL h' B ⟨some ⟨bm,0,none⟩,1,1⟩ [q])) (.inl ⟨rfl,rfl⟩) ?_
 rintro i h2 hi hI k hk2
 refine ze (λh3=>?_) (λh3=>?_)
 . have hi0:i=0:=by simp only at h3;omega
   subst hi0
   rcases hI with ⟨_,hh⟩ | ⟨hh,_⟩
   . rw[hh]
     obtain⟨xs,g1,g2,g3⟩:=hp
     have hx0:0<xs.length:=by rw[g2.1];simp
     have hx:=g2.2 0 hx0 (by simp)
     simp only[List.getElem_cons_zero]at hx
     refine zi4 0 (g1.le hB1.le) rfl hx0 ?_
     refine hB1.call (K1:=λz D'=>NR D' z q) (zcj hx.1 hbr hB λz h' _ hz=>hz) λz D3 h3' hl3 hB3 hz=>?_
     have ho:OS (Wd z6x bm (Z6 1 [.bool false,.slice zf.a zf.len zf.cap,.bool false,.slice zf.a zf.len zf.cap])) 4 ⟨some ⟨bm,0,none⟩,1,1⟩ (Z6 1 [.bool false,.slice zf.a zf.len zf.cap,.bool false,.slice zf.a zf.len zf.cap]):=OS.mk rfl (Nat.le_refl _)
     refine ho.st (vs:=qc z) 0 hB3 rfl (by show 0<1;omega) rfl (by decide) rfl λf4 h4 hB4 ho4 _=>hk2 _ (by omega) (.inr ⟨by omega,Hp.le_trans hl3 hB4.le,?_⟩)
     have e:z8 (Z6 1 [.bool false,.slice zf.a zf.len zf.cap,.bool false,.slice zf.a zf.len zf.cap]) (0*4) (qc z)=[z].flatMap qc:=rfl
     rw[e]at ho4
     refine⟨[z],ho4.rd hB4,⟨rfl,λk k1 k2=>?_⟩,Nat.le_refl _⟩
     have:k=0:=by simp at k1;omega
     subst this
     exact⟨hz.le hB4.le,hbr⟩
   . omega
 . rcases hI with ⟨rfl,_⟩ | ⟨_,g1,g2⟩
   . simp only at h3;omega
   . exact hk _ _ g1 g2
theorem zf5(hx:NQ h B X q)(hB:B<=1000000000000)(H:∀z h',h.le h'->NQ h' B z q->KN z h'):zc (F.z1h X) KN h:=by
 refine zd (λz h'=>NQ h' B z q) (λK' hk=>?_) λz h' hl hz=>H z h' hl hz
 unfold F.z1h
 refine zj0 hx.2 hB λy h1 hl1 hy=>?_
 refine y9 (λst h'=>st=((zf,y,()),0,())/\h'=h1) (λ_=>0) ⟨rfl,rfl⟩ ?_
 rintro st h2 ⟨rfl,hh⟩
 rw[hh]
 refine ze (λh3=>?_) (λ_=>hk _ _ hl1 ⟨rfl,hy⟩)
 exfalso
 simp only at h3
 rw[hx.1]at h3
 exact absurd h3 (by decide)
theorem zl6{qs:List Rat}{K:Sl×Int->Hp->Prop}(hl:LR nc 2 (NQP B) h l qs)(hlen:qs.length<=1000000)(H:K (zf,0) h):zc (F.z3z l) K h:=by
 refine Zk _ (λK' hk=>?_) H
 unfold F.z3z
 have hll:=hl.len (Xf B)
 refine Yq (n:=qs.length) (by omega) (λi s h'=>h'=h/\s=zf) ⟨rfl,rfl⟩ ?_
 rintro i s h1 hi ⟨hh,rfl⟩ k hk2
 rw[hh]
 refine ze (λh2=>?_) (λ_=>hk)
 have hi':i<qs.length:=by simp only at h2;omega
 refine zk (λs h'=>h'=h/\s.1=zf) (λs h' hs=>hk2 _ _ hi' hs) ?_
 refine hl.get (Xf B) i rfl hi' λa5 x hx hc=>⟨x.radicands,hc 0 _ rfl,x.coefs,hc 1 _ rfl,?_⟩
 exact zev rfl hx.1 (Z9 rfl ⟨rfl,rfl⟩)
theorem zdl{qs:List Rat}{K:Sl×Int->Hp->Prop}(hl:LR nc 2 (NQP B) h l qs)(hlen:qs.length<=1000000)(hB:B<=1000000000000)(H:∀y D h',h.le D->LO nc 2 (NQP B) D h' y qs->K (y,0) h'):zc (F.z27 l) K h:=by
 refine zd (λr h'=>r.2=0/\∃D,h.le D/\LO nc 2 (NQP B) D h' r.1 qs) (λK' hk=>?_) λr h' hl hr=>?_
 . unfold F.z27
   have hll:=hl.len (Xf B)
   refine zl6 hl hlen (yt (λhh=>absurd rfl hh) (λ_=>?_))
   refine Yq (n:=qs.length) (by omega) (λi s h'=>∃D,h.le D/\LO nc 2 (NQP B) D h' s (qs.take i)) ⟨h,Hp.le_refl _,by simpa using LO.nil⟩ ?_
   rintro i s h1 hi ⟨D,hD,ho⟩ k hk2
   refine ze (λh2=>?_) (λh2=>?_)
   . have hi':i<qs.length:=by simp only at h2;omega
     refine(hl.le (Xf B) hD).get2 (Xf B) ho.dle i rfl hi' λa4 x hx hc=>⟨x.radicands,hc 0 _ rfl,x.coefs,hc 1 _ rfl,?_⟩
     have hx:NQ D B x qs[i]:=hx
     obtain⟨J,hJ⟩:∃J:(Sl×Sl×Unit)×Unit->Hp->Prop,∀s' h',J s' h'↔∃D',h.le D'/\LO nc 2 (NQP B) D' h' s (qs.take i)/\NQ D' B ⟨s'.1.1,s'.1.2.1⟩ qs[i]:=⟨_,λ_ _=>Iff.rfl⟩
     refine zk J (λs' h' hs=>?_) ?_
     . obtain⟨D',q1,q2,q3⟩:=(hJ s' h').1 hs
       refine q2.call (Xf B) (K1:=λz D2=>NQ D2 B z qs[i]) (zf5 q3 hB λz h'' _ hz=>hz) λz D2 h4 hl4 q5 q6=>?_
       have hsl:=q5.len (Xf B)
       refine q5.app (Xf B) (bytes:=48) (zero:=[.slice zf.a zf.len zf.cap,.slice zf.a zf.len zf.cap]) (x:=z) (b:=qs[i]) rfl (by rw[List.length_take];omega) (by rw[List.length_take];omega) q6 λw h5 hw=>hk2 _ _ hi' ⟨D2,Hp.le_trans q1 hl4,?_⟩
       rw[<-List.take_append_getElem hi'];exact hw
     . refine zev rfl hx.1 (Z9 rfl ?_)
       refine ho.call (Xf B) (K1:=λy D2=>PL D2 B y [qs[i]]) (Z4q rfl hx.2 λy h'' _ hy=>hy) λy D2 h4 hl4 q5 q6=>?_
       exact(hJ _ _).2 ⟨D2,Hp.le_trans hD hl4,q5,rfl,q6⟩
   . have:i=qs.length:=by simp only at h2;omega
     subst this
     rw[List.take_length]at ho
     exact hk _ _ (Hp.le_trans hD ho.dle) ⟨rfl,D,hD,ho⟩
 . obtain⟨y,e⟩:=r
   obtain⟨h1,D,h2,h3⟩:=hr
   simp only at h1
   subst h1
   exact H y D h' h2 h3
theorem zd2(hp:PL h B l [q])(hB:B<=1000000000000)(H:∀h',h.le h'->Kb true h'):zc (F.V9 l 1) Kb h:=by
 refine zd (λb h'=>b=true) (λK' hk=>?_) λb h' hl hb=>by subst hb;exact H h' hl
 unfold F.V9
 have hll:l.len=1:=hp.len
 refine Za (λ_=>?_) (λhh=>absurd (by rw[hll];rfl) hh)
 refine zd (λb h'=>b=false) (λK2 hk2=>?_) λb h' hl hb=>by subst hb;exact hk _ _ hl rfl
 unfold F.yo
 refine zd (λr h'=>r=-1) (λK3 hk3=>?_) λr h' hl hr=>by subst hr;exact hk2 _ _ hl rfl
 unfold F.y8
 refine Yr (n:=1) (by omega) (λi h'=>h.le h') (Hp.le_refl _) ?_
 intro i h1 hi hl1 k hk4
 refine ze (λh2=>?_) (λ_=>hk3 _ _ hl1 rfl)
 have hi0:i=0:=by simp only at h2;omega
 subst hi0
 refine(hp.le hl1).get 0 rfl (by simp) λx hx bx=>?_
 simp only[List.getElem_cons_zero]at hx bx
 refine zd (λb h'=>b=false) (λK5 hk5=>?_) λb h' hl hb=>by subst hb;exact zt rfl (hk4 _ (by omega) (Hp.le_trans hl1 hl))
 unfold F.z4v
 have hlens:=hx.lens bx
 exact z9w (x:=x) hx.ar (by omega) (by omega) (λ_ h' hl _=>hk5 _ _ hl rfl) (λh' hl hn=>absurd ⟨q,hx⟩ hn)
theorem z9x(ht:t.len=0)(H:Kb true h):zc (F.V5 t) Kb h:=by
 refine Zk _ (λK' hk=>?_) H
 unfold F.V5
 refine Yr (n:=0) (by omega) (λi h'=>h'=h) rfl ?_
 rintro i h1 _ hh k _
 rw[hh]
 refine ze (λh2=>?_) (λ_=>hk)
 exfalso
 simp only at h2
 rw[ht]at h2
 omega
theorem z44(ht:t.len=0)(hp:PL h B l [q])(hB:B<=1000000000000)(H:∀h',h.le h'->Kb true h'):zc (F.Wq t l) Kb h:=by
 refine zd (λb h'=>b=true) (λK' hk=>?_) λb h' hl hb=>by subst hb;exact H h' hl
 unfold F.Wq
 refine z9x ht (Z9 rfl ⟨by omega,?_⟩)
 rw[Z99 ht]
 exact zd2 hp hB λh' hl=>hk _ _ hl rfl
theorem zcr(ht:t.len=0)(ha:PL h B a [p])(hb:PL h C b [q])(hB:B<=1000000000000)(hC:C<=1000000000000)(H:∀h',h.le h'->Kb true h'):zc (F.z10 t a b) Kb h:=by
 refine zd (λb h'=>b=true) (λK' hk=>?_) λb h' hl hb=>by subst hb;exact H h' hl
 unfold F.z10
 refine z44 ht ha hB λh1 hl1=>Z9 rfl ⟨by omega,?_⟩
 rw[Z99 ht]
 exact zd2 (hb.le hl1) hC λh' hl=>hk _ _ (Hp.le_trans hl1 hl) rfl
end
end Den
end
