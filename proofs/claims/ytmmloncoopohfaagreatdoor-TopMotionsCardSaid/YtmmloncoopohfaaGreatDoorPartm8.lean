/- Part 8 of the tools of the proof. -/
import Derived.Test.YtmmloncoopohfaaGreatDoorPartm7
import Derived.RangeFuncBox
import Derived.Shelf.Abstract
import Derived.OwnWalkIn
import Derived.TacticsInMore
import Derived.LoopNIn
import Derived.LoopIn
import Derived.Lib.Builder
import Derived.Lib.UnsafeStr
set_option linter.all false
open Go.IntKind
open Den (zO zD zS zV)
open Nat renaming le_refl→Jd
open Den.Ty renaming leaf→Uw
open Den.cn renaming fn→Lq
noncomputable section
set_option maxRecDepth 100000
namespace Den
open Go Go.Proofs.Tryz
def Ziy:zh:=ao (ac ze (ac ze az)) (t2 ze ti) λa=>F.F1 a.1 a.2.1
def Zri:aq 199 Ziy:=eo (av 28 [(274,Zis),(174,M8)] [] [(9,3),(11,3),(21,3)] [2,3,4]) (.q (.q (.s zm .w))) func199 ⟨Zrc,Z21,trivial⟩
def Z8x:zh:=ao (ac ze az) (t2 ze ti) λa=>F.Dd a.1
def Zmt:aq 22 Z8x:=eo (av 23 [(70,Ziv)] [] [(8,1),(10,1)] [1,2]) (.q (.q (.s zm .w))) func22 ⟨Zrf,trivial⟩
def Zqm:zh:=ao (aJ (aJ az)) ti λa=>F.zjt a.1 a.2.1
def Y0a:aq 181 Zqm:=eo (av 8 [(267,Z8w)]) (.q .w) func181 ⟨Zms,trivial⟩
def ED:zh:=ao (ac ze az) ti λa=>F.Xd a.1
def IU:aq 97 ED:=eo (av 8 [(181,Zqm)] [] [(3,1),(5,1)] [1]) (.q .w) func97 ⟨Y0a,trivial⟩
def Zqn:zh:=ao (aJ az) ts λa=>F.zby a.1
def Y0b:aq 119 Zqn:=eo (av 159 [(197,Zpv),(201,Zpy),(200,Zpz),(179,zz8),(198,Zql),(96,Zix),(174,M8),(199,Ziy),(22,Z8x),(97,ED),(180,M7)] [] [(34,6),(37,6),(47,6),(53,6),(62,6),(71,6)] [6,7,8,9,10,12,14,16,18,156]) (.q (.q (.q (.s (.q (.b (.loop [(3,.s),(4,.i),(5,.i)] (.join [] (.q (.c .l .l)) (.s (.b (.q (.q (.join [(4,.i),(7,.box [.sl,.sl])] (.q (.c (.s (.draw (zR 0 22)) (.q (.q (.b (.q (.c .w (.q (.c .w (.q (.c .w (.q (.c .w (.join [(8,.box [.sl,.sl])] (.q (.c .l .l)) (.q (.c (.q .w) .l))))))))))))))) .l)) (.join [(7,.box [.sl,.sl])] (.q (.c .l .l)) .l))))) .l))))) .w)))) func119 ⟨Zzi,Zzl,Zzm,Za2,Y08,Zrh,Z21,Zri,Zmt,IU,Z1z,trivial⟩
def M9:zh:=ao (ai az) ze λa=>F.Y4 a.1
def Z22:aq 23 M9:=eo (av 6 [(72,yC),(71,zz5)] [] [] [2]) (.q .w) func23 ⟨Aq,Z9z,trivial⟩
def Zqo:zh:=ao (aJ (ai az)) ze λa=>F.PO a.1 a.2.1
def Y0c:aq 121 Zqo:=eo (av 20 [(23,M9)] [] [] [4]) (.q (.join [(4,.box [.sl,.sl])] zm .w)) func121 ⟨Z22,trivial⟩
def Zqp:zh:=ao (ac ze az) tb λa=>F.zbz a.1
def Y0d:aq 202 Zqp:=eo (av 76 [] [] [(7,1),(13,1),(23,1),(34,1),(41,1),(50,1),(63,1)] [1]) (.q (.s (.q (.b (.loop [(3,.i)] (.s (.q (.c .l .l)) (.join [] (.b zm) .l))))) (.s (.q (.b (.loop [(4,.i)] (.s (.q (.c .l .l)) (.s (.b (.q (.b (.loop [(5,.i)] (.s (.q (.c .l .l)) (.join [] (.b zm) .l)))))) .l))))) .w))) func202 trivial
def Zqq:zh:=ao (aJ az) tb λa=>F.zi3 a.1
def Y0e:aq 120 Zqq:=eo (av 16 [(202,Zqp)]) (.q (.s (.q (.b (.loop [(3,.i)] (.s (.q (.c .l .l)) (.s (.b zm) .l))))) .w)) func120 ⟨Y0d,trivial⟩
def Zqr:zh:=ao (ac Wv az) (t2 ts tb) λa=>F.z9u a.1
def Y0f:aq 62 Zqr:=eo (av 49 [(119,Zqn),(121,Zqo),(120,Zqq)] [] [(7,1),(14,1),(21,1),(29,1),(37,1)] [1,46]) (.q (.q (.join [] zm (.q (.s (.q (.b (.loop [(5,.s),(6,.i)] (.s (.q (.c .l .l)) (.s (.b (.draw (zR 0 8++zR 9 8++[8,17,18,19,20,21]))) .l))))) .w))))) func62 ⟨Y0b,Y0c,Y0e,trivial⟩
def Zqs:zh:=ao (ac Wv (ai az)) (t2 ts tb) λa=>F.z8f a.1 a.2.1
def Y0g:aq 19 Zqs:=eo (av 21 [(62,Zqr)] [] [] [2]) (.q (.q .w)) func19 ⟨Y0f,trivial⟩
def Zqt:zh:=ao (ac Zg (ac Zg az)) zp λa=>F.zju a.1 a.2.1
def Y0h:aq 83 Zqt:=eo (av 10 [(71,zz5)] [] [] [2,3,4]) (.q (.s (.draw [0,2,1,3,4,5]) .l)) func83 ⟨Z9z,trivial⟩
def Z8y:zh:=ao (ai (ai az)) zp λa=>F.Kz a.1 a.2.1
def Zmu:aq 26 Z8y:=eo (av 10 [(72,yC),(83,Zqt)] [] [] [4]) (.q .w) func26 ⟨Aq,Y0h,trivial⟩
def zz9:zh:=ao (ac zp (ac zp (ac tb az))) Xh λa=>F.F2 a.1 a.2.1 a.2.2.1
def Za3:aq 122 zz9:=eo (av 17 [] [] [(7,3),(9,3),(11,4),(13,4)] [3,4,6]) (.q .w) func122 trivial
def Ziz:zh:=ao (ac zp az) Xh λa=>F.PR a.1
def Zrj:aq 63 Ziz:=eo (av 6 [(26,Z8y),(122,zz9)] [] [] [1,2]) (.q (.s (.draw [1,0,2,3]) .l)) func63 ⟨Zmu,Za3,trivial⟩
def Zj0:zh:=ao (ac zp az) tb λa=>F.PU a.1
def Zrk:aq 64 Zj0:=eo (av 13 [(97,ED)] [] [(3,1),(8,1)] [1]) (.q .w) func64 ⟨IU,trivial⟩
def Zqu:zh:=ao az Xh λa=>F.KD
def Y0i:aq 65 Zqu:=eo (av 3 [(26,Z8y),(63,Ziz)] [] [] [0]) (.q .w) func65 ⟨Zmu,Zrj,trivial⟩
def Z8z:zh:=ao (ai (ai az)) ti λa=>F.F3 a.1 a.2.1
def Zmv:aq 208 Z8z:=eo (av 9 []) (.q (.s zm .w)) func208 trivial
def zza:zh:=ao (ac zp (ac zp az)) (t2 ze ti) λa=>F.F4 a.1 a.2.1
def Za4:aq 133 zza:=eo (av 41 [(174,M8),(179,zz8),(208,Z8z)] [] [(11,2),(13,3),(19,2),(21,3)] [2,3,4,6,8]) (.q (.q (.q (.join [(4,.box [.sl,.sl])] zm .w)))) func133 ⟨Z21,Za2,Zmv,trivial⟩
def Zj1:zh:=ao (ac zp az) (t2 ze ti) λa=>F.PV a.1
def Zrl:aq 203 Zj1:=eo (av 9 [(133,zza)] [] [] [1,2]) (.q .w) func203 ⟨Za4,trivial⟩
def Zdx:zh:=ao (ac zp az) (t2 ze ti) λa=>F.z9t a.1
def Zt6:aq 123 Zdx:=eo (av 19 [(203,Zj1),(22,Z8x)] [] [] [1,2,4]) (.q (.q (.s zm .w))) func123 ⟨Zrl,Zmt,trivial⟩
def Z3v:zh:=ao (ac ze (ac ze (ai az))) (t2 zp ti) λa=>F.PX a.1 a.2.1 a.2.2.1
def Zl7:aq 207 Z3v:=eo (av 15 [] [] [] [3,4,6]) (.q (.s zm .w)) func207 trivial
def Z3w:zh:=ao (ac zp (ac ze az)) (t2 zp ti) λa=>F.PY a.1 a.2.1
def Zl8:aq 130 Z3w:=eo (av 32 [(174,M8),(208,Z8z),(207,Z3v)] [] [(11,2),(18,2)] [2,3,4,6,8]) (.q (.q (.q (.s (.draw (zR 0 10)) .l)))) func130 ⟨Z21,Zmv,Zl7,trivial⟩
def zv8:zh:=ao (ac zp (ac ze az)) zp λa=>F.F5 a.1 a.2.1
def Z7a:aq 124 zv8:=eo (av 22 [(23,M9),(199,Ziy),(130,Z3w)] [] [] [2,3,4,5,7]) (.q (.s (.draw [1,6,0,2,3,4,5,7,8]) (.q .w))) func124 ⟨Z22,Zri,Zl8,trivial⟩
def zv9:zh:=ao (ac zp az) zp λa=>F.Df a.1
def Z7b:aq 128 zv9:=eo (av 9 [(180,M7)] [] [(3,1),(5,1)] [1,2]) (.q (.s (.draw (zR 0 7)) .l)) func128 ⟨Z1z,trivial⟩
def zva:zh:=ao (ac zp az) zp λa=>F.KF a.1
def Z7c:aq 132 zva:=eo (av 9 [(180,M7)] [] [(3,1),(6,1)] [1,2]) (.q (.s (.draw [0,1,3,4,2,5,6]) .l)) func132 ⟨Z1z,trivial⟩
def Z3x:zh:=ao (ac zp (ac zp az)) (t2 ze ti) λa=>F.PZ a.1 a.2.1
def Zl9:aq 205 Z3x:=eo (av 12 [(132,zva),(133,zza)] [] [] [2,3,4]) (.q (.s (.draw [0,2,1,3,4,5,6,7]) .l)) func205 ⟨Z7c,Za4,trivial⟩
def zvb:zh:=ao (ac zp (ac zp az)) zp λa=>F.Di a.1 a.2.1
def Z7d:aq 126 zvb:=eo (av 26 [(128,zv9),(133,zza),(205,Z3x)] [] [] [2,3,4,5,7]) (.q (.s (.draw [0,1,7,2,3,4,5,6,8,9]) (.s (.draw [0,2,7,1,3,4,5,6,8,9]) .w))) func126 ⟨Z7b,Za4,Zl9,trivial⟩
def Zdy:zh:=ao (ac zp az) zp λa=>F.zi6 a.1
def Zt7:aq 204 Zdy:=eo (av 10 [(180,M7)] [] [(3,1),(6,1)] [1,2]) (.q (.s (.draw [0,1,3,4,2,5,6,7]) .l)) func204 ⟨Z1z,trivial⟩
def Zdz:zh:=ao (ac zp (ac zp az)) (t2 zp ti) λa=>F.zi5 a.1 a.2.1
def Zt8:aq 206 Zdz:=eo (av 34 [(179,zz8),(208,Z8z),(207,Z3v)] [] [(11,2),(13,3),(19,2),(21,3)] [2,3,4,6,8]) (.q (.q (.q (.s (.draw (zR 0 10)) .l)))) func206 ⟨Za2,Zmv,Zl7,trivial⟩
def Z3y:zh:=ao (ac zp (ac zp az)) zp λa=>F.QA a.1 a.2.1
def Zlb:aq 129 Z3y:=eo (av 14 [(206,Zdz)] [] [] [2,3,4,5]) (.q (.q .w)) func129 ⟨Zt8,trivial⟩
def zvc:zh:=ao (ac zp (ac zp az)) zp λa=>F.KG a.1 a.2.1
def Z7e:aq 125 zvc:=eo (av 9 [(204,Zdy),(129,Z3y)] [] [] [2,3,4]) (.q (.s (.draw [0,1,2,3,4]) .l)) func125 ⟨Zt7,Zlb,trivial⟩
def Ze0:zh:=ao (ac zp (ac zp az)) Xh λa=>F.z76 a.1 a.2.1
def Zt9:aq 66 Ze0:=eo (av 23 [(123,Zdx),(124,zv8),(126,zvb),(125,zvc),(122,zz9)] [] [] [2,3,4,5,7]) (.q (.q (.q (.s (.draw (zR 0 8)) .l)))) func66 ⟨Zt6,Z7a,Z7d,Z7e,Za3,trivial⟩
def Ze1:zh:=ao (ac Xh az) (t2 zp zp) λa=>F.QB a.1
def Zta:aq 127 Ze1:=eo (av 14 [] [] [(4,1),(6,1),(9,1),(11,1)] [1,2,3]) (.q (.s (.draw (zR 0 12)) .l)) func127 trivial
def Ze2:zh:=ao (ac Xh (ac Xh az)) Xh λa=>F.QC a.1 a.2.1
def Ztb:aq 67 Ze2:=eo (av 39 [(127,Ze1),(126,zvb),(129,Z3y),(122,zz9),(128,zv9)] [] [(19,3),(33,2),(35,3)] [2,3,4,5,6,7,8]) (.q (.q (.q (.join [(5,.box [.sl,.sl,.sl,.sl]),(6,.box [.sl,.sl,.sl,.sl])] (.q (.c (.draw [0,2,1,3,4,5]) .l)) (.s (.draw [0,1,3,4,6,8,9,10,11,12,2,5,7,13,14]) .l))))) func67 ⟨Zta,Z7d,Zlb,Za3,Z7b,trivial⟩
def Ze3:zh:=ao (ac ze (ac ze az)) (t2 ti ti) λa=>F.zi4 a.1 a.2.1
def Ztc:aq 33 Ze3:=eo (av 19 [(96,Zix),(97,ED)] [] [] [2,3,6]) (.q (.q (.s zm .w))) func33 ⟨Zrh,IU,trivial⟩
def zvd:zh:=ao (ac ze (ac ze az)) tb λa=>F.W0 a.1 a.2.1
def Z7f:aq 8 zvd:=eo (av 19 [(33,Ze3)] [] [] [2,3]) (.q (.q .w)) func8 ⟨Ztc,trivial⟩
def Z3z:zh:=ao (ac zp (ac zp az)) tb λa=>F.Bc a.1 a.2.1
def Zlc:aq 15 Z3z:=eo (av 17 [(8,zvd)] [] [(5,2),(7,3),(11,2),(13,3)] [2,3]) (.q .w) func15 ⟨Z7f,trivial⟩
def Ze4:zh:=ao (ac zp (ac zp az)) A5 λa=>F.zey a.1 a.2.1
def Ztd:aq 69 Ze4:=eo (av 35 [(125,zvc),(132,zva),(124,zv8),(133,zza),(97,ED)] [] [(13,5),(18,5),(29,5),(31,5)] [2,3,4,5,6,7]) (.q (.q (.q (.join [(6,.box [.sl,.sl])] (.q (.c .l .l)) (.q (.q .w)))))) func69 ⟨Z7e,Z7c,Z7a,Za4,IU,trivial⟩
def Ze5:zh:=ao (ac zp az) ze λa=>F.QE a.1
def Zte:aq 131 Ze5:=eo (av 11 [(203,Zj1)] [] [] [1,2,3]) (.q (.q .w)) func131 ⟨Zrl,trivial⟩
end Den
end

section
namespace Den
open Go Go.RowKit Go.Shelf
open Go.Proofs
attribute [local go_sem] Oper.semAt_some
set_option maxRecDepth 100000 in
set_option maxHeartbeats 2000000 in
def Zda:zum Tryz.prog 223 (.leaf (.int .u32)):=by
 refine⟨enters_of Tryz.func223 (by kernel_rfl) rfl,?_⟩;rintro l ab ⟨xa,xl,xc⟩ J w vK h0 jq gM;simp only at vK h0 jq gM;have hb0:=jq _ _ h0;refine callsIn_of_wp Tryz.func223 rfl trivial ?_ rfl;simp only[Tryz.ntmps223,List.size_toArray,List.length_cons,List.length_nil,Nat.reduceAdd,Nat.reduceSub,Array.replicate_succ,Array.replicate_zero,List.push_toArray,List.append_toArray,List.nil_append,List.cons_append]
 gi_wp2
 gi_loopw [3] (λi wr=>∃k:Nat,k<=xl/\i=.int .i64 ((k:Int)-1)/\J k wr) (λi _=>(RowKit.intOf i+1).toNat)
 case atStart=>exact⟨xl,Jd _,rfl,h0⟩
 case round=>
  obtain⟨k,hk,rfl,hJ⟩:=hrel;have hbx:=jq _ _ hJ;cases k with
  | zero=>
    gi_wp2
    go_end0
    exact⟨⟨_,rfl⟩,hJ⟩
  | succ j=>
    obtain⟨ad,v,kI,jW,f,aai,Fm,body,hy,hR⟩:=gM j wr zO hJ;subst kI;have mD:wr.cell? (ad.add j)=some (.int .u32 v):=by
     have:=jW 0 (.int .u32 v) rfl;simpa [dp.size] using this
    have hkj:(((j+1:Nat):Int)-1)=(j:Int):=zO;rw[hkj];simp only[dp.val,Lf.up]at hy
    gi_wp2
    refine⟨rfl,hR.mono ?_⟩;rintro e W3 ⟨rfl,hJ3⟩
    gi_wp2
    go_roundw
    case rel=>exact⟨j,zO,zS,hJ3⟩
    case measure=>simp[RowKit.intOf]
end Den
end

noncomputable section
set_option maxRecDepth 100000
namespace Den
open Go Go.Proofs.Tryz
def Ze6:zh:=ao (ac A5 az) Xh λa=>F.z9v a.1
def Ztf:aq 68 Ze6:=eo (av 39 [(131,Ze5),(124,zv8),(130,Z3w),(132,zva),(126,zvb),(128,zv9),(125,zvc),(122,zz9)] [] [(8,1),(10,1),(18,1)] [1,2,3,4,6,7]) (.q (.q (.s (.draw [0,1,4,5,10,2,3,6,7,8,9,11,12]) (.q (.s (.draw [0,1,3,6,2,4,5,7]) (.s (.draw (zR 0 9)) .l)))))) func68 ⟨Zte,Z7a,Zl8,Z7c,Z7d,Z7b,Z7e,Za3,trivial⟩
def Ze7:zh:=ao (ac (Uw (.int .u8)) (ac zp (ac zp az))) Xh λa=>F.QF a.1 a.2.1 a.2.2.1
def Ztg:aq 20 Ze7:=eo (av 49 [(63,Ziz),(64,Zj0),(65,Zqu),(66,Ze0),(67,Ze2),(15,Z3z),(69,Ze4),(68,Ze6)] [] [] [4,5,6,7,8,9]) (.q (.q (.s (.q (.b (.join [(14,.b)] (.q (.c .l .l)) (.c (.s zm (.q (.s zm .w))) (.join [(30,.b)] (.q (.c .l .l)) (.c (.s zm (.q (.s zm .w))) .l)))))) .w))) func20 ⟨Zrj,Zrk,Y0i,Zt9,Ztb,Zlc,Ztd,Ztf,trivial⟩
def nw:zh:=ao (aJ az) ts λa=>F.Zb a.1
def nO:aq 142 nw:=eo (av 21 []) (.q (.s (.b (.loop [(0,.s)] (.join [] (.q (.c .l .l)) (.b .l)))) .w)) func142 trivial
def zpm:zh:=ao (ac Ze az) ti λa=>F.Wj a.1
def zx8:aq 237 zpm:=eo (av 12 [(142,nw)] [] [(4,1),(10,1)] [1]) (.q (.s (.b (.q (.c .w zm))) .w)) func237 ⟨nO,trivial⟩
def Ar:zh:=ao (ac Zg az) ti λa=>F.Yr a.1
def Cz:aq 230 Ar:=eo (av 6 [(237,zpm)] [] [(3,1)] [1]) (.q .w) func230 ⟨zx8,trivial⟩
def Ze8:zh:=ao (aJ (aJ az)) ts λa=>F.Om a.1 a.2.1
def Zth:aq 257 Ze8:=eo (av 75 [(142,nw)]) (.q (.join [] zm (.q (.s (.q (.b (.loop [(27,.i)] (.q (.s (.c .l .l) (.s (.b (.q (.q (.s (.q (.b (.loop [(8,.leaf (.int .u64)),(34,.i)] (.q (.s (.c .l .l) (.s (.b (.q (.q .w))) .l)))))) .l)))) .l)))))) .w)))) func257 ⟨nO,trivial⟩
def CA:zh:=ao (ac tb (aJ az)) Ze λa=>F.Zy a.1 a.2.1
def EE:aq 251 CA:=eo (av 14 [(142,nw)] [] [] [4]) (.q (.q (.s zm .w))) func251 ⟨nO,trivial⟩
def As:zh:=ao (ac Ze (ac Ze az)) Ze λa=>F.ym a.1 a.2.1
def CC:aq 168 As:=eo (av 18 [(142,nw),(257,Ze8),(251,CA)] [] [(5,2),(7,3),(10,2),(13,3)] [2,3,4]) (.q (.s (.draw (zR 0 7++[8,9,7,10,11,12,13])) .l)) func168 ⟨nO,Zth,EE,trivial⟩
def Ze9:zh:=ao (ai az) tb λa=>F.On a.1
def Zti:aq 359 Ze9:=eo (av 6 []) (.q .w) func359 trivial
def Z40:zh:=ao (ai (ai az)) ti λa=>F.Oo a.1 a.2.1
def Zld:aq 326 Z40:=eo (av 20 [(359,Ze9)]) (.q (.q (.q (.s (.q (.c (.s zm .w) .l)) (.s zm (.s zm (.s zm .w))))))) func326 ⟨Zti,trivial⟩
def Zea:zh:=ao (ac (Uw (.int .u32)) az) tb λa=>F.Oq a.1
def Ztj:aq 372 Zea:=eo (av 6 []) (.q .w) func372 trivial
def Zeb:zh:=ao (ac (Uw (.int .u32)) (ac (Uw (.int .u32)) az)) ti λa=>F.z1j a.1 a.2.1
def Ztk:aq 348 Zeb:=eo (av 20 [(372,Zea)]) (.q (.q (.q (.s (.q (.c (.s zm .w) .l)) (.s zm (.s zm (.s zm .w))))))) func348 ⟨Ztj,trivial⟩
def zpn:zh:=ao (aJ (aJ az)) ti λa=>F.Q5 a.1 a.2.1
def zx9:aq 305 zpn:=eo (av 41 [(326,Z40),(348,Zeb)]) (.q (.s zm (.s (.q (.b (.loop [(5,.i)] (.s (.q (.c .l .l)) (.s (.b (.s (.draw (zR 0 9)) (.c (.s (.draw (zR 0 10)) .l) .l))) .l))))) .w))) func305 ⟨Zld,Ztk,trivial⟩
def Z41:zh:=ao (ac Ze (ac Ze az)) ti λa=>F.Ot a.1 a.2.1
def Zle:aq 272 Z41:=eo (av 26 [(237,zpm),(326,Z40),(142,nw),(305,zpn)] [] [(18,2),(21,3)] [2,3]) (.q (.s (.draw [0,2,1,3,4,5]) (.s zm (.s (.draw [0,1,2,4,5,3,6,7,8,9]) .l)))) func272 ⟨zx8,Zld,nO,zx9,trivial⟩
def zpo:zh:=ao (ac Zg (ac Zg az)) ti λa=>F.C6 a.1 a.2.1
def zxa:aq 193 zpo:=eo (av 28 [(230,Ar),(168,As),(272,Z41)] [] [(17,2),(19,3),(22,3),(24,2)] [2,3]) (.q (.s (.s (.draw [0,2,1,3,4,5]) (.q (.c (.s zm .w) .l))) (.s (.draw [0,1,2,3,5,6,7,8,4,9,10,11]) .l))) func193 ⟨Cz,CC,Zle,trivial⟩
def Zec:zh:=ao (ac Zg (ac Zg az)) tb λa=>F.z3m a.1 a.2.1
def Ztl:aq 192 Zec:=eo (av 9 [(193,zpo)] [] [] [2,3]) (.q .w) func192 ⟨zxa,trivial⟩
def Zed:zh:=ao (aJ (aJ (Lq 192 az))) tb λa=>F.Zj a.1 a.2.1
def Ztm:aq 191 Zed:=eo (av 32 [(192,Zec)] [] [] [8,9]) (.q (.s zm (.s (.q (.b (.loop [(17,.i)] (.q (.s (.c .l .l) (.s (.b (.q (.q zm))) .l)))))) .w))) func191 ⟨Ztl,trivial⟩
def Z42:zh:=ao (aJ (aJ az)) tb λa=>F.Qa a.1 a.2.1
def Zlf:aq 114 Z42:=eo (av 8 [(191,Zed)]) (.q .w) func114 ⟨Ztm,trivial⟩
def Zee:zh:=ao (aJ (aJ (Lq 114 az))) tb λa=>F.Zf a.1 a.2.1
def Ztn:aq 190 Zee:=eo (av 32 [(114,Z42)]) (.q (.s zm (.s (.q (.b (.loop [(17,.i)] (.q (.s (.c .l .l) (.s (.b (.q (.q zm))) .l)))))) .w))) func190 ⟨Zlf,trivial⟩
def zve:zh:=ao (aJ (aJ az)) tb λa=>F.Ww a.1 a.2.1
def Z7g:aq 113 zve:=eo (av 18 [(190,Zee)]) (.q .w) func113 ⟨Ztn,trivial⟩
def zpp:zh:=ao (ac (Uw (.int .u64)) az) ts λa=>F.Yo a.1
def zxb:aq 252 zpp:=eo (av 10 [(142,nw)]) (.q .w) func252 ⟨nO,trivial⟩
def yD:zh:=ao (ai az) Ze λa=>F.yd a.1
def At:aq 165 yD:=eo (av 15 [(252,zpp),(251,CA)] [] [] [2]) (.q (.q (.join [(3,.leaf (.int .u64))] (.q (.c .l .l)) .w))) func165 ⟨zxb,EE,trivial⟩
def zvf:zh:=ao az Ze λa=>F.Kc
def Z7h:aq 182 zvf:=eo (av 2 [(165,yD)] [] [] [0]) (.q .w) func182 ⟨At,trivial⟩
def lR:zh:=ao (ai az) Zg λa=>F.zr a.1
def my:aq 99 lR:=eo (av 7 [(165,yD),(182,zvf)] [] [] [2]) (.q .w) func99 ⟨At,Z7h,trivial⟩
def zvg:zh:=ao (ai az) ts λa=>F.GA a.1
def Z7i:aq 157 zvg:=eo (av 18 [(99,lR)]) (.q (.q (.s (.q (.b (.loop [(9,.i)] (.q (.s (.c .l .l) (.s (.b .w) .l)))))) .w))) func157 ⟨my,trivial⟩
def Zeg:zh:=ao (ac Ze az) tb λa=>F.OJ a.1
def Zto:aq 236 Zeg:=eo (av 27 [] [] [(4,1),(10,1),(18,1)] [1]) (.q (.q .w)) func236 trivial
def IV:zh:=ao (aJ az) ts λa=>F.Zd a.1
def Na:aq 141 IV:=eo (av 8 []) (.q (.s zm .w)) func141 trivial
def Z43:zh:=ao (aJ az) (Ty.clo 223) λa=>F.yn a.1
def Zlg:aq 144 Z43:=eo (av 4 []) (.q .w) func144 trivial
def Z44:zh:=ao (aJ az) (Uw (.int .u64)) λa=>F.Xu a.1
def Zlh:aq 256 Z44:=eo { P:=prog,n:=16,fH:=[(144,Z43)],kM:=[3],fk:=[(223,(.leaf (.int .u32)))] } (.q (.q (.s (.q (.b (.back [(3,.box [.int .u64])] .l (.b .l)))) .w))) func256 ⟨Zlg,trivial⟩ ⟨Zda,trivial⟩
def Zeh:zh:=ao (aJ (ac (Uw (.int .u32)) az)) (t2 ts ts) λa=>F.z1m a.1 a.2.1
def Ztp:aq 306 Zeh:=eo (av 43 [(142,nw),(252,zpp)]) (.q (.q (.q (.s (.q (.b (.loop [(7,.leaf (.int .u64)),(8,.i)] (.s (.q (.c .l .l)) (.s (.b (.q .w)) .l))))) .w)))) func306 ⟨nO,zxb,trivial⟩
def Z45:zh:=ao (ac (Uw (.int .u32)) az) ti λa=>F.Ov a.1
def Zli:aq 349 Z45:=eo (av 19 []) (.q (.join [(0,.leaf (.int .u32)),(2,.i)] zm (.join [(0,.leaf (.int .u32)),(2,.i)] zm .w))) func349 trivial
def Zei:zh:=ao (ac (Uw (.int .u32)) az) ti λa=>F.Xj a.1
def Ztq:aq 307 Zei:=eo (av 6 [(349,Z45)]) (.q .w) func307 ⟨Zli,trivial⟩
def Zej:zh:=ao (aJ (ai az)) ts λa=>F.Xy a.1 a.2.1
def Ztr:aq 308 Zej:=eo (av 41 []) (.q (.q (.s (.q (.b (.loop [(15,.i)] (.q (.s (.c .l .l) (.s (.b (.q (.q .w))) .l)))))) .w))) func308 trivial
def Zek:zh:=vO (aJ (aJ (ac (Uw (.int .u64)) az))) tb λa=>F.z43 a.1 a.2.1 a.2.2.1
def Zts:aq 309 Zek true:=MX (av 63 []) (.q (.q (.s (.q (.b (.loop [(7,.leaf (.int .u64)),(15,.i)] (.q (.s (.c .l .l) (.s (.b (.q (.q (.q .w)))) .l)))))) (.q (.q .w))))) func309 trivial
def Zel:zh:=vO (aJ (aJ az)) tu λa=>F.z5i a.1 a.2.1
def Ztt:aq 310 Zel true:=MX (av 41 []) (.q (.s (.q (.b (.loop [(4,.leaf (.int .u64)),(9,.i)] (.q (.s (.c .l .l) (.s (.b (.q (.q .w))) .l)))))) .l)) func310 trivial
def Z46:zh:=ao (aJ (ai az)) ts λa=>F.W8 a.1 a.2.1
def Zlj:aq 311 Z46:=eo (av 47 []) (.q (.q (.s (.q (.b (.loop [(13,.i)] (.q (.s (.c .l .l) (.join [] (.b (.q (.q (.q (.c (.draw (zR 0 17)) .l))))) .l)))))) .w))) func311 trivial
def zvh:zh:=ao (aJ (aJ az)) (t2 ts ts) λa=>F.Xt a.1 a.2.1
def Z7j:aq 253 zvh:=eo (av 177 [(305,zpn),(141,IV),(256,Z44),(252,zpp),(306,Zeh),(307,Zei),(308,Zej),(142,nw),(309,Zek),(310,Zel),(311,Z46)] [309,310]) (.q (.s (.b (.q (.c .w (.q (.c (.q (.s (.draw [0,1,2,4,5,6,3,7,8,9]) .l)) zm))))) (.q (.q (.q (.q (.s (.draw (zR 0 14)) (.s (.q (.b (.loop [(15,.i)] (.s (.q (.c .l .l)) (.s (.b (.s (.draw (zR 0 18)) (.s (.draw (zR 0 8)) (.join [(17,.leaf (.int .u64))] (.b (.loop [(17,.leaf (.int .u64)),(18,.leaf (.int .u64))] (.join [] (.q (.c .l .l)) (.b (.q (.q (.q (.c .l .l)))))))) (.join [(17,.leaf (.int .u64))] zm .l))))) .l))))) (.s (.draw [0,2,3,4,6,1,5,7,8,9,10]) .l))))))))) func253 ⟨zx9,Na,Zlh,zxb,Ztp,Ztq,Ztr,nO,Zts,Ztt,Zlj,trivial⟩
def zvi:zh:=ao (ac Ze (ac Ze az)) Ze λa=>F.C7 a.1 a.2.1
def Z7k:aq 167 zvi:=eo (av 57 [(142,nw),(141,IV),(251,CA),(256,Z44),(252,zpp),(253,zvh)] [] [(11,2),(14,3)] [2,3,4]) (.q (.s (.draw [0,1,3,4,2,5,6,7]) (.join [(5,.s),(6,.s)] (.b (.loop [(5,.s),(6,.s)] (.join [] (.q (.c .l .l)) (.b .w)))) (.s zm (.q (.s (.b (.loop [(9,.leaf (.int .u64)),(10,.leaf (.int .u64))] (.s (.q (.c .l .l)) (.b (.draw (zR 0 6)))))) .w)))))) func167 ⟨nO,Na,EE,Zlh,zxb,Z7j,trivial⟩
def zpq:zh:=ao (ac Ze az) tb λa=>F.Qw a.1
def zxc:aq 238 zpq:=eo (av 19 [] [] [(3,1),(7,1),(13,1)] [1]) (.q .w) func238 trivial
def Z47:zh:=ao (ac Zg az) tb λa=>F.OK a.1
def Zlk:aq 156 Z47:=eo (av 25 [(236,Zeg),(237,zpm),(167,zvi),(238,zpq)] [] [(3,1),(7,1),(12,1),(18,1),(20,1)] [1]) (.q .w) func156 ⟨Zto,zx8,Z7k,zxc,trivial⟩
end Den
end

noncomputable section
set_option maxRecDepth 100000
namespace Den
open Go Go.Proofs.Tryz
def Zem:zh:=ao (ac Zg az) tb λa=>F.z9f a.1
def Ztu:aq 300 Zem:=eo (av 6 [(156,Z47)] [] [] [1]) (.q .w) func300 ⟨Zlk,trivial⟩
def Zen:zh:=ao (aJ (Lq 300 az)) ti λa=>F.yp a.1
def Ztv:aq 298 Zen:=eo (av 19 [(300,Zem)]) (.q (.s (.q (.b (.loop [(8,.i)] (.q (.s (.c .l .l) (.s (.b (.q zm)) .l)))))) .w)) func298 ⟨Ztu,trivial⟩
def Zeo:zh:=ao (aJ (Lq 300 az)) tb λa=>F.yi a.1
def Ztw:aq 233 Zeo:=eo (av 9 [(298,Zen)]) (.q .w) func233 ⟨Ztv,trivial⟩
def zvj:zh:=ao (aJ (ai az)) tb λa=>F.KH a.1 a.2.1
def Z7l:aq 235 zvj:=eo (av 14 [(233,Zeo)]) (.q .w) func235 ⟨Ztw,trivial⟩
def zvk:zh:=ao (aJ az) tb λa=>F.Vt a.1
def Z7m:aq 155 zvk:=eo (av 18 [(235,zvj)]) (.q (.s (.q (.b (.loop [(7,.i)] (.q (.s (.c .l .l) (.s (.b (.q zm)) .l)))))) .w)) func155 ⟨Z7l,trivial⟩
def EF:zh:=ao (aJ (ac Zg az)) ts λa=>F.Y5 a.1 a.2.1
def IW:aq 79 EF:=eo (av 22 [(157,zvg),(155,zvk),(156,Z47)] [] [] [3]) (.q (.join [] zm (.q (.q .w)))) func79 ⟨Z7i,Z7m,Zlk,trivial⟩
def Zep:zh:=ao (ac Zg az) tb λa=>F.za0 a.1
def Ztx:aq 234 Zep:=eo (av 6 [(230,Ar)] [] [] [1]) (.q .w) func234 ⟨Cz,trivial⟩
def Zeq:zh:=ao (aJ (Lq 234 az)) ti λa=>F.yx a.1
def Zty:aq 298 Zeq:=eo (av 19 [(234,Zep)]) (.q (.s (.q (.b (.loop [(8,.i)] (.q (.s (.c .l .l) (.s (.b (.q zm)) .l)))))) .w)) func298 ⟨Ztx,trivial⟩
def Zer:zh:=ao (aJ (Lq 234 az)) tb λa=>F.yo a.1
def Ztz:aq 233 Zer:=eo (av 9 [(298,Zeq)]) (.q .w) func233 ⟨Zty,trivial⟩
def Nb:zh:=ao (aJ az) tb λa=>F.Vi a.1
def zs0:aq 154 Nb:=eo (av 6 [(233,Zer)]) (.q .w) func154 ⟨Ztz,trivial⟩
def Nc:zh:=ao (aJ az) ts λa=>F.Zl a.1
def zs1:aq 152 Nc:=eo (av 8 []) (.q (.s zm .w)) func152 trivial
def zvl:zh:=ao (aJ (aJ az)) ts λa=>F.KJ a.1 a.2.1
def Z7n:aq 118 zvl:=eo (av 19 [(152,Nc),(99,lR)] [] [] [16]) (.q (.q (.s (.b (.loop [(5,.s)] (.s (.q (.c .l .l)) (.b .l)))) .w))) func118 ⟨zs1,my,trivial⟩
def CD:zh:=ao (aJ (aJ az)) tb λa=>F.Q0 a.1 a.2.1
def EG:aq 248 CD:=eo (av 14 [(155,zvk),(235,zvj)]) (.q .w) func248 ⟨Z7m,Z7l,trivial⟩
def zvm:zh:=ao (aJ (aJ (aJ az))) tb λa=>F.KO a.1 a.2.1 a.2.2.1
def Z7o:aq 176 zvm:=eo (av 17 [(248,CD),(235,zvj)]) (.q .w) func176 ⟨EG,Z7l,trivial⟩
def zvn:zh:=ao (aJ az) (t2 ts ts) λa=>F.KW a.1
def Z7p:aq 268 zvn:=eo (av 15 []) (.q (.s (.draw (zR 0 13)) .l)) func268 trivial
def zvo:zh:=ao (aJ az) (t2 ts ts) λa=>F.Dj a.1
def Z7q:aq 269 zvo:=eo (av 14 []) (.q (.s (.draw (zR 0 12)) .l)) func269 trivial
def zvp:zh:=ao (aJ (aJ az)) ts λa=>F.FD a.1 a.2.1
def Z7r:aq 254 zvp:=eo (av 58 [] [] [] [45,55]) (.q (.join [(0,.s),(1,.s)] (.q (.c .l .l)) (.q (.q (.s (.q (.b (.loop [(5,.s),(6,.leaf (.int .u64)),(22,.i)] (.q (.s (.c .l .l) (.s (.b (.q (.q (.join [(6,.leaf (.int .u64))] (.q (.c .l .l)) .w)))) .l)))))) (.s (.q (.c .l .l)) .w)))))) func254 trivial
def Z48:zh:=ao (aJ (aJ az)) ts λa=>F.FF a.1 a.2.1
def Zll:aq 255 Z48:=eo (av 45 [(142,nw)]) (.q (.q (.q (.s (.q (.b (.loop [(6,.leaf (.int .u64)),(15,.i)] (.q (.s (.c .l .l) (.s (.b (.q (.q (.join [(9,.leaf (.int .u64))] (.q (.c .l .l)) .w)))) .l)))))) .w)))) func255 ⟨nO,trivial⟩
def Z49:zh:=ao (ac Ze (ac Ze az)) Ze λa=>F.Kg a.1 a.2.1
def Zlm:aq 320 Z49:=eo (av 40 [(142,nw),(254,zvp),(251,CA),(305,zpn),(255,Z48)] [] [(7,2),(10,3),(13,2),(15,3),(18,2),(28,3),(34,2)] [2,3,4]) (.q (.s (.draw [0,1,3,4,2,5,6,7]) (.s (.q (.c (.s (.draw (zR 0 7)) .l) .l)) (.s (.q (.c (.s (.draw (zR 0 7)) .l) .l)) (.s (.draw (zR 0 7)) .l))))) func320 ⟨nO,Z7r,EE,zx9,Zll,trivial⟩
def Nd:zh:=ao (ac Ze (ac Ze az)) (t3 Ze Ze ti) λa=>F.qp a.1 a.2.1
def zs2:aq 166 Nd:=eo (av 53 [(142,nw),(253,zvh),(251,CA),(254,zvp),(255,Z48)] [] [(10,3),(19,2),(26,2),(28,3),(42,2),(44,3),(49,3)] [2,3,4,5]) (.q (.q (.s zm (.q (.join [(8,.s),(9,.s)] zm (.s (.draw (zR 0 6++[7,8,9,6,10,11,12,13])) .l)))))) func166 ⟨nO,Z7j,EE,Z7r,Zll,trivial⟩
def Zes:zh:=ao (ac Ze (ac Ze az)) Ze λa=>F.Ox a.1 a.2.1
def Zu0:aq 340 Zes:=eo (av 19 [(238,zpq),(166,Nd)] [] [] [2,3,4,5,6]) (.q (.s zm (.q .w))) func340 ⟨zxc,zs2,trivial⟩
def Z4a:zh:=ao (ac Ze az) Ze λa=>F.Oy a.1
def Zln:aq 303 Z4a:=eo (av 11 [(142,nw),(141,IV),(251,CA)] [] [(3,1),(6,1)] [1,2]) (.q (.s (.draw (zR 0 9)) .l)) func303 ⟨nO,Na,EE,trivial⟩
def zpr:zh:=ao (ac Ze (ac Ze az)) Zg λa=>F.Wb a.1 a.2.1
def zxd:aq 291 zpr:=eo (av 20 [(167,zvi),(340,Zes),(303,Z4a)] [] [(9,3)] [2,3,4,5]) (.q (.q (.join [(5,.box [.bool,.sl])] (.q (.c .l .l)) (.s (.draw [0,1,3,4,2,5,6,7]) .l)))) func291 ⟨Z7k,Zu0,Zln,trivial⟩
def CE:zh:=ao (ac Zg (ac Zg az)) Zg λa=>F.Y9 a.1 a.2.1
def EH:aq 264 CE:=eo (av 39 [(168,As),(320,Z49),(291,zpr),(238,zpq),(182,zvf)] [] [(6,2),(10,3),(14,2),(16,3),(21,2),(23,3),(26,3),(28,2),(33,2),(35,3)] [2,3,4,5]) (.q (.join [(4,.box [.bool,.sl,.bool,.sl])] zm (.s (.draw [0,1,2,3,5,6,7,8,11,4,9,10,12]) (.s (.draw (zR 0 8)) .l)))) func264 ⟨CC,Zlm,zxd,zxc,Z7h,trivial⟩
def zps:zh:=ao (aJ (aJ az)) ts λa=>F.Dk a.1 a.2.1
def zxe:aq 177 zps:=eo (av 29 [(264,CE)]) (.q (.q (.s (.q (.b (.loop [(12,.i)] (.q (.s (.c .l .l) (.s (.b (.q (.draw (zR 0 13)))) .l)))))) .w))) func177 ⟨EH,trivial⟩
def CF:zh:=ao (ac Zg (ac Zg az)) Zg λa=>F.yl a.1 a.2.1
def EI:aq 232 CF:=eo (av 31 [(168,As),(291,zpr),(238,zpq),(182,zvf)] [] [(5,2),(9,3),(13,2),(15,3),(20,2),(22,3),(25,2),(27,3)] [2,3,4]) (.q (.join [(4,.box [.bool,.sl,.bool,.sl])] zm (.s (.draw [0,1,2,3,5,6,7,8,4,9,10,11]) .l))) func232 ⟨CC,zxd,zxc,Z7h,trivial⟩
def Z2g:cn (Sl×Sl×Sl×Unit):=(aJ (aJ (aJ az)))
def Z2w:Ty Sl:=ts
def zvq:zh:=ao Z2g Z2w λa=>F.Dl a.1 a.2.1 a.2.2.1
def Zs9(n:Nat):bX:=(av 74 [(268,zvn),(269,zvo),(183,ao Z2g Z2w (λa=>F.Wd n a.1 a.2.1 a.2.2.1)),(177,zps),(232,CF),(154,Nb),(157,zvg)])
def Zn5:∃fn,prog.funcs[183]?=some fn/\fn.body.isNone=false/\(fn.name == "runtime.NumGoroutine")=false:=⟨_,func183,rfl,by decide⟩
set_option maxHeartbeats 4000000 in
def Znd:∀n a K D w,Sub D w->F.Wd n a.1 a.2.1 a.2.2.1 K D->Calls prog 183 (Z2g.up a).toArray w (lS (λv h=>Z2w.dn v λr=>K r h) D w)
 | 0,_,_,_,_,_,h=>h.elim
 | n+1,a,K,D,w,hs,h=>sA (C:=Zs9 n) (F:=λa=>F.Wd (n+1) a.1 a.2.1 a.2.2.1) (fn:=f183) (c:=bd f183) (an:=(.seq .leaf (.join [] (.block (.seq .leaf (.cond (.seq (.draw (zR 0 9)) .leaf) (.seq .leaf (.cond (.seq .leaf .leaf) .leaf))))) (.seq .leaf (.seq .leaf (.seq .leaf (.seq .leaf (.seq .leaf .leaf)))))))) ⟨Z7p,Z7q,(yq Zn5 (Znd n)),zxe,EI,zs0,Z7i,trivial⟩ trivial func183 rfl rfl (λ_=>rfl) (by intro a K D;kernel_rfl) a K D w hs h
def Z7s:aq 183 zvq false:=yq Zn5 (λa K D w hs h=>h.elim λm h=>Znd m a K D w hs h)
def EJ:zh:=ao (aJ (aJ (aJ az))) ts λa=>F.W6 a.1 a.2.1 a.2.2.1
def IX:aq 101 EJ:=eo (av 16 [(176,zvm),(183,zvq)]) (.q (.s zm .w)) func101 ⟨Z7o,Z7s,trivial⟩
def zpt:zh:=ao (aJ (aJ (aJ az))) ts λa=>F.Dm a.1 a.2.1 a.2.2.1
def zxf:aq 102 zpt:=eo (av 15 [(176,zvm),(177,zps)]) (.q (.s zm .w)) func102 ⟨Z7o,zxe,trivial⟩
def Z2h:cn (aR×Sl×Unit):=(ac z9g (aJ az))
def Z2x:Ty Sl:=ts
def Z4b:zh:=ao Z2h Z2x λa=>F.qr a.1 a.2.1
def Zsa(n:Nat):bX:=(av 60 [(79,EF),(196,ao Z2h Z2x (λa=>F.Zv n a.1 a.2.1)),(154,Nb),(118,zvl),(101,EJ),(102,zpt)] [] [(12,2),(39,2),(46,2),(48,2),(55,2)] [2])
def Zn6:∃fn,prog.funcs[196]?=some fn/\fn.body.isNone=false/\(fn.name == "runtime.NumGoroutine")=false:=⟨_,func196,rfl,by decide⟩
set_option maxHeartbeats 4000000 in
def Zne:∀n a K D w,Sub D w->F.Zv n a.1 a.2.1 K D->Calls prog 196 (Z2h.up a).toArray w (lS (λv h=>Z2x.dn v λr=>K r h) D w)
 | 0,_,_,_,_,_,h=>h.elim
 | n+1,a,K,D,w,hs,h=>sA (C:=Zsa n) (F:=λa=>F.Zv (n+1) a.1 a.2.1) (fn:=f196) (c:=bd f196) (an:=(.seq .leaf (.seq (.seq .leaf (.cond (.seq (.draw (zR 0 7)) .leaf) .leaf)) (.seq .leaf (.seq (.block (.loop [(6,.i)] (.seq (.seq .leaf (.cond .leaf .leaf)) (.block .leaf)))) (.seq (.draw (zR 0 6)) (.seq (.seq .leaf (.cond (.seq .leaf .leaf) .leaf)) (.seq (.draw (zR 0 6++zR 7 7++[6,14,15,16])) (.seq .leaf .leaf))))))))) ⟨IW,(yq Zn6 (Zne n)),zs0,Z7n,IX,zxf,trivial⟩ trivial func196 rfl rfl (λ_=>rfl) (by intro a K D;kernel_rfl) a K D w hs h
def Zlo:aq 196 Z4b false:=yq Zn6 (λa K D w hs h=>h.elim λm h=>Zne m a K D w hs h)
def Zet:zh:=ao (ac Ze az) ti λa=>F.z9l a.1
def Zu1:aq 397 Zet:=eo (av 22 [(142,nw),(349,Z45)] [] [(4,1)] [1]) (.q (.q (.s zm .w))) func397 ⟨nO,Zli,trivial⟩
def Zeu:zh:=ao (ai az) ts λa=>F.z5j a.1
def Zu2:aq 398 Zeu:=eo (av 16 []) (.q (.q (.q .w))) func398 trivial
def Zev:zh:=ao (aJ az) ts λa=>F.z9m a.1
def Zu3:aq 399 Zev:=eo (av 6 [(311,Z46),(142,nw)]) (.q .w) func399 ⟨Zlj,nO,trivial⟩
def Z4c:zh:=ao (ac Ze az) (t2 Ze ti) λa=>F.FJ a.1
def Zlp:aq 395 Z4c:=eo (av 42 [(237,zpm),(397,Zet),(398,Zeu),(142,nw),(253,zvh),(254,zvp),(399,Zev),(305,zpn),(251,CA)] [] [(24,1)] [1,2]) (.q (.s (.q (.b (.q (.c .w zm)))) (.q (.q (.b (.loop [(2,.box [.bool,.sl]),(5,.s)] (.b (.q (.q (.s zm .l)))))))))) func395 ⟨zx8,Zu1,Zu2,nO,Z7j,Z7r,Zu3,zx9,EE,trivial⟩
def Zew:zh:=ao (ac Ze az) (t2 Ze tb) λa=>F.QI a.1
def Zu4:aq 393 Zew:=eo (av 22 [(395,Z4c),(168,As),(272,Z41)] [] [] [1,2,4]) (.q (.q (.s (.draw (zR 0 6++[7,6,8,9,10,11,12])) .l))) func393 ⟨Zlp,CC,Zle,trivial⟩
def Zex:zh:=ao (ac Zg az) (t2 Zg tb) λa=>F.z8c a.1
def Zu5:aq 384 Zex:=eo (av 30 [(393,Zew)] [] [(9,1),(15,1)] [1,2,4,6]) (.q (.q (.q (.join [(2,.box [.bool,.sl,.bool,.sl])] zm .w)))) func384 ⟨Zu4,trivial⟩
def Zey:zh:=ao (aJ (ai az)) ts λa=>F.Qk a.1 a.2.1
def Zu6:aq 394 Zey:=eo (av 27 []) (.q (.join [] (.q (.c .l .l)) (.s (.q (.q (.c .l .l))) .w))) func394 trivial
def Zez:zh:=ao (aJ az) ts λa=>F.Z0 a.1
def Zu7:aq 385 Zez:=eo (av 36 [(394,Zey)]) (.q (.q (.s (.q (.b (.loop [(3,.i),(11,.i)] (.q (.s (.c .l .l) (.join [(3,.i)] (.b (.q (.q (.q (.c .l .l))))) .l)))))) (.q (.s (.q (.b (.loop [(6,.s),(27,.i)] (.q (.s (.c .l .l) (.s (.b .w) .l)))))) .w))))) func385 ⟨Zu6,trivial⟩
def Z4d:zh:=ao (ac Ze az) tb λa=>F.Ou a.1
def Zlq:aq 290 Z4d:=eo (av 7 [] [] [(3,1)] [1]) (.q .w) func290 trivial
def zpu:zh:=ao (ac Zg (ac Zg az)) (t2 Zg ti) λa=>F.FG a.1 a.2.1
def zxg:aq 229 zpu:=eo (av 21 [(290,Z4d),(168,As),(291,zpr)] [] [(6,3),(10,2),(12,3),(15,2),(17,3)] [2,3,4]) (.q (.s zm (.s (.draw [0,1,2,3,5,6,7,8,4,9,10,11,12]) .l))) func229 ⟨Zlq,CC,zxd,trivial⟩
end Den
end

noncomputable section
set_option maxRecDepth 100000
namespace Den
open Go Go.Proofs.Tryz
def Nf:zh:=ao (ac Zg az) Zg λa=>F.Wq a.1
def zs3:aq 245 Nf:=eo (av 9 [(303,Z4a)] [] [(3,1),(6,1)] [1,2]) (.q (.s (.draw [0,1,3,4,2,5,6]) .l)) func245 ⟨Zln,trivial⟩
def zpv:zh:=ao (aJ az) ts λa=>F.Dn a.1
def zxh:aq 178 zpv:=eo (av 23 [(245,Nf)] [] [] [5]) (.q (.q (.s (.q (.b (.loop [(11,.i)] (.q (.s (.c .l .l) (.s (.b .w) .l)))))) .w))) func178 ⟨zs3,trivial⟩
def Z4e:zh:=ao (aJ (aJ az)) ts λa=>F.QJ a.1 a.2.1
def Zls:aq 325 Z4e:=eo (av 32 [(268,zvn),(269,zvo),(183,zvq),(178,zpv),(177,zps)]) (.q (.q (.q .w))) func325 ⟨Z7p,Z7q,Z7s,zxh,zxe,trivial⟩
def Z2i:cn (Sl×Sl×Unit):=(aJ (aJ az))
def Z2y:Ty (Sl×Bool):=(t2 ts tb)
def Zf0:zh:=ao Z2i Z2y λa=>F.zck a.1 a.2.1
def Zsb(n:Nat):bX:=(av 59 [(99,lR),(229,zpu),(268,zvn),(325,Z4e),(270,ao Z2i Z2y (λa=>F.Xx n a.1 a.2.1)),(269,zvo),(183,zvq),(178,zpv)] [] [] [6])
def Zn7:∃fn,prog.funcs[270]?=some fn/\fn.body.isNone=false/\(fn.name == "runtime.NumGoroutine")=false:=⟨_,func270,rfl,by decide⟩
set_option maxHeartbeats 4000000 in
def Znf:∀n a K D w,Sub D w->F.Xx n a.1 a.2.1 K D->Calls prog 270 (Z2i.up a).toArray w (lS (λv h=>Z2y.dn v λr=>K r h) D w)
 | 0,_,_,_,_,_,h=>h.elim
 | n+1,a,K,D,w,hs,h=>sA (C:=Zsb n) (F:=λa=>F.Xx (n+1) a.1 a.2.1) (fn:=f270) (c:=bd f270) (an:=(.seq .leaf (.seq (.seq .leaf (.cond (.seq (.draw [1,2,3,8,0,4,5,6,7,9,10]) (.seq .leaf .leaf)) .leaf)) (.seq .leaf (.seq .leaf (.seq (.seq .leaf (.cond (.seq .leaf .leaf) .leaf)) (.seq .leaf (.seq .leaf .leaf)))))))) ⟨my,zxg,Z7p,Zls,(yq Zn7 (Znf n)),Z7q,Z7s,zxh,trivial⟩ trivial func270 rfl rfl (λ_=>rfl) (by intro a K D;kernel_rfl) a K D w hs h
def Zu8:aq 270 Zf0 false:=yq Zn7 (λa K D w hs h=>h.elim λm h=>Znf m a K D w hs h)
def Z4f:zh:=ao (aJ (aJ az)) (t2 ts ti) λa=>F.KX a.1 a.2.1
def Zlt:aq 186 Z4f:=eo (av 21 [(248,CD),(270,Zf0)]) (.q (.s zm (.q (.s zm .w)))) func186 ⟨EG,Zu8,trivial⟩
def Zf1:zh:=ao (aJ (aJ az)) ts λa=>F.zfk a.1 a.2.1
def Zu9:aq 386 Zf1:=eo (av 17 [(325,Z4e),(248,CD)]) (.q (.join [] zm .w)) func386 ⟨Zls,EG,trivial⟩
def IY:zh:=ao (aJ (aJ (aJ az))) ts λa=>F.Be a.1 a.2.1 a.2.2.1
def Ng:aq 93 IY:=eo (av 16 [(176,zvm),(178,zpv),(177,zps)]) (.q (.s zm .w)) func93 ⟨Z7o,zxh,zxe,trivial⟩
def Z4g:zh:=ao (ac Ze az) Ze λa=>F.Km a.1
def Zlu:aq 289 Z4g:=eo (av 10 [(142,nw),(141,IV),(251,CA)] [] [(3,1),(5,1)] [1,2]) (.q (.s (.draw (zR 0 8)) .l)) func289 ⟨nO,Na,EE,trivial⟩
def EK:zh:=ao (ac Ze (ac Ze az)) (t2 Zg ti) λa=>F.Qm a.1 a.2.1
def IZ:aq 220 EK:=eo (av 16 [(289,Z4g),(290,Z4d),(291,zpr)] [] [] [2,3,4]) (.q (.s (.draw [0,2,1,3,4,5]) (.s zm .w))) func220 ⟨Zlu,Zlq,zxd,trivial⟩
def zpw:zh:=ao (ai (ai az)) Zg λa=>F.FT a.1 a.2.1
def zxi:aq 139 zpw:=eo (av 19 [(165,yD),(220,EK),(99,lR)] [] [] [4,5]) (.q (.q (.s zm .w))) func139 ⟨At,IZ,my,trivial⟩
def Zf3:zh:=ao (aJ (aJ az)) ts λa=>F.zi8 a.1 a.2.1
def Zua:aq 387 Zf3:=eo (av 11 [(139,zpw),(79,EF),(101,EJ)]) (.q .w) func387 ⟨zxi,IW,IX,trivial⟩
def Z2j:cn (Sl×Sl×Unit):=(aJ (aJ az))
def Z2z:Ty (Sl×Bool):=(t2 ts tb)
def Z4h:zh:=ao Z2j Z2z λa=>F.zgy a.1 a.2.1
def Zsc(n:Nat):bX:=(av 154 [(384,Zex),(154,Nb),(360,ao Z2j Z2z (λa=>F.Qx n a.1 a.2.1)),(99,lR),(79,EF),(385,Zez),(186,Z4f),(101,EJ),(386,Zf1),(102,zpt),(93,IY),(387,Zf3)] [] [] [6])
def Zn8:∃fn,prog.funcs[360]?=some fn/\fn.body.isNone=false/\(fn.name == "runtime.NumGoroutine")=false:=⟨_,func360,rfl,by decide⟩
set_option maxHeartbeats 4000000 in
def Zng:∀n a K D w,Sub D w->F.Qx n a.1 a.2.1 K D->Calls prog 360 (Z2j.up a).toArray w (lS (λv h=>Z2z.dn v λr=>K r h) D w)
 | 0,_,_,_,_,_,h=>h.elim
 | n+1,a,K,D,w,hs,h=>sA (C:=Zsc n) (F:=λa=>F.Qx (n+1) a.1 a.2.1) (fn:=f360) (c:=bd f360) (an:=(.seq .leaf (.seq (.seq .leaf (.cond (.seq .leaf (.seq .leaf .leaf)) .leaf)) (.seq (.draw (zR 0 13)) (.seq (.draw (zR 0 12)) (.seq (.seq .leaf (.cond (.seq (.seq .leaf (.seq .leaf (.cond (.seq .leaf .leaf) .leaf))) (.seq .leaf (.seq (.seq .leaf (.cond (.seq .leaf .leaf) .leaf)) (.seq .leaf (.seq .leaf .leaf))))) .leaf)) (.seq .leaf (.seq (.seq .leaf (.cond (.seq .leaf .leaf) .leaf)) (.seq (.seq .leaf (.block (.loop [(119,.i)] (.seq .leaf (.seq (.cond .leaf .leaf) (.join [] (.block (.seq .leaf (.seq .leaf (.join [] (.seq .leaf (.cond .leaf .leaf)) (.seq .leaf (.seq .leaf .leaf)))))) .leaf)))))) (.seq .leaf .leaf)))))))))) ⟨Zu5,zs0,(yq Zn8 (Zng n)),my,IW,Zu7,Zlt,IX,Zu9,zxf,Ng,Zua,trivial⟩ trivial func360 rfl rfl (λ_=>rfl) (by intro a K D;kernel_rfl) a K D w hs h
def Zlv:aq 360 Z4h false:=yq Zn8 (λa K D w hs h=>h.elim λm h=>Zng m a K D w hs h)
def Z2k:cn (Sl×Sl×Unit):=(aJ (aJ az))
def Z30:Ty Int:=ti
def zpx:zh:=ao Z2k Z30 λa=>F.GC a.1 a.2.1
def Zsd(n:Nat):bX:=(av 75 [(230,Ar),(163,ao Z2k Z30 (λa=>F.W4 n a.1 a.2.1)),(101,EJ),(93,IY)])
def Zn9:∃fn,prog.funcs[163]?=some fn/\fn.body.isNone=false/\(fn.name == "runtime.NumGoroutine")=false:=⟨_,func163,rfl,by decide⟩
set_option maxHeartbeats 4000000 in
def Znh:∀n a K D w,Sub D w->F.W4 n a.1 a.2.1 K D->Calls prog 163 (Z2k.up a).toArray w (lS (λv h=>Z30.dn v λr=>K r h) D w)
 | 0,_,_,_,_,_,h=>h.elim
 | n+1,a,K,D,w,hs,h=>sA (C:=Zsd n) (F:=λa=>F.W4 (n+1) a.1 a.2.1) (fn:=f163) (c:=bd f163) (an:=(.seq .leaf (.seq (.seq .leaf (.cond (.seq .leaf .leaf) .leaf)) (.seq .leaf (.seq (.draw (zR 0 12)) (.seq .leaf (.join [] (.block (.seq .leaf (.cond (.seq .leaf .leaf) (.seq .leaf (.cond (.seq .leaf .leaf) .leaf))))) (.seq (.draw ([0,1,2,3]++zR 5 8++[4,13,14,15,16])) (.seq .leaf .leaf))))))))) ⟨Cz,(yq Zn9 (Znh n)),IX,Ng,trivial⟩ trivial func163 rfl rfl (λ_=>rfl) (by intro a K D;kernel_rfl) a K D w hs h
def zxj:aq 163 zpx false:=yq Zn9 (λa K D w hs h=>h.elim λm h=>Znh m a K D w hs h)
def Zf4:zh:=ao (aJ az) tb λa=>F.zid a.1
def Zub:aq 249 Zf4:=eo (av 25 [(99,lR),(79,EF),(248,CD),(163,zpx)]) (.q (.s zm (.s (.q (.b (.loop [(13,.i)] (.q (.s (.c .l .l) (.s (.b (.q zm)) .l)))))) .w))) func249 ⟨my,IW,EG,zxj,trivial⟩
def zpy:zh:=ao (aJ (aJ az)) tb λa=>F.Dp a.1 a.2.1
def zxk:aq 162 zpy:=eo (av 20 [(248,CD),(249,Zf4)]) (.q (.s (.q (.b (.loop [(9,.i)] (.q (.s (.c .l .l) (.s (.b (.q zm)) .l)))))) .w)) func162 ⟨EG,Zub,trivial⟩
def Nh:zh:=ao (aJ (aJ az)) ti λa=>F.Dq a.1 a.2.1
def zs4:aq 100 Nh:=eo (av 13 [(162,zpy),(163,zpx)]) (.q (.s zm .w)) func100 ⟨zxk,zxj,trivial⟩
def Z4i:zh:=ao (aJ (aJ az)) ts λa=>F.QK a.1 a.2.1
def Zlw:aq 188 Z4i:=eo (av 11 [(248,CD),(178,zpv)]) (.q (.s zm .w)) func188 ⟨EG,zxh,trivial⟩
def Zf5:zh:=ao (aJ (aJ az)) (t2 ts tb) λa=>F.z8g a.1 a.2.1
def Zuc:aq 328 Zf5:=eo (av 24 [(360,Z4h),(100,Nh),(188,Z4i)]) (.q (.q (.s zm (.join [(6,.s)] (.q (.c .l .l)) .w)))) func328 ⟨Zlv,zs4,Zlw,trivial⟩
def Zf6:zh:=ao (aJ az) ts λa=>F.QM a.1
def Zud:aq 329 Zf6:=eo (av 23 [(152,Nc)]) (.q (.q (.s (.q (.b (.loop [(11,.i)] (.q (.s (.c .l .l) (.s (.b .w) .l)))))) .w))) func329 ⟨zs1,trivial⟩
def Zf7:zh:=ao (aJ (ai az)) ts λa=>F.zfl a.1 a.2.1
def Zue:aq 330 Zf7:=eo (av 29 [(157,zvg),(99,lR),(155,zvk)]) (.q (.join [] zm (.q (.s (.draw (zR 0 6)) .w)))) func330 ⟨Z7i,my,Z7m,trivial⟩
def Zf8:zh:=ao (aJ az) tb λa=>F.z9x a.1
def Zuf:aq 327 Zf8:=eo (av 38 [(360,Z4h),(248,CD),(100,Nh)]) (.q (.s (.q (.b (.loop [(9,.i)] (.q (.s (.c .l .l) (.s (.b (.q (.join [] zm (.q zm)))) .l)))))) .w)) func327 ⟨Zlv,EG,zs4,trivial⟩
def Zf9:zh:=ao (aJ (aJ az)) (t3 ts ts ti) λa=>F.zc3 a.1 a.2.1
def Zug:aq 273 Zf9:=eo (av 49 [(328,Zf5),(329,Zf6),(152,Nc),(330,Zf7),(248,CD),(327,Zf8),(100,Nh)] [] [] [42]) (.q (.join [] (.b (.q (.c .w zm))) (.s (.q zm) (.s zm (.q .w))))) func273 ⟨Zuc,Zud,zs1,Zue,EG,Zuf,zs4,trivial⟩
def Z4j:zh:=ao (aJ (aJ az)) (t2 z9g ti) λa=>F.QN a.1 a.2.1
def Zlx:aq 195 Z4j:=eo (av 44 [(196,Z4b),(273,Zf9)] [] [(21,6),(35,6),(40,6),(41,6)] [4,6,38]) (.q (.q (.s (.q (.b (.loop [(4,.box [.sl,.sl]),(6,.box [.sl,.sl]),(16,.i)] (.q (.s (.c .l .l) (.s (.b (.q (.s (.draw (zR 0 13)) (.s zm .l)))) .l)))))) .w))) func195 ⟨Zlo,Zug,trivial⟩
def Zfa:zh:=ao (aJ az) (t2 ts ti) λa=>F.KY a.1
def Zuh:aq 194 Zfa:=eo (av 41 [(113,zve),(195,Z4j)] [] [(17,6),(25,7),(29,6),(33,6),(37,6)] [6,7]) (.q (.q (.s (.q (.b (.loop [(4,.s),(11,.i)] (.q (.s (.c .l .l) (.join [(4,.s)] (.b (.q (.b (.q (.c .l (.q (.c .l (.q (.s zm .l))))))))) .l)))))) .w))) func194 ⟨Z7g,Zlx,trivial⟩
def Z4k:zh:=ao (ac Zg az) Zg λa=>F.QO a.1
def Zly:aq 258 Z4k:=eo (av 16 [(141,IV)] [] [(3,1),(4,1),(7,1),(8,1),(11,1),(12,1),(13,1),(14,1)] [1,2]) (.q (.s (.draw [0,1,2,4,5,6,3,8,9,7,10,11,12,13]) .w)) func258 ⟨Na,trivial⟩
def Zfb:zh:=ao (aJ az) ts λa=>F.QP a.1
def Zui:aq 271 Zfb:=eo (av 23 [(258,Z4k)] [] [] [5]) (.q (.q (.s (.q (.b (.loop [(11,.i)] (.q (.s (.c .l .l) (.s (.b .w) .l)))))) .w))) func271 ⟨Zly,trivial⟩
def Z4l:zh:=ao (ac ze az) ze λa=>F.QQ a.1
def Zlz:aq 187 Z4l:=eo (av 26 [(271,Zfb)] [] [(6,1),(10,1),(17,3),(23,3)] [1,2,3,21]) (.q (.q (.s (.q (.b (.loop [(3,.box [.sl,.sl]),(13,.i)] (.q (.s (.c .l .l) (.s (.b (.q (.draw (zR 0 8)))) .l)))))) .w))) func187 ⟨Zui,trivial⟩
def zpz:zh:=ao (aJ az) (t2 ts ti) λa=>F.V2 a.1
def zxl:aq 115 zpz:=eo (av 59 [(194,Zfa),(187,Z4l),(113,zve),(118,zvl),(195,Z4j),(196,Z4b)] [] [(29,8),(33,8),(36,9),(39,8),(48,8),(51,9)] [8,9,10,55]) (.q (.q (.s zm (.q (.s (.q (.b (.loop [(6,.s),(22,.i)] (.q (.s (.c .l .l) (.s (.b (.q (.q (.join [(9,.box [.sl,.sl])] (.q (.c .l (.q (.s zm .l)))) .l)))) .l)))))) .w))))) func115 ⟨Zuh,Zlz,Z7g,Z7n,Zlx,Zlo,trivial⟩
def Zfc:zh:=ao (ac ze (ac ze (Lq 101 az))) (t2 ze ti) λa=>F.Xm a.1 a.2.1
def Zuj:aq 92 Zfc:=eo (av 39 [(115,zpz),(101,EJ)] [] [] [3,4,6]) (.q (.q (.s zm (.q (.s (.draw (zR 0 15)) .l))))) func92 ⟨zxl,IX,trivial⟩
def EL:zh:=ao (ac ze (ac ze az)) (t2 ze ti) λa=>F.Xb a.1 a.2.1
def I0:aq 94 EL:=eo (av 11 [(92,Zfc)] [] [] [2,3,4]) (.q .w) func94 ⟨Zuj,trivial⟩
def Zfd:zh:=ao (ap (Lq 94 (ac ze (ac ze az)))) ze λa=>F.Wm a.1 a.2.1 a.2.2.1
def Zuk:aq 189 Zfd:=eo (av 29 [(94,EL)] [] [] [6,7,8,9]) (.q (.s zm (.q (.q .w)))) func189 ⟨I0,trivial⟩
def Zfe:zh:=ao (ap (ac ze (ac ze az))) ze λa=>F.Qt a.1 a.2.1 a.2.2.1
def Zul:aq 108 Zfe:=eo (av 11 [(189,Zfd)] [] [] [4,5,6]) (.q .w) func108 ⟨Zuk,trivial⟩
def Zff:zh:=ao (ac ze (ac ze (Lq 93 az))) (t2 ze ti) λa=>F.z0f a.1 a.2.1
def Zum:aq 92 Zff:=eo (av 39 [(115,zpz),(93,IY)] [] [] [3,4,6]) (.q (.q (.s zm (.q (.s (.draw (zR 0 15)) .l))))) func92 ⟨zxl,Ng,trivial⟩
def zq0:zh:=ao (ac ze (ac ze az)) (t2 ze ti) λa=>F.Dr a.1 a.2.1
def zxm:aq 31 zq0:=eo (av 11 [(92,Zff)] [] [] [2,3,4]) (.q .w) func31 ⟨Zum,trivial⟩
def Zfg:zh:=ao (ap (Lq 31 (ac ze (ac ze az)))) ze λa=>F.Wn a.1 a.2.1 a.2.2.1
def Zun:aq 189 Zfg:=eo (av 29 [(31,zq0)] [] [] [6,7,8,9]) (.q (.s zm (.q (.q .w)))) func189 ⟨zxm,trivial⟩
def Zfh:zh:=ao (ap (ac ze (ac ze az))) ze λa=>F.z2z a.1 a.2.1 a.2.2.1
def Zuo:aq 107 Zfh:=eo (av 11 [(189,Zfg)] [] [] [4,5,6]) (.q .w) func107 ⟨Zun,trivial⟩
def Zfi:zh:=ao (ac ze (ac ze (Lq 102 az))) (t2 ze ti) λa=>F.Xl a.1 a.2.1
def Zup:aq 92 Zfi:=eo (av 39 [(115,zpz),(102,zpt)] [] [] [3,4,6]) (.q (.q (.s zm (.q (.s (.draw (zR 0 15)) .l))))) func92 ⟨zxl,zxf,trivial⟩
def Ni:zh:=ao (ac ze (ac ze az)) (t2 ze ti) λa=>F.Vc a.1 a.2.1
def zs5:aq 95 Ni:=eo (av 11 [(92,Zfi)] [] [] [2,3,4]) (.q .w) func95 ⟨Zup,trivial⟩
def Zfj:zh:=ao (ap (Lq 95 (ac ze (ac ze az)))) ze λa=>F.Wl a.1 a.2.1 a.2.2.1
def Zuq:aq 189 Zfj:=eo (av 29 [(95,Ni)] [] [] [6,7,8,9]) (.q (.s zm (.q (.q .w)))) func189 ⟨zs5,trivial⟩
def Zfk:zh:=ao (ap (ac ze (ac ze az))) ze λa=>F.z2y a.1 a.2.1 a.2.2.1
def Zur:aq 109 Zfk:=eo (av 11 [(189,Zfj)] [] [] [4,5,6]) (.q .w) func109 ⟨Zuq,trivial⟩
end Den
end

noncomputable section
set_option maxRecDepth 100000
namespace Den
open Go Go.Proofs.Tryz
def zq1:zh:=ao (ac ze az) ze λa=>F.Ds a.1
def zxn:aq 106 zq1:=eo (av 12 [(187,Z4l),(188,Z4i)] [] [(5,1),(7,1),(10,1)] [1,2]) (.q (.q (.q .w))) func106 ⟨Zlz,Zlw,trivial⟩
def Zfl:zh:=ao (ap (ac Xh (ac zp az))) zp λa=>F.Vz a.1 a.2.1 a.2.2.1
def Zus:aq 54 Zfl:=eo (av 41 [(108,Zfe),(107,Zfh),(109,Zfk),(106,zq1)] [] [(8,5),(10,4),(16,4),(18,5),(22,4),(29,4),(31,5),(35,4)] [4,5,6,7]) (.q (.q (.join [(7,.box [.sl,.sl])] (.q (.c .l .l)) (.s (.draw (zR 0 6++[7,8,9,10]++zR 13 6++[20,21,22,23,6,11,12,19,24,25,26,27])) .l)))) func54 ⟨Zul,Zuo,Zur,zxn,trivial⟩
def Zfm:zh:=ao (ac zp (ac zp (Lq 95 az))) (t2 zp ti) λa=>F.z27 a.1 a.2.1
def Zut:aq 30 Zfm:=eo (av 40 [(95,Ni)] [] [(13,3),(15,4),(26,3),(28,4)] [3,4,6,8,10]) (.q (.q (.s zm (.q (.s zm .w))))) func30 ⟨zs5,trivial⟩
def Zfn:zh:=ao (ac zp (ac zp az)) (t2 zp ti) λa=>F.zfp a.1 a.2.1
def Zuu:aq 53 Zfn:=eo (av 11 [(30,Zfm)] [] [] [2,3,4]) (.q .w) func53 ⟨Zut,trivial⟩
def Zfo:zh:=ao (ap (Lq 53 (ac zp (ac zp az)))) zp λa=>F.X7 a.1 a.2.1 a.2.2.1
def Zuv:aq 52 Zfo:=eo (av 29 [(53,Zfn)] [] [] [6,7,8,9]) (.q (.s zm (.q (.q .w)))) func52 ⟨Zuu,trivial⟩
def Z4m:zh:=ao (ac Xh (ac zp az)) (t2 zp ti) λa=>F.GD a.1 a.2.1
def Zm1:aq 14 Z4m:=eo (av 32 [(54,Zfl),(52,Zfo)] [] [(15,2),(17,2)] [2,3,4,7]) (.q (.q (.s (.draw [0,1,2,3,5,6,7,8,9,11,4,10,12]) (.s (.q (.c (.s (.draw (zR 0 7)) .l) .l)) .w)))) func14 ⟨Zus,Zuv,trivial⟩
def znd:zh:=ao (ac Xh (aJ az)) (t2 ts tb) λa=>F.QR a.1 a.2.1
def Z1p:aq 21 znd:=eo (av 31 [(14,Z4m)] [] [] [2,8,9,27]) (.q (.q (.s (.q (.b (.loop [(6,.s),(13,.i)] (.q (.s (.c .l .l) (.s (.b (.q (.q (.s zm .l)))) .l)))))) .w))) func21 ⟨Zm1,trivial⟩
def zne:zh:=ao (ac Wv (ac (Uw (.int .u8)) az)) (Ty.Fx (.cons ts (.cons ts (.cons Xh (.cons tb (.cons tb .nil))))) (λx=>(x.1,x.2.1,x.2.2.1,x.2.2.2.1,x.2.2.2.2,())) (λy=>(y.1,y.2.1,y.2.2.1,y.2.2.2.1,y.2.2.2.2.1)) (λ_=>rfl) (λ_=>rfl)) λa=>F.zif a.1 a.2.1
def Z1q:aq 4 zne:=eo (av 38 [(19,Zqs),(20,Ze7),(21,znd)] [] [] [2,6]) (.q (.q (.s (.q (.c (.s (.draw (zR 0 6)) .l) .l)) (.s (.draw (zR 0 9)) (.q (.q (.s (.draw (zR 0 9)) .l))))))) func4 ⟨Y0g,Ztg,Z1p,trivial⟩
def Zfp:zh:=ao (ac zp (ac zp (Lq 31 az))) (t2 zp ti) λa=>F.z28 a.1 a.2.1
def Zuw:aq 30 Zfp:=eo (av 40 [(31,zq0)] [] [(13,3),(15,4),(26,3),(28,4)] [3,4,6,8,10]) (.q (.q (.s zm (.q (.s zm .w))))) func30 ⟨zxm,trivial⟩
def Nj:zh:=ao (ac zp (ac zp az)) (t2 zp ti) λa=>F.Vj a.1 a.2.1
def zs6:aq 6 Nj:=eo (av 11 [(30,Zfp)] [] [] [2,3,4]) (.q .w) func6 ⟨Zuw,trivial⟩
def Z4n:zh:=ao (ac zp (ac zp (Lq 94 az))) (t2 zp ti) λa=>F.Q2 a.1 a.2.1
def Zm2:aq 30 Z4n:=eo (av 40 [(94,EL)] [] [(13,3),(15,4),(26,3),(28,4)] [3,4,6,8,10]) (.q (.q (.s zm (.q (.s zm .w))))) func30 ⟨I0,trivial⟩
def I3:zh:=ao (ac zp (ac zp az)) (t2 ze ti) λa=>F.Bg a.1 a.2.1
def Nk:aq 32 I3:=eo (av 25 [(30,Z4n),(95,Ni)] [] [(18,6),(20,6)] [2,3,4,6]) (.q (.q (.s zm .w))) func32 ⟨Zm2,zs5,trivial⟩
def Z4o:zh:=ao (ac zp az) (t2 ze ti) λa=>F.KZ a.1
def Zm3:aq 7 Z4o:=eo (av 9 [(32,I3)] [] [] [1,2]) (.q .w) func7 ⟨Nk,trivial⟩
def Zfq:zh:=ao (ac ze az) ze λa=>F.zcm a.1
def Zux:aq 184 Zfq:=eo (av 6 [(106,zq1)] [] [] [1,2]) (.q .w) func184 ⟨zxn,trivial⟩
def Zfr:zh:=ao (ac zp az) zp λa=>F.zcc a.1
def Zuy:aq 103 Zfr:=eo (av 10 [(106,zq1),(184,Zfq)] [] [(3,1),(6,1)] [1,2]) (.q (.s (.draw [0,1,3,4,2,5,6,7]) .l)) func103 ⟨zxn,Zux,trivial⟩
def Zfs:zh:=ao (ac zp (ac zp az)) (t2 ze ti) λa=>F.za3 a.1 a.2.1
def Zuz:aq 41 Zfs:=eo (av 12 [(103,Zfr),(32,I3)] [] [] [2,3,4]) (.q (.s (.draw [0,2,1,3,4,5,6,7]) .l)) func41 ⟨Zuy,Nk,trivial⟩
def EN:zh:=ao (ac ze az) ti λa=>F.Xw a.1
def I4:aq 42 EN:=eo (av 8 [(100,Nh)] [] [(3,1),(5,1)] [1]) (.q .w) func42 ⟨zs4,trivial⟩
def Z4p:zh:=ao (ac zp (ac zp (ac zp az))) (t2 ti ti) λa=>F.K5 a.1 a.2.1 a.2.2.1
def Zm4:aq 10 Z4p:=eo (av 41 [(6,Nj),(41,Zfs),(42,EN)] [] [] [3,4,5,8,10,11]) (.q (.q (.s zm (.q (.s zm (.q (.s zm .w))))))) func10 ⟨zs6,Zuz,I4,trivial⟩
def Zft:zh:=ao (aJ az) ts λa=>F.z07 a.1
def Zv0:aq 116 Zft:=eo (av 8 []) (.q (.s zm .w)) func116 trivial
def Zfu:zh:=ao (ai (aJ az)) ts λa=>F.zch a.1 a.2.1
def Zv1:aq 117 Zfu:=eo (av 37 [(99,lR)]) (.q (.q (.s (.q (.b (.loop [(14,.i)] (.q (.s (.c .l .l) (.join [] (.b (.q (.q (.c .l .l)))) .l)))))) .w))) func117 ⟨my,trivial⟩
def Z4q:zh:=ao (aJ (aJ (aJ az))) ti λa=>F.K6 a.1 a.2.1 a.2.2.1
def Zm5:aq 81 Z4q:=eo (av 19 [(162,zpy),(93,IY),(163,zpx)]) (.q (.s zm .w)) func81 ⟨zxk,Ng,zxj,trivial⟩
def Z4r:zh:=ao (ac ze (ac ze az)) tb λa=>F.K7 a.1 a.2.1
def Zm6:aq 61 Z4r:=eo (av 77 [(115,zpz),(114,Z42),(116,Zft),(117,Zfu),(118,zvl),(81,Z4q),(113,zve)] [] [(10,2),(12,3),(16,3),(18,2),(22,2),(24,3),(45,2),(48,3),(56,2),(66,2),(69,2),(72,3)] [2,3,61]) (.q (.join [] zm (.s (.q (.q (.c (.s (.draw (zR 0 10)) .l) .l))) (.q (.s (.q (.b (.loop [(7,.s),(51,.i)] (.q (.s (.c .l .l) (.s (.b .w) .l)))))) (.s (.draw [0,1,2,3,5,6,7,8,9,4,10,11,12,13]) .l)))))) func61 ⟨zxl,Zlf,Zv0,Zv1,Z7n,Zm5,Z7g,trivial⟩
def Z4s:zh:=ao (ac zp (ac zp az)) tb λa=>F.K8 a.1 a.2.1
def Zm8:aq 34 Z4s:=eo (av 17 [(61,Z4r)] [] [(5,2),(7,3),(11,2),(13,3)] [2,3]) (.q .w) func34 ⟨Zm6,trivial⟩
def zvs:zh:=ao (ac Zg az) ze λa=>F.Vd a.1
def Z7t:aq 169 zvs:=eo (av 7 [(258,Z4k)] [] [] [1,2]) (.q .w) func169 ⟨Zly,trivial⟩
def zq2:zh:=ao (ai az) ze λa=>F.Xv a.1
def zxo:aq 86 zq2:=eo (av 6 [(99,lR),(169,zvs)] [] [] [2]) (.q .w) func86 ⟨my,Z7t,trivial⟩
def Z4t:zh:=ao (ap (ac zp (ai az))) zp λa=>F.Vs a.1 a.2.1 a.2.2.1
def Zm9:aq 57 Z4t:=eo (av 25 [(86,zq2)] [] [] [4,6]) (.q (.join [] (.q (.c .l .l)) (.s zm .w))) func57 ⟨zxo,trivial⟩
def Zfv:zh:=ao (ac zp az) zp λa=>F.zjj a.1
def Zv2:aq 56 Zfv:=eo (av 9 [(106,zq1)] [] [(3,1),(5,1)] [1,2]) (.q (.s (.draw (zR 0 7)) .l)) func56 ⟨zxn,trivial⟩
def zq3:zh:=ao (ap (ac ze (ai az))) ze λa=>F.Zx a.1 a.2.1 a.2.2.1
def zxp:aq 59 zq3:=eo (av 23 [(86,zq2)] [] [] [4,6]) (.q (.join [] (.q (.c .l .l)) (.s zm .w))) func59 ⟨zxo,trivial⟩
def zvt:zh:=ao (ac ze (ac ze az)) (t2 ze ti) λa=>F.Bh a.1 a.2.1
def Z7u:aq 105 zvt:=eo (av 28 [(186,Z4f),(94,EL)] [] [(9,3),(11,3),(21,3)] [2,3,4]) (.q (.q (.s zm .w))) func105 ⟨Zlt,I0,trivial⟩
def Zfw:zh:=ao (ap (ac zp (ac zp az))) (t2 A5 ti) λa=>F.z47 a.1 a.2.1 a.2.2.1
def Zv3:aq 55 Zfw:=eo (av 60 [(32,I3),(59,zq3),(105,zvt),(42,EN)] [] [(18,5),(23,5),(26,5),(34,5)] [4,5,6,8,9,10]) (.q (.q (.q (.join [(9,.box [.sl,.sl])] (.q (.c .l .l)) (.s (.draw [0,1,2,3,8,9,10,11,16,17,18,24,4,5,6,7,12,13,14,15,19,20,21,22,23,25]) (.s (.q (.c (.s (.draw (zR 0 7)) .l) .l)) .w)))))) func55 ⟨Nk,zxp,Z7u,I4,trivial⟩
def Zfx:zh:=ao (ac zp (ac zp az)) (t2 A5 ti) λa=>F.QU a.1 a.2.1
def Zv4:aq 16 Zfx:=eo (av 26 [(34,Z4s),(6,Nj),(57,Z4t),(56,Zfv),(55,Zfw)] [] [] [2,3,4]) (.q (.s zm (.q (.s (.draw (zR 0 15)) .l)))) func16 ⟨Zm8,zs6,Zm9,Zv2,Zv3,trivial⟩
def zvu:zh:=ao (ac A5 az) zp λa=>F.GF a.1
def Z7v:aq 60 zvu:=eo (av 8 [] [] [(3,1),(5,1)] [1,2]) (.q .w) func60 trivial
def Zfy:zh:=ao (ap (ac A5 (ac zp az))) ze λa=>F.z5r a.1 a.2.1 a.2.2.1
def Zv5:aq 110 Zfy:=eo (av 37 [(60,zvu),(32,I3),(59,zq3),(31,zq0),(7,Z4o),(105,zvt)] [] [(19,4)] [4,5,6,7,8]) (.q (.q (.s (.draw [0,1,2,3,8,9,14,4,5,6,7,10,11,12,13,15]) (.s (.draw (zR 0 13)) .l)))) func110 ⟨Z7v,Nk,zxp,zxm,Zm3,Z7u,trivial⟩
def Zfz:zh:=ao (ac zp (ac ze az)) (t2 zp ti) λa=>F.za4 a.1 a.2.1
def Zv6:aq 112 Zfz:=eo (av 13 [(30,Z4n)] [] [] [2,3,4]) (.q .w) func112 ⟨Zm2,trivial⟩
def Zg0:zh:=ao (ap (ac zp az)) (t2 zp ti) λa=>F.z6y a.1 a.2.1
def Zv7:aq 111 Zg0:=eo (av 17 [] [] [] [3,4]) (.q (.s (.q (.c (.s (.draw (zR 0 7)) .l) .l)) .w)) func111 trivial
def Zg1:zh:=ao (ac A5 (ac zp (ai az))) (t2 zp ti) λa=>F.zea a.1 a.2.1 a.2.2.1
def Zv8:aq 58 Zg1:=eo (av 41 [(110,Zfy),(86,zq2),(94,EL),(59,zq3),(60,zvu),(112,Zfz),(57,Z4t),(6,Nj),(111,Zg0)] [] [] [3,4,6,9]) (.q (.q (.q (.s (.draw ([0,1,2,3,4,6,5]++zR 7 13)) .l)))) func58 ⟨Zv5,zxo,I0,zxp,Z7v,Zv6,Zm9,zs6,Zv7,trivial⟩
def Zg2:zh:=ao (ac A5 (ac zp az)) (t2 zp ti) λa=>F.QV a.1 a.2.1
def Zv9:aq 17 Zg2:=eo (av 11 [(58,Zg1)] [] [] [2,3,4]) (.q .w) func17 ⟨Zv8,trivial⟩
def Zg3:zh:=ao (aJ (ai az)) ts λa=>F.zhg a.1 a.2.1
def Zva:aq 98 Zg3:=eo (av 39 [(99,lR)] [] [] [8]) (.q (.q (.s (.q (.b (.loop [(16,.i)] (.q (.s (.c .l .l) (.s (.b .w) .l)))))) (.s (.q (.b (.loop [(26,.i)] (.q (.s (.c .l .l) (.s (.b (.q (.draw (zR 0 7)))) .l)))))) .w)))) func98 ⟨my,trivial⟩
def Z4u:zh:=ao (aJ az) (Uw .ptr) λa=>F.zsg a.1
def Zma:aq 36 Z4u:=eo (av 90 [(98,Zg3),(99,lR)] [] [(24,5),(49,5)] [5,39,53,79]) (.q (.q (.s (.q (.b (.loop [(15,.i)] (.q (.s (.c .l .l) (.s (.b (.q (.q (.s (.q (.b (.loop [(27,.i)] (.q (.s (.c .l .l) (.s (.b (.q (.draw (zR 0 13)))) .l)))))) (.draw (zR 0 14)))))) .l)))))) (.s (.q (.b (.loop [(63,.i)] (.q (.s (.c .l .l) (.s (.b (.q (.s (.b (.loop [(10,.s)] (.s (.q (.c .l .l)) (.b .l)))) .l))) .l)))))) .w)))) func36 ⟨Zva,my,trivial⟩
def Z4v:zh:=ao (ap (aJ (aJ az))) ts λa=>F.X9 a.1 a.2.1 a.2.2.1
def Zmb:aq 39 Z4v:=eo (av 14 [(101,EJ)]) (.q .w) func39 ⟨IX,trivial⟩
end Den
end

noncomputable section
set_option maxRecDepth 100000
namespace Den
open Go Go.Proofs.Tryz
def Z4w:zh:=ao (ap (aJ (aJ az))) ts λa=>F.z98 a.1 a.2.1 a.2.2.1
def Zmc:aq 40 Z4w:=eo (av 14 [(102,zpt)]) (.q .w) func40 ⟨zxf,trivial⟩
def Z4x:zh:=ao (ap (aJ (aJ az))) ts λa=>F.Wa a.1 a.2.1 a.2.2.1
def Zmd:aq 37 Z4x:=eo (av 14 [(93,IY)]) (.q .w) func37 ⟨Ng,trivial⟩
def Z4y:zh:=ao (ap (aJ az)) ti λa=>F.z48 a.1 a.2.1
def Zme:aq 38 Z4y:=eo (av 11 [(100,Nh)]) (.q .w) func38 ⟨zs4,trivial⟩
def Zg4:zh:=ao (ac A5 (ac zp az)) tb λa=>F.zol a.1 a.2.1
def Zvb:aq 18 Zg4:=eo (av 70 [(60,zvu),(32,I3),(59,zq3),(61,Z4r),(36,Z4u),(39,Z4v),(40,Z4w),(37,Z4x),(38,Z4y)] [] [(25,2),(28,2),(30,2),(32,2),(34,3),(36,3)] [2,3,6]) (.q (.q (.s (.s (.draw [0,1,3,8,2,4,5,6,7,9]) zm) (.q (.q (.s (.draw (zR 0 10++zR 11 7++[20,21,22,10,18,19,23,24,25,26])) .l)))))) func18 ⟨Z7v,Nk,zxp,Zm6,Zma,Zmb,Zmc,Zmd,Zme,trivial⟩
def zq4:zh:=ao (ap (ai az)) tb λa=>F.q8 a.1 a.2.1
def zxq:aq 185 zq4:=eo (av 19 []) (.q (.join [] (.q (.c .l .l)) .w)) func185 trivial
def Zg5:zh:=ao (ap (Lq 31 (ac ze (ac ze az)))) ze λa=>F.X5 a.1 a.2.1 a.2.2.1
def Zvc:aq 104 Zg5:=eo (av 28 [(31,zq0),(185,zq4)] [] [] [6,7,8,9]) (.q (.s zm (.q (.q .w)))) func104 ⟨zxm,zxq,trivial⟩
def zq5:zh:=ao (ap (ac ze (ac ze az))) ze λa=>F.Yt a.1 a.2.1 a.2.2.1
def zxr:aq 48 zq5:=eo (av 11 [(104,Zg5)] [] [] [4,5,6]) (.q .w) func48 ⟨Zvc,trivial⟩
def Z4z:zh:=ao (ap (ac zp (ac zp az))) zp λa=>F.Q3 a.1 a.2.1 a.2.2.1
def Zmf:aq 43 Z4z:=eo (av 20 [(48,zq5)] [] [(8,4),(10,5),(14,4),(16,5)] [4,5,6]) (.q (.s (.draw [0,1,2,3,4,6,7,8,9,10,5,11,12,13]) .l)) func43 ⟨zxr,trivial⟩
def Zg6:zh:=ao (ap (Lq 94 (ac ze (ac ze az)))) ze λa=>F.X4 a.1 a.2.1 a.2.2.1
def Zvd:aq 104 Zg6:=eo (av 28 [(94,EL),(185,zq4)] [] [] [6,7,8,9]) (.q (.s zm (.q (.q .w)))) func104 ⟨I0,zxq,trivial⟩
def zvv:zh:=ao (ap (ac ze (ac ze az))) ze λa=>F.yt a.1 a.2.1 a.2.2.1
def Z7w:aq 49 zvv:=eo (av 11 [(104,Zg6)] [] [] [4,5,6]) (.q .w) func49 ⟨Zvd,trivial⟩
def Zg7:zh:=ao (ap (ac zp (ac zp az))) ze λa=>F.z0o a.1 a.2.1 a.2.2.1
def Zve:aq 44 Zg7:=eo (av 21 [(49,zvv),(48,zq5)] [] [(9,4),(11,5),(15,4),(17,5)] [4,5,6]) (.q (.s (.draw (zR 0 6++[7,8,9,10,11,6,12,13,14])) .l)) func44 ⟨Z7w,zxr,trivial⟩
def Zg8:zh:=ao (ap (Lq 95 (ac ze (ac ze az)))) ze λa=>F.X1 a.1 a.2.1 a.2.2.1
def Zvf:aq 104 Zg8:=eo (av 28 [(95,Ni),(185,zq4)] [] [] [6,7,8,9]) (.q (.s zm (.q (.q .w)))) func104 ⟨zs5,zxq,trivial⟩
def zvw:zh:=ao (ap (ac ze (ac ze az))) ze λa=>F.Qs a.1 a.2.1 a.2.2.1
def Z7x:aq 45 zvw:=eo (av 11 [(104,Zg8)] [] [] [4,5,6]) (.q .w) func45 ⟨Zvf,trivial⟩
def Z50:zh:=ao (ap (ac zp az)) ze λa=>F.Y1 a.1 a.2.1
def Zmg:aq 46 Z50:=eo (av 19 [(49,zvv),(45,zvw)] [] [(7,3),(9,3),(13,3),(15,3)] [3,4]) (.q (.s (.draw (zR 0 6++[7,8,9,10,11,6,12,13,14])) .l)) func46 ⟨Z7w,Z7x,trivial⟩
def Zga:zh:=ao (ap (Lq 105 (ac ze (ac ze az)))) ze λa=>F.X3 a.1 a.2.1 a.2.2.1
def Zvg:aq 104 Zga:=eo (av 28 [(105,zvt),(185,zq4)] [] [] [6,7,8,9]) (.q (.s zm (.q (.q .w)))) func104 ⟨Z7u,zxq,trivial⟩
def Zgb:zh:=ao (ap (ac ze (ac ze az))) ze λa=>F.Vy a.1 a.2.1 a.2.2.1
def Zvh:aq 47 Zgb:=eo (av 11 [(104,Zga)] [] [] [4,5,6]) (.q .w) func47 ⟨Zvg,trivial⟩
def Zgc:zh:=ao (ap (ac zp (ac zp az))) zp λa=>F.z1o a.1 a.2.1 a.2.2.1
def Zvi:aq 50 Zgc:=eo (av 20 [(45,zvw)] [] [(8,4),(10,5),(14,4),(16,5)] [4,5,6]) (.q (.s (.draw [0,1,2,3,4,6,7,8,9,10,5,11,12,13]) .l)) func50 ⟨Z7x,trivial⟩
def Zgd:zh:=ao (ac zp (ac zp (ac zp az))) (t2 zn2 ti) λa=>F.QW a.1 a.2.1 a.2.2.1
def Zvj:aq 12 Zgd:=eo (av 104 [(43,Z4z),(44,Zg7),(42,EN),(45,zvw),(46,Z50),(49,zvv),(48,zq5),(47,Zgb),(50,Zgc)] [] [(57,10),(62,9),(72,9),(77,10)] [3,4,5,6,9,10,11,12,13,14,15]) (.q (.q (.s (.draw [0,1,2,4,5,6,8,9,3,7,10,11]) (.q (.s (.q (.c (.s (.draw (zR 0 7)) .l) .l)) (.s zm (.q (.s (.draw [0,1,3,4,6,7,2,5,8,9]) (.s (.draw (zR 0 6++[7,8,9,10,13]++zR 15 6++[22,23,24,25,28,31,6,11,12,14,21,26,27,29,30,32])) (.s (.draw [0,1,2,4,5,8,3,6,7,9]) (.s (.q (.c (.s (.draw (zR 0 7)) .l) .l)) .w))))))))))) func12 ⟨Zmf,Zve,I4,Z7x,Zmg,Z7w,zxr,Zvh,Zvi,trivial⟩
def Zge:zh:=ao (ac zn2 (ac zp az)) (t2 ze ti) λa=>F.zdz a.1 a.2.1
def Zvk:aq 51 Zge:=eo (av 32 [(43,Z4z),(46,Z50),(48,zq5)] [] [(14,2),(18,2)] [2,3,4,7]) (.q (.q (.s (.draw (zR 0 6++[8,9,11,6,7,10,12])) (.s (.q (.c (.s (.draw (zR 0 7)) .l) .l)) .w)))) func51 ⟨Zmf,Zmg,zxr,trivial⟩
def Zgf:zh:=ao (ac zn2 (ac zp az)) (t2 ti ti) λa=>F.QX a.1 a.2.1
def Zvl:aq 13 Zgf:=eo (av 19 [(51,Zge),(42,EN)] [] [] [2,3,6]) (.q (.q (.s zm .w))) func13 ⟨Zvk,I4,trivial⟩
def zpl:zh:=ao (ac Xh az) ti λa=>F.zlr a.1
def Z79:aq 11 zpl:=eo (av 5 [] [] [(3,1)] [1]) (.q (.s zm .w)) func11 trivial
def Zgg:zh:=ao (ac zp (ac zp (ac zp az))) tb λa=>F.z71 a.1 a.2.1 a.2.2.1
def Zvm:aq 35 Zgg:=eo (av 34 [(6,Nj),(32,I3),(42,EN)] [] [] [3,4,5,7,9,11]) (.q (.q (.q (.q .w)))) func35 ⟨zs6,Nk,I4,trivial⟩
def Zgh:zh:=ao (ac zp (ac zp (ac zp az))) tb λa=>F.QY a.1 a.2.1 a.2.2.1
def Zvn:aq 9 Zgh:=eo (av 118 [(10,Z4p),(35,Zgg),(36,Z4u),(37,Z4x),(39,Z4v),(38,Z4y),(40,Z4w),(34,Z4s)] [] [(40,3),(42,3),(44,4),(46,4),(48,5),(50,5)] [3,4,5]) (.q (.join [] zm (.s (.q zm) (.q (.q (.s (.draw (zR 0 7++zR 8 7++[7,15,16,17])) (.s (.draw (zR 0 7++zR 8 7++[7,15,16,17])) .w))))))) func9 ⟨Zm4,Zvm,Zma,Zmd,Zmb,Zme,Zmc,Zm8,trivial⟩
def Zgi:zh:=ao (ac Ze (ai az)) (t2 Ze ti) λa=>F.zbs a.1 a.2.1
def Zvp:aq 285 Zgi:=eo (av 34 [(165,yD),(289,Z4g),(168,As)] [] [] [2,4,6,7]) (.q (.join [(4,.box [.bool,.sl])] zm (.s (.draw [1,3,4,0,2,5,6]) (.s (.b (.loop [(1,.i),(6,.box [.bool,.sl]),(7,.box [.bool,.sl])] (.s (.q (.c .l .l)) (.b (.join [(6,.box [.bool,.sl])] (.q (.c .l .l)) (.q (.q (.c .l .l)))))))) .w)))) func285 ⟨At,Zlu,CC,trivial⟩
def Zgj:zh:=ao (ai az) Ze λa=>F.z85 a.1
def Zvq:aq 218 Zgj:=eo (av 12 [(165,yD),(285,Zgi)] [] [] [2,3]) (.q (.q .w)) func218 ⟨At,Zvp,trivial⟩
def Zgk:zh:=ao (ac Ze az) Zg λa=>F.z86 a.1
def Zvr:aq 217 Zgk:=eo (av 12 [(165,yD),(220,EK)] [] [] [1,2,3]) (.q (.s (.draw [0,6,1,2,3,4,5,7,8]) .w)) func217 ⟨At,IZ,trivial⟩
def zq6:zh:=ao (ai az) Ze λa=>F.GG a.1
def zxs:aq 337 zq6:=eo (av 17 [] [] [] [2]) (.q (.q (.q .w))) func337 trivial
def Z51:zh:=ao (aJ az) Ya λa=>F.Oz a.1
def Zmh:aq 388 Z51:=eo (av 40 [(193,zpo),(99,lR),(264,CE)] [] [] [2,3,4,6,7]) (.q (.s (.draw (zR 0 10)) (.s (.q (.b (.loop [(3,.box [.bool,.sl,.bool,.sl]),(4,.box [.bool,.sl,.bool,.sl]),(17,.i)] (.q (.s (.c .l .l) (.join [(3,.box [.bool,.sl,.bool,.sl]),(4,.box [.bool,.sl,.bool,.sl])] (.b (.q (.join [(3,.box [.bool,.sl,.bool,.sl])] (.q (.c .l .l)) (.q (.c .l .l))))) .l)))))) (.q (.s (.draw [0,1,3,4,2,5,6,7]) .l))))) func388 ⟨zxa,my,EH,trivial⟩
def Zgl:zh:=ao (ac Zg az) Ya λa=>F.z6v a.1
def Zvs:aq 364 Zgl:=eo (av 7 [(388,Z51)] [] [] [1,2]) (.q .w) func364 ⟨Zmh,trivial⟩
def Zgm:zh:=ao (ac Zg (ai az)) Zg λa=>F.QZ a.1 a.2.1
def Zvt:aq 391 Zgm:=eo (av 38 [(337,zq6),(168,As),(166,Nd),(395,Z4c),(220,EK)] [] [(13,2),(19,2)] [2,4,5,6,8,10]) (.q (.s (.draw [0,1,2,3,6,7,13,14,4,5,8,9,10,11,12,15,16,17]) (.q (.s (.draw [0,1,7,2,3,4,5,6,8,9]) .w)))) func391 ⟨zxs,CC,zs2,Zlp,IZ,trivial⟩
def Zgn:zh:=ao (ac Ya (ai az)) Ya λa=>F.zfd a.1 a.2.1
def Zvu:aq 368 Zgn:=eo (av 31 [(165,yD),(337,zq6),(220,EK),(391,Zgm),(264,CE),(230,Ar),(99,lR)] [] [(8,2),(24,2)] [2,4,5,6]) (.q (.q (.join [(5,.box [.bool,.sl,.bool,.sl])] (.q (.c .l .l)) (.q (.s (.draw [0,1,3,4,5,7,2,6,8,9,10]) .l))))) func368 ⟨At,zxs,IZ,Zvt,EH,Cz,my,trivial⟩
def Zgo:zh:=ao (ac Ya (ac Ya az)) Ya λa=>F.z9o a.1 a.2.1
def Zvv:aq 367 Zgo:=eo (av 27 [(232,CF),(388,Z51)] [] [(5,2),(7,3),(10,2),(12,3),(15,2),(17,3),(20,2),(22,3)] [2,3,4]) (.q (.s (.draw [0,1,2,3,5,6,7,8,10,11,12,13,15,16,17,18,4,9,14,19,20,21,22]) .l)) func367 ⟨EI,Zmh,trivial⟩
def Zgp:zh:=ao (ac Ya (ac Ya az)) Ya λa=>F.z9n a.1 a.2.1
def Zvw:aq 366 Zgp:=eo (av 16 [(264,CE)] [] [(5,2),(7,3),(10,2),(12,3)] [2,3,4]) (.q (.s (.draw [0,1,2,3,5,6,7,8,4,9,10,11]) .l)) func366 ⟨EH,trivial⟩
def Z52:zh:=ao (ac Zg (ai az)) Zg λa=>F.Ra a.1 a.2.1
def Zmi:aq 389 Z52:=eo (av 31 [(337,zq6),(168,As),(166,Nd),(220,EK)] [] [(14,2),(18,2)] [2,4,5,6,7,9]) (.q (.q (.s (.draw [0,1,2,4,5,11,12,3,6,7,8,9,10,13,14,15]) (.q .w)))) func389 ⟨zxs,CC,zs2,IZ,trivial⟩
def Zgq:zh:=ao (ac Zg (ai az)) Zg λa=>F.zx6 a.1 a.2.1
def Zvx:aq 390 Zgq:=eo (av 10 [(245,Nf),(389,Z52)] [] [] [2,4]) (.q .w) func390 ⟨zs3,Zmi,trivial⟩
def Zgr:zh:=ao (ac Ya (ai az)) Ya λa=>F.zfe a.1 a.2.1
def Zvy:aq 365 Zgr:=eo (av 14 [(389,Z52),(390,Zgq)] [] [(5,2),(9,2)] [2,4]) (.q (.s (.draw [0,1,2,4,5,6,3,7,8,9]) .l)) func365 ⟨Zmi,Zvx,trivial⟩
def Z2l:cn (Sl×Sl×Int×Unit):=(aJ (aJ (ai az)))
def Z31:Ty aH:=Ya
def Zgs:zh:=ao Z2l Z31 λa=>F.zfc a.1 a.2.1 a.2.2.1
def Zse(n:Nat):bX:=(av 62 [(364,Zgl),(338,ao Z2l Z31 (λa=>F.Qp n a.1 a.2.1 a.2.2.1)),(154,Nb),(368,Zgn),(367,Zgo),(366,Zgp),(365,Zgr)] [] [] [6,10,11,12])
def Zna:∃fn,prog.funcs[338]?=some fn/\fn.body.isNone=false/\(fn.name == "runtime.NumGoroutine")=false:=⟨_,func338,rfl,by decide⟩
set_option maxHeartbeats 4000000 in
def Zni:∀n a K D w,Sub D w->F.Qp n a.1 a.2.1 a.2.2.1 K D->Calls prog 338 (Z2l.up a).toArray w (lS (λv h=>Z31.dn v λr=>K r h) D w)
 | 0,_,_,_,_,_,h=>h.elim
 | n+1,a,K,D,w,hs,h=>sA (C:=Zse n) (F:=λa=>F.Qp (n+1) a.1 a.2.1 a.2.2.1) (fn:=f338) (c:=bd f338) (an:=(.seq .leaf (.seq (.seq .leaf (.cond (.seq .leaf .leaf) .leaf)) (.seq .leaf (.seq .leaf (.seq .leaf (.seq (.seq .leaf (.cond (.seq .leaf .leaf) .leaf)) (.seq (.draw ([0,1,2,3,4]++zR 6 6++[13,14,5,12,15,16])) (.seq (.draw [0,1,2,3,7,4,5,6,8,9]) .leaf))))))))) ⟨Zvs,(yq Zna (Zni n)),zs0,Zvu,Zvv,Zvw,Zvy,trivial⟩ trivial func338 rfl rfl (λ_=>rfl) (by intro a K D;kernel_rfl) a K D w hs h
def Zvz:aq 338 Zgs false:=yq Zna (λa K D w hs h=>h.elim λm h=>Zni m a K D w hs h)
def zvx:zh:=ao (ac Zg (ac Zg az)) Zg λa=>F.Xo a.1 a.2.1
def Z7y:aq 231 zvx:=eo (av 9 [(245,Nf),(264,CE)] [] [] [2,3,4]) (.q (.s (.draw [0,1,2,3,4]) .l)) func231 ⟨zs3,EH,trivial⟩
def Zgt:zh:=ao (ac Ya az) Zg λa=>F.z6w a.1
def Zw0:aq 339 Zgt:=eo (av 8 [(231,zvx)] [] [(3,1),(5,1)] [1,2]) (.q .w) func339 ⟨Z7y,trivial⟩
def Zgu:zh:=ao (aJ (aJ (ai az))) Ya λa=>F.z9y a.1 a.2.1 a.2.2.1
def Zw1:aq 287 Zgu:=eo (av 46 [(165,yD),(337,zq6),(220,EK),(338,Zgs),(339,Zgt),(193,zpo),(162,zpy)] [] [] [6,7,10]) (.q (.join [(6,.box [.bool,.sl,.bool,.sl,.bool,.sl,.bool,.sl])] zm (.q (.q (.b (.loop [(6,.box [.bool,.sl,.bool,.sl,.bool,.sl,.bool,.sl]),(9,.i)] (.s (.b (.q (.s (.draw [0,2,1,3,4]) (.c .w .l)))) .l))))))) func287 ⟨At,zxs,IZ,Zvz,Zw0,zxa,zxk,trivial⟩
end Den
end

noncomputable section
set_option maxRecDepth 100000
namespace Den
open Go Go.Proofs.Tryz
def Zgv:zh:=ao (ac Zg az) Ze λa=>F.zb2 a.1
def Zw2:aq 286 Zgv:=eo (av 16 [(166,Nd)] [] [(7,1),(9,1)] [1,2,3,4]) (.q (.q .w)) func286 ⟨zs2,trivial⟩
def Zgw:zh:=ao (ac Ze (ac Ze az)) Ze λa=>F.zni a.1 a.2.1
def Zw3:aq 288 Zgw:=eo (av 13 [(320,Z49)] [] [(6,3),(9,3)] [2,3,4]) (.q .w) func288 ⟨Zlm,trivial⟩
def Zgx:zh:=ao (aJ (aJ az)) Ze λa=>F.zfb a.1 a.2.1
def Zw4:aq 219 Zgx:=eo (av 38 [(162,zpy),(287,Zgu),(286,Zgv),(165,yD),(220,EK),(79,EF),(93,IY),(163,zpx),(288,Zgw)] [] [] [4,5,6]) (.q (.s zm (.q (.s (.draw [0,6,1,2,3,4,5,7,8]) (.join [(5,.box [.bool,.sl])] (.q (.c (.draw [0,1,2,3]) .l)) .w))))) func219 ⟨zxk,Zw1,Zw2,At,IZ,IW,Ng,zxj,Zw3,trivial⟩
def Zgy:zh:=ao (ac ze (ai (ac Zg az))) (t2 Ze ti) λa=>F.z84 a.1 a.2.1 a.2.2.1
def Zw5:aq 138 Zgy:=eo (av 46 [(218,Zgj),(217,Zgk),(169,zvs),(94,EL),(95,Ni),(219,Zgx)] [] [(41,8),(43,8)] [3,5,6,8]) (.q (.join [(6,.box [.bool,.sl])] zm (.s (.draw ([0,1,9]++zR 2 7++[10,11])) (.s zm (.s (.s (.draw (zR 0 9)) zm) .w))))) func138 ⟨Zvq,Zvr,Z7t,I0,zs5,Zw4,trivial⟩
def Zgz:zh:=ao (ac ze (ai az)) (t2 Ze ti) λa=>F.z83 a.1 a.2.1
def Zw6:aq 73 Zgz:=eo (av 12 [(139,zpw),(138,Zgy)] [] [] [2,4]) (.q (.s (.draw (zR 0 8)) .l)) func73 ⟨zxi,Zw5,trivial⟩
def Zh0:zh:=ao (ai az) (Uw .str) λa=>F.z6u a.1
def Zw7:aq 293 Zh0:=eo (av 15 []) (.q (.s zm .w)) func293 trivial
def Zh1:zh:=ao (ac (Uw (.int .u64)) az) ti λa=>F.z5k a.1
def Zw8:aq 342 Zh1:=eo (av 25 []) (.q (.join [(0,.leaf (.int .u64)),(2,.i)] zm (.join [(0,.leaf (.int .u64)),(2,.i)] zm (.join [(0,.leaf (.int .u64)),(2,.i)] zm .w)))) func342 trivial
def Zh2:zh:=ao (ai az) ti λa=>F.Va a.1
def Zw9:aq 341 Zh2:=eo (av 6 []) (.q .w) func341 trivial
def Zh3:zh:=ao (ac tb az) ti λa=>F.W9 a.1
def Zwa:aq 343 Zh3:=eo (av 4 []) (.q (.s zm .w)) func343 trivial
def Zh4:zh:=ao (ac (Uw (.int .u64)) az) ti λa=>F.Qr a.1
def Zwb:aq 294 Zh4:=eo (av 15 [(342,Zh1),(341,Zh2),(343,Zh3)]) (.q (.q .w)) func294 ⟨Zw8,Zw9,Zwa,trivial⟩
def Zh5:zh:=vO (aJ (ac (Uw (.int .u64)) az)) tu λa=>F.qf a.1 a.2.1
def Zwc:aq 295 Zh5 true:=MX (av 167 []) (.q (.s (.b (.loop [(1,.leaf (.int .u64)),(4,.i)] (.s (.q (.c .l .l)) (.b (.q (.q (.q (.q (.q (.s (.draw (zR 0 15)) (.s (.draw (zR 0 15)) (.s (.draw (zR 0 15)) (.s (.draw (zR 0 15)) .l))))))))))))) (.q (.join [(4,.i),(12,.leaf (.int .u32))] (.q (.c (.q (.q (.q (.s (.draw (zR 0 15)) (.s (.draw (zR 0 15)) .l))))) .l)) (.join [(4,.i),(12,.leaf (.int .u32))] (.q (.c (.q (.q (.s (.draw (zR 0 15)) .l))) .l)) (.q (.c .l .l))))))) func295 trivial
def Zh6:zh:=ao (ac (Uw (.int .u64)) (ai az)) (Uw .str) λa=>F.Wk a.1 a.2.1
def Zwd:aq 224 Zh6:=eo (av 32 [(293,Zh0),(294,Zh4),(295,Zh5)] [295]) (.q (.s (.q (.c (.s zm (.q (.q (.q .w)))) .l)) (.q .w))) func224 ⟨Zw7,Zwb,Zwc,trivial⟩
def Zh7:zh:=ao (ac (Uw (.int .u64)) (ai az)) (Uw .str) λa=>F.Vh a.1 a.2.1
def Zwe:aq 145 Zh7:=eo (av 8 [(224,Zh6)]) (.q .w) func145 ⟨Zwd,trivial⟩
def z9h:cn ((Option Addr)×Unit):=(ap az)
def Wh:Ty Unit:=tu
def Wi:zh:=vO z9h Wh (λa=>F.Q6 a.1)
set_option maxHeartbeats 1000000 in
set_option maxRecDepth 100000 in
def z9c(b:Nat)(w:World)(h0:w.cell? ⟨b,0,none⟩=some (.pointer (some ⟨b,0,none⟩))) :
 Calls Go.Proofs.Tryz.prog 222 #[.pointer (some ⟨b,0,none⟩)] w λe w'=>e=.returned (.tuple #[])/\w'=w:=by
 obtain⟨j,hj,_⟩:=Option.map_eq_some_iff.1 (show(Go.Proofs.Tryz.prog.info? 191).map (·.size)=some 2 by kernel_rfl)
 go_enter Go.Proofs.Tryz.func222,Go.Proofs.Tryz.ntmps222
 go_wp2
 rw[Lib.run_neq_ptr_same w _ Go.Proofs.Tryz.underlying189 hj]
 go_wp2
 go_end0
 exact⟨rfl,rfl⟩
set_option maxHeartbeats 1000000 in
set_option maxRecDepth 100000 in
def z9b(b:Nat)(w:World)(h0:w.cell? ⟨b,0,none⟩=some (.pointer none))(B5:w.shape? b=some (191,2))(hfz:w.frozen? ⟨b,0,none⟩=false) :
 Calls Go.Proofs.Tryz.prog 222 #[.pointer (some ⟨b,0,none⟩)] w λe w'=>e=.returned (.tuple #[])/\w'=w.setCell ⟨b,0,none⟩ (.pointer (some ⟨b,0,none⟩)):=by
 obtain⟨j,hj,rf⟩:=Option.map_eq_some_iff.1 (show(Go.Proofs.Tryz.prog.info? 191).map (·.size)=some 2 by kernel_rfl);have hli:liesAt Go.Proofs.Tryz.prog Go.Proofs.Tryz.prog.depth 191 (2/Go.Proofs.Tryz.prog.cellsOf 191) 0 191 1=true:=by kernel_rfl
 go_enter Go.Proofs.Tryz.func222,Go.Proofs.Tryz.ntmps222
 go_wp2
 rw[Lib.run_to_unsafe w ⟨b,0,none⟩ Go.Proofs.Tryz.underlying189 Go.Proofs.Tryz.underlying299 hj (by rw[rf];decide) B5 (Nat.zero_lt_succ 1)];simp only[Result.andThen];rw[Oper.upon_value]
 go_wp2
 rw[run_callFunc_extern Go.Proofs.Tryz.func292 (by kernel_rfl) (by kernel_rfl) (by kernel_rfl) (e:=Extern.AbiNoEscape.same) (by kernel_rfl)];rw[Lib.run_noEscape];simp only[Result.andThen];rw[Oper.upon_value]
 go_wp2
 rw[Lib.run_from_unsafe w ⟨b,0,none⟩ Go.Proofs.Tryz.underlying299 Go.Proofs.Tryz.underlying189 hj B5 hli];simp only[Result.andThen];rw[Oper.upon_value]
 go_wp2
 go_end0
 exact⟨rfl,rfl⟩
def z3a:Entry Go.Proofs.Tryz.prog 222 Wi true:=
 zmh ⟨_,Go.Proofs.Tryz.func222,rfl,by decide⟩ (λa K D w hs hk=>by
  obtain⟨p,u⟩:=a;obtain⟨b,bl,hp,hb,he,hf,hl,hc⟩:=hk;simp only at hp;subst hp;have hw:=hs _ _ hb;have hlt:=Xr hw;rw[he,hf]at hw;rcases hc with ⟨h0,hK⟩ | ⟨h0,hK⟩
  . have c0:w.cell? ⟨b,0,none⟩=some (.pointer none):=by unfold World.cell?;simp only[hw];simp[h0]
    refine(z9b b w c0 (by simp[World.shape?,hw,hl]) (by unfold World.frozen?;simp only[hw];simp)).mono ?_;rintro e w' ⟨rfl,rfl⟩;refine⟨_,_,rfl,(Wh.cmp _ _).2 hK,?_,?_,?_⟩
    . intro k c hk;rw[zh3 hw];by_cases dH:k=b
      . subst dH;rw[Hp.cD]at hk;cases hk;rw[JE hlt];simp[he,hf]
      . rw[Hp.cl dH]at hk;rw[E8 dH];exact hs k c hk
    . rw[zh3 hw];refine⟨by rw[NN];exact Jd _,λk cy aG=>?_,rfl,rfl,rfl,Jd _⟩;exact E8 λhh=>by rw[hh,hb]at aG;cases aG
    . intro k cy aG;have dH:k≠b:=λhh=>by rw[hh,hb]at aG;cases aG
      rw[Hp.cl dH]at cy;exact absurd aG cy
  . have c0:w.cell? ⟨b,0,none⟩=some (.pointer (some ⟨b,0,none⟩)):=by unfold World.cell?;simp only[hw];simp[h0]
    refine(z9c b w c0).mono ?_;rintro e w' ⟨rfl,rfl⟩;exact⟨_,D,rfl,(Wh.cmp _ _).2 hK,hs,Fr.refl _ _,λk h1 h2=>absurd h2 h1⟩)
def Zh8:zh:=vO (ap (ac (Uw .str) az)) (t2 ti (Uw .val)) λa=>F.yg a.1 a.2.1
def Zwf:aq 146 Zh8 true:=MX { P:=prog,n:=19,fH:=[(222,Wi)],gn:=[222],I6:=[5] } (.q (.q (.q .w))) func146 ⟨z3a,trivial⟩
def Zh9:zh:=ao (ac (Uw (.int .u64)) (ac (Uw (.int .u64)) az)) (Ty.Fx (.cons (Uw (.int .u64)) (.cons (Uw (.int .u64)) .nil)) (λx=>(x.1,x.2,())) (λy=>(y.1,y.2.1)) (λ_=>rfl) (λ_=>rfl)) λa=>F.z99 a.1 a.2.1
def Zwg:aq 226 Zh9:=eo (av 51 []) (.q (.q (.q (.q (.q (.q (.q (.q (.q (.q (.q .w))))))))))) func226 trivial
def Z55:zh:=ao (ac (Uw (.int .u64)) (ac (Uw (.int .u64)) az)) (Ty.Fx (.cons (Uw (.int .u64)) (.cons (Uw (.int .u64)) .nil)) (λx=>(x.1,x.2,())) (λy=>(y.1,y.2.1)) (λ_=>rfl) (λ_=>rfl)) λa=>F.OM a.1 a.2.1
def Zmj:aq 148 Z55:=eo (av 30 [(226,Zh9)]) (.q (.s (.c (.q .w) .l) (.q .w))) func148 ⟨Zwg,trivial⟩
def Z56:zh:=ao (ac (Uw .str) (ac (Uw .str) az)) tb λa=>F.Y7 a.1 a.2.1
def Zmk:aq 221 Z56:=eo (av 18 []) (.q .w) func221 trivial
def Zha:zh:=ao (ac (Uw .str) (ac (Uw .str) az)) tb λa=>F.zq a.1 a.2.1
def Zwh:aq 149 Zha:=eo (av 8 [(221,Z56)]) (.q .w) func149 ⟨Zmk,trivial⟩
def Z58:zh:=ao (ac (Uw .str) (ai az)) (Uw .str) λa=>F.z7b a.1 a.2.1
def Zml:aq 76 Z58:=eo { P:=prog,n:=125,fH:=[(148,Z55),(149,Zha)],I6:=[191] } (.q (.s (.q (.b (.q (.c .w zm)))) (.join [] (.q (.c .l .l)) (.q (.join [] (.q (.c .l .l)) (.q (.s zm (.join [] (.q (.b (.join [(43,.b)] (.q (.c .l (.q (.c .l (.q (.c .l (.q (.c .l .l)))))))) (.c (.b (.q (.c .w (.q (.c .w (.q (.c .w (.q (.c .w zm))))))))) .l)))) (.q (.join [(8,.i)] (.q (.c (.q (.q (.c .l .l))) .l)) (.q (.q (.q (.s (.b (.loop [] (.s (.q (.c .l .l)) (.b .w)))) .w)))))))))))))) func76 ⟨Zmj,Zwh,trivial⟩
def zce:cn ((Option Addr)×Unit):=(ap az)
def z09:Ty ByteArray:=(Uw .str)
def z4z:zh:=vO zce z09 (λa=>F.Wu a.1)
set_option maxHeartbeats 2000000 in
set_option maxRecDepth 100000 in
def zbk(b:Nat)(p:Value)(w:World)(Od:w.heap[b]?=some (.cells #[p,.slice none 0 0] 191 (0,0))) :
 Calls Go.Proofs.Tryz.prog 147 #[.pointer (some ⟨b,0,none⟩)] w λe w'=>e=.returned (.string ⟨#[]⟩)/\w'=w.drew:=by
 have hUS:∀(W:World) (q:Option Addr),(Builtin.unsafeString_ #[258,3] 9 #[.pointer q,.int .i64 0]).run Go.Proofs.Tryz.prog W=.ok (.string .empty) W:=λW q=>Lib.run_unsafeString_none W _ _ _ q
 have c1:w.drew.cell? ⟨b,1,none⟩=some (.slice none 0 0):=by
  have:w.drew.heap[b]?=some (.cells #[p,.slice none 0 0] 191 (0,0)):=Od;rw[Lib.cell_of_heap this];rfl
 have hSD:(Builtin.unsafeSliceData_ #[24] 258 #[.slice none 0 0]).run Go.Proofs.Tryz.prog w.drew=.ok (.pointer none) w.drew:=rfl
 go_enter Go.Proofs.Tryz.func147,Go.Proofs.Tryz.ntmps147
 go_wp2
 go_region
 all_goals (go_wp2;go_ret;exact⟨rfl,rfl⟩)
set_option maxHeartbeats 2000000 in
set_option maxRecDepth 100000 in
def zbl(b g cap cells:Nat)(p:Value)(l:List UInt8)(w:World)(h0:l≠[])(Od:w.heap[b]?=some (.cells #[p,.slice (some ⟨g,0,none⟩) l.length cap] 191 (0,0)))(hc:l.length<=cap)(B5:w.shape? g=some (5,cells))(hn:l.length<=cells)(h63:l.length<=140737488355328)
 (bp:∀j x,l[j]?=some x->w.cell? ((⟨g,0,none⟩:Addr).add j)=some (.int .u8 x.toNat)) :
 Calls Go.Proofs.Tryz.prog 147 #[.pointer (some ⟨b,0,none⟩)] w λe w'=>e=.returned (.string ⟨l.toArray⟩)/\w'=w.drew.freeze ⟨g,0,none⟩ l.length:=by
 have hl0:l.length≠0:=by simpa using h0
 have c1:w.drew.cell? ⟨b,1,none⟩=some (.slice (some ⟨g,0,none⟩) l.length cap):=by
  have:w.drew.heap[b]?=some (.cells #[p,.slice (some ⟨g,0,none⟩) l.length cap] 191 (0,0)):=Od;rw[Lib.cell_of_heap this];rfl
 have hSD:(Builtin.unsafeSliceData_ #[24] 258 #[.slice (some ⟨g,0,none⟩) l.length cap]).run Go.Proofs.Tryz.prog w.drew=.ok (.pointer (some ⟨g,0,none⟩)) w.drew:=
  Lib.run_unsafeSliceData_row _ _ _ _ _ _ (by omega)
 have hUS:(Builtin.unsafeString_ #[258,3] 9 #[.pointer (some ⟨g,0,none⟩),.int .i64 l.length]).run Go.Proofs.Tryz.prog w.drew=.ok (.string ⟨l.toArray⟩) (w.drew.freeze ⟨g,0,none⟩ l.length):=
  Lib.run_unsafeString_row w.drew 258 3 9 5 Go.Proofs.Tryz.underlying258 (by kernel_rfl) g cells B5 l h0 hn (by omega) bp
 go_enter Go.Proofs.Tryz.func147,Go.Proofs.Tryz.ntmps147
 go_wp2
 go_region
 all_goals (go_wp2;go_ret;exact⟨rfl,rfl⟩)
def zci:Entry Go.Proofs.Tryz.prog 147 z4z true:=
 zmh ⟨_,Go.Proofs.Tryz.func147,rfl,by decide⟩ (λa K D w hs hk=>by
  obtain⟨q,u⟩:=a;obtain⟨b,bl,p,hp,hb,he,hf,hc⟩:=hk;simp only at hp;subst hp;have hw:=hs _ _ hb;rw[he,hf]at hw;rcases hc with ⟨mA,hK⟩ | ⟨g,c,l,bg,h0,mA,vS,hg,nD,hlg,h63,cr,hK⟩
  . rw[mA]at hw;refine(zbk b p w hw).mono ?_;rintro e w' ⟨rfl,rfl⟩;exact⟨_,D,rfl,(z09.cmp _ _).2 hK,hs,NO D w,λk h1 h2=>absurd h2 h1⟩
  . rw[mA]at hw;have hwg:=hs _ _ hg;rw[nD]at hwg;have hltg:=Xr hwg;refine(zbl b g c bg.cells.length p l w h0 hw vS (by simp[World.shape?,hwg]) hlg h63 (λj x hj=>?_)).mono ?_
    . rw[yI,Nat.zero_add];unfold World.cell?;simp only[hwg];simp[cr j x hj]
    . rintro e w' ⟨rfl,rfl⟩;have dO:(w.drew.freeze ⟨g,0,none⟩ l.length).heap.size=w.heap.size:=by
       unfold World.freeze;split
       . rfl
       . simp only[Array.size_modify];rfl
      have cd:∀k,k≠g->(w.drew.freeze ⟨g,0,none⟩ l.length).heap[k]?=w.heap[k]?:=λk hk=>by
       unfold World.freeze;split
       . rfl
       . simp only[Array.getElem?_modify];rw[if_neg (λhh=>hk hh.symm)];rfl
      refine⟨_,_,rfl,(z09.cmp _ _).2 hK,?_,?_,?_⟩
      . intro k cb hk;by_cases Ew:k=g
        . simp[Ew]at hk
        . simp only[if_neg Ew]at hk;rw[cd k Ew];exact hs k cb hk
      . refine⟨Nat.le_of_eq dO.symm,λk cy aG=>?_,?_,?_,?_,?_⟩
        . exact cd k λhh=>by rw[hh,hg]at aG;cases aG
        . unfold World.freeze;split<;>rfl
        . unfold World.freeze;split<;>rfl
        . unfold World.freeze;split<;>rfl
        . unfold World.freeze;split<;>exact Nat.le_succ _
      . intro k cy aG;by_cases Ew:k=g
        . simp[Ew]at cy
        . simp only[if_neg Ew]at cy;exact absurd aG cy)
def Zhb:zh:=vO (ap (ac (Uw (.int .u8)) az)) (Uw .val) λa=>F.z4u a.1 a.2.1
def Zwi:aq 143 Zhb true:=MX { P:=prog,n:=17,fH:=[(222,Wi)],gn:=[222],kM:=[13],I6:=[5] } (.q (.q (.q .w))) func143 ⟨z3a,trivial⟩
def Zhc:zh:=ao (ac Ze az) (Uw .str) λa=>F.z6t a.1
def Zwj:aq 75 Zhc:=eo { P:=prog,n:=74,fH:=[(142,nw),(141,IV),(144,Z43),(145,Zh7),(146,Zh8),(76,Z58),(147,z4z),(143,Zhb)],gn:=[146,147,143],ES:=[(11,1),(51,1)],kM:=[1,4,49],fk:=[(223,(.leaf (.int .u32)))],I6:=[191] } (.q (.q (.s zm (.q (.s (.b (.loop [(3,.s),(4,.box [.sl])] (.s (.q (.c .l .l)) (.b (.q (.s (.q (.b (.loop [(5,.leaf (.int .u64)),(6,.i)] (.s (.q (.c .l .l)) (.s (.b (.q .w)) .l))))) .w)))))) (.q (.join [] (.q (.c .l .l)) (.s (.q (.b (.back [] .w (.b (.q (.join [] (.q (.c .l .l)) .l)))))) .w)))))))) func75 ⟨nO,Na,Zlg,Zwe,Zwf,Zml,zci,Zwi,trivial⟩ ⟨Zda,trivial⟩
def Zhd:zh:=ao (ac (Uw .str) (ac (Uw .str) az)) (t2 (Uw .str) tb) λa=>F.Q9 a.1 a.2.1
def Zwk:aq 140 Zhd:=eo (av 15 [(221,Z56)]) (.q (.s zm .w)) func140 ⟨Zmk,trivial⟩
def Zhe:zh:=ao (ac (Uw .str) (ac (Uw .str) az)) (t2 (Uw .str) tb) λa=>F.z37 a.1 a.2.1
def Zwl:aq 74 Zhe:=eo (av 11 [(140,Zhd)]) (.q .w) func74 ⟨Zwk,trivial⟩
def Zhf:zh:=ao (ac ze (ai az)) (t2 (Uw .str) ti) λa=>F.z6q a.1 a.2.1
def Zwm:aq 24 Zhf:=eo (av 60 [(73,Zgz),(75,Zhc),(74,Zhe),(76,Z58)] [] [] [2,6]) (.q (.q (.s zm (.q (.join [(8,.leaf (.str))] (.q (.c .l .l)) (.join [(8,.leaf (.str))] (.q (.c (.draw (zR 0 15)) .l)) (.join [(8,.leaf (.str))] (.q (.c .l .l)) (.s zm .w)))))))) func24 ⟨Zw6,Zwj,Zwl,Zml,trivial⟩
def Zhg:zh:=ao (ac Zg az) tb λa=>F.z0r a.1
def Zwn:aq 299 Zhg:=eo (av 6 [(230,Ar)] [] [] [1]) (.q .w) func299 ⟨Cz,trivial⟩
def Zhh:zh:=ao (aJ (Lq 299 az)) ti λa=>F.ya a.1
def Zwo:aq 298 Zhh:=eo (av 19 [(299,Zhg)]) (.q (.s (.q (.b (.loop [(8,.i)] (.q (.s (.c .l .l) (.s (.b (.q zm)) .l)))))) .w)) func298 ⟨Zwn,trivial⟩
def Zhi:zh:=ao (ap az) ti λa=>F.Vl a.1
def Zwp:aq 228 Zhi:=eo (av 8 [(298,Zhh)]) (.q .w) func228 ⟨Zwo,trivial⟩
def Zhj:zh:=vO (ap (ac zn3 az)) tu λa=>F.Yp a.1 a.2.1
def Zwq:aq 153 Zhj true:=MX (av 83 [(228,Zhi),(229,zpu),(230,Ar),(232,CF),(231,zvx)] [] [] [5,8,10]) (.q (.q (.s (.draw (zR 0 12++[16,12,13,14,15,17,18])) (.s (.q (.c .l .l)) (.s (.q (.b (.loop [(34,.i)] (.q (.s (.c .l .l) (.s (.b (.q (.draw (zR 0 18)))) .l)))))) (.q (.b (.loop [(60,.i)] (.q (.s (.c .l .l) (.s (.b (.q (.draw (zR 0 18)))) .l))))))))))) func153 ⟨Zwp,zxg,Cz,EI,Z7y,trivial⟩
def Zhk:zh:=ao (ac ze az) ts λa=>F.z2w a.1
def Zwr:aq 77 Zhk:=eo (av 63 [(99,lR),(79,EF),(152,Nc),(153,Zhj),(154,Nb),(101,EJ)] [153] [(10,1),(57,1),(60,1)] [1,9,55]) (.q (.q (.s (.draw [0,1,2,3,4]) (.q (.b (.loop [(3,.s),(4,.s),(5,.i)] (.s (.b (.s (.draw [0,2,3,1,4,5,6,7]) (.s (.q (.b (.loop [(25,.i)] (.q (.s (.c .l .l) (.s (.b (.q (.draw (zR 0 6)))) .l)))))) (.s (.draw (zR 0 6)) (.s (.q (.b (.loop [(41,.i)] (.q (.s (.c .l .l) (.s (.b .w) .l)))))) (.s zm .w)))))) .l))))))) func77 ⟨my,IW,zs1,Zwq,zs0,IX,trivial⟩
def Nl:zh:=ao (aJ az) ts λa=>F.Yn a.1
def zs7:aq 250 Nl:=eo (av 23 [(152,Nc),(230,Ar)]) (.q (.q (.join [(3,.i)] (.b (.loop [(3,.i)] (.join [] (.q (.c .l .l)) (.b .l)))) .w))) func250 ⟨zs1,Cz,trivial⟩
def Z59:zh:=ao (aJ az) ti λa=>F.V3 a.1
def Zmm:aq 239 Z59:=eo (av 7 [(250,Nl)]) (.q .w) func239 ⟨zs7,trivial⟩
def Z5a:zh:=ao (aJ (ac Zg az)) ts λa=>F.OY a.1 a.2.1
def Zmn:aq 243 Z5a:=eo (av 27 [(232,CF),(250,Nl)] [] [] [3,7]) (.q (.q (.s (.q (.b (.loop [(13,.i)] (.q (.s (.c .l .l) (.s (.b .w) .l)))))) .w))) func243 ⟨EI,zs7,trivial⟩
def zq7:zh:=ao (aJ az) ts λa=>F.Yq a.1
def zxt:aq 164 zq7:=eo (av 24 [(250,Nl),(99,lR),(229,zpu),(243,Z5a)] [] [] [3]) (.q (.q (.s zm (.s (.draw (zR 1 6++[11,0,7,8,9,10,12,13])) .w)))) func164 ⟨zs7,my,zxg,Zmn,trivial⟩
def Z5b:zh:=ao (aJ az) ts λa=>F.Q7 a.1
def Zmo:aq 241 Z5b:=eo (av 25 [(99,lR),(232,CF),(250,Nl)] [] [] [5,20]) (.q (.q (.s (.q (.b (.loop [(3,.s),(8,.i)] (.q (.s (.c .l .l) (.join [(3,.s)] (.b (.q (.q (.c (.draw (zR 0 8)) .l)))) .l)))))) .w))) func241 ⟨my,EI,zs7,trivial⟩
def Zhl:zh:=ao (aJ (ai az)) ts λa=>F.ql a.1 a.2.1
def Zws:aq 371 Zhl:=eo (av 48 [(148,Z55)]) (.q (.join [] (.q (.c .l .l)) (.q (.join [] (.q (.c .l .l)) (.q (.q (.s (.b (.loop [(8,.i)] (.s (.q (.c .l .l)) (.b (.draw (zR 0 10)))))) .w))))))) func371 ⟨Zmj,trivial⟩
def Zhm:zh:=ao (ai az) ts λa=>F.z4d a.1
def Zwt:aq 346 Zhm:=eo (av 7 [(99,lR),(371,Zhl)]) (.q .w) func346 ⟨my,Zws,trivial⟩
def zvy:zh:=ao (aJ (aJ az)) (t2 ts ts) λa=>F.qj a.1 a.2.1
def Z7z:aq 301 zvy:=eo (av 83 [(250,Nl),(346,Zhm),(229,zpu),(232,CF),(231,zvx)] [] [] [10]) (.q (.q (.q (.q (.s (.q (.b (.loop [(8,.i)] (.s (.q (.c .l .l)) (.s (.b (.s (.draw (zR 0 22)) (.q (.b (.loop [(55,.i)] (.q (.s (.c .l .l) (.s (.b (.q (.draw (zR 0 19)))) .l)))))))) .l))))) .w))))) func301 ⟨zs7,Zwt,zxg,EI,Z7y,trivial⟩
def Zhn:zh:=ao (aJ (aJ az)) ts λa=>F.z72 a.1 a.2.1
def Zwu:aq 302 Zhn:=eo (av 24 [(164,zq7),(301,zvy)]) (.q (.q (.s (.b (.loop [(0,.s),(1,.s)] (.s (.q (.c .l .l)) (.b .w)))) .w))) func302 ⟨zxt,Z7z,trivial⟩
end Den
end

section
namespace Den
open Go Go.RowKit Go.Shelf
open Go.Proofs
attribute [local go_sem] Oper.semAt_some
set_option maxRecDepth 100000 in
set_option maxHeartbeats 2000000 in
def zj7:zum Tryz.prog 347 (.agg [.bool,.sl,.bool,.sl]):=by
 refine⟨enters_of Tryz.func347 (by kernel_rfl) rfl,?_⟩;rintro l ab ⟨xa,xl,xc⟩ J w vK h0 jq gM;simp only at vK h0 jq gM;have hb0:=jq _ _ h0;refine callsIn_of_wp Tryz.func347 rfl trivial ?_ rfl;simp only[Tryz.ntmps347,List.size_toArray,List.length_cons,List.length_nil,Nat.reduceAdd,Nat.reduceSub,Array.replicate_succ,Array.replicate_zero,List.push_toArray,List.append_toArray,List.nil_append,List.cons_append]
 gi_wp2
 gi_loopw [3] (λi wr=>∃k:Nat,k<=xl/\i=.int .i64 ((k:Int)-1)/\J k wr) (λi _=>(RowKit.intOf i+1).toNat)
 case atStart=>exact⟨xl,Jd _,rfl,h0⟩
 case round=>
  obtain⟨k,hk,rfl,hJ⟩:=hrel;have hbx:=jq _ _ hJ;cases k with
  | zero=>
    gi_wp2
    go_end0
    exact⟨⟨_,rfl⟩,hJ⟩
  | succ j=>
    obtain⟨ad,⟨v0,v1,v2,v3,_⟩,kI,jW,f,aai,Fm,body,hy,hR⟩:=gM j wr zO hJ;subst kI;have hc:∀i u,[Value.bool v0,.slice v1.a v1.len v1.cap,.bool v2,.slice v3.a v3.len v3.cap][i]?=some u->wr.cell? (ad.add (j*4+i))=some u:=λi u hu=>by
     have:=jW i u (by simpa [dp.cells,LT.up,Lf.up] using hu);simpa [dp.size] using this
    have mD:=hc 0 _ rfl;have cy:∀i,0<i->ad.add (j*4+i)={ block:=(ad.add (j*4)).block,off:=(ad.add (j*4)).off+i }:=λi hi=>by
     rw[Qf,tQ];unfold Addr.add;rw[if_neg zO];congr 1;omega
    have AS:=hc 1 _ rfl;have Fq:=hc 2 _ rfl;have wS:=hc 3 _ rfl;rw[cy _ zD]at AS Fq wS;rw[Nat.add_zero]at mD;have hkj:(((j+1:Nat):Int)-1)=(j:Int):=zO;rw[hkj];simp only[dp.val,LT.up,Lf.up]at hy
    gi_wp2
    refine⟨rfl,hR.mono ?_⟩;rintro e W3 ⟨rfl,hJ3⟩
    gi_wp2
    go_roundw
    case rel=>exact⟨j,zO,zS,hJ3⟩
    case measure=>simp[RowKit.intOf]
end Den
end

noncomputable section
set_option maxRecDepth 100000
namespace Den
open Go Go.Proofs.Tryz
def Zho:zh:=ao (aJ az) ts λa=>F.Vm a.1
def Zwv:aq 240 Zho:=eo (av 21 [(164,zq7),(241,Z5b),(302,Zhn),(301,zvy)]) (.q (.q (.s zm (.q .w)))) func240 ⟨zxt,Zmo,Zwu,Z7z,trivial⟩
def Zhp:zh:=ao (aJ (aJ az)) (t3 ts ts ti) λa=>F.V4 a.1 a.2.1
def Zww:aq 242 Zhp:=eo (av 20 [(239,Z59),(301,zvy)]) (.q (.s zm (.q .w))) func242 ⟨Zmm,Z7z,trivial⟩
def Zhq:zh:=ao (aJ az) ts λa=>F.zc8 a.1
def Zwx:aq 158 Zhq:=eo (av 42 [(239,Z59),(240,Zho),(241,Z5b),(242,Zhp),(99,lR),(243,Z5a)] [] [] [40]) (.q (.s zm (.q (.q (.q (.b (.loop [(3,.s),(4,.s),(5,.s)] (.b (.q (.join [] zm .w)))))))))) func158 ⟨Zmm,Zwv,Zmo,Zww,my,Zmn,trivial⟩
def Zhr:zh:=ao (aJ az) Zg λa=>F.z4c a.1
def Zwy:aq 244 Zhr:=eo (av 37 [(164,zq7),(99,lR),(193,zpo),(230,Ar),(245,Nf),(264,CE)] [] [] [2,3,5]) (.q (.q (.s zm (.q (.s (.q (.b (.loop [(3,.box [.bool,.sl,.bool,.sl]),(19,.i)] (.q (.s (.c .l .l) (.join [(3,.box [.bool,.sl,.bool,.sl])] (.b (.q (.join [(5,.box [.bool,.sl,.bool,.sl])] (.q (.c .l .l)) (.q (.c .l .l))))) .l)))))) (.s (.draw [0,1,2,3]) .l)))))) func244 ⟨zxt,my,zxa,Cz,zs3,EH,trivial⟩
def Zhs:zh:=ao (aJ az) Ya λa=>F.zff a.1
def Zwz:aq 159 Zhs:=eo (av 10 [(244,Zhr),(245,Nf)] [] [] [2,3]) (.q (.q (.s (.draw [0,2,1,3,4]) .l))) func159 ⟨Zwy,zs3,trivial⟩
def Zht:zh:=ao (aJ az) (Ty.clo 347) λa=>F.Yy a.1
def Zx0:aq 304 Zht:=eo (av 4 []) (.q .w) func304 trivial
def Zhu:zh:=ao (aJ (ac Zg az)) Zg λa=>F.z5m a.1 a.2.1
def Zx1:aq 247 Zhu:=eo { P:=prog,n:=19,fH:=[(99,lR),(304,Zht),(232,CF),(264,CE)],kM:=[3,4,5,7],fk:=[(347,(.agg [.bool,.sl,.bool,.sl]))] } (.q (.q (.s (.q (.b (.back [(5,.box [.bool,.sl,.bool,.sl])] .l (.b (.draw [0,1,3,2,4,5]))))) .w))) func247 ⟨my,Zx0,EI,EH,trivial⟩ ⟨zj7,trivial⟩
def Z5c:zh:=ao (aJ (ac Zg az)) ti λa=>F.FR a.1 a.2.1
def Zmp:aq 161 Z5c:=eo (av 31 [(247,Zhu),(230,Ar)] [] [] [3]) (.q (.q (.s (.q (.b (.loop [(5,.i),(6,.i),(12,.i)] (.q (.s (.c .l .l) (.join [(5,.i),(6,.i)] (.b (.q (.q (.s (.q (.c .l .l)) (.s (.q (.c .l .l)) .l))))) .l)))))) .w))) func161 ⟨Zx1,Cz,trivial⟩
def Zhv:zh:=ao (ac Ya az) Zg λa=>F.z9z a.1
def Zx2:aq 246 Zhv:=eo (av 10 [(264,CE),(139,zpw),(232,CF)] [] [(3,1),(5,1)] [1,2]) (.q .w) func246 ⟨EH,zxi,EI,trivial⟩
def Z2m:cn (Sl×aH×Int×Int×Unit):=(aJ (ac Ya (ai (ai az))))
def Z32:Ty Sl:=ts
def Zhw:zh:=ao Z2m Z32 λa=>F.zj6 a.1 a.2.1 a.2.2.1 a.2.2.2.1
def Zsf(n:Nat):bX:=(av 46 [(246,Zhv),(161,Z5c),(160,ao Z2m Z32 (λa=>F.Qz n a.1 a.2.1 a.2.2.1 a.2.2.2.1))] [] [(28,5),(37,5)] [5,9])
def Znb:∃fn,prog.funcs[160]?=some fn/\fn.body.isNone=false/\(fn.name == "runtime.NumGoroutine")=false:=⟨_,func160,rfl,by decide⟩
set_option maxHeartbeats 4000000 in
def Znj:∀n a K D w,Sub D w->F.Qz n a.1 a.2.1 a.2.2.1 a.2.2.2.1 K D->Calls prog 160 (Z2m.up a).toArray w (lS (λv h=>Z32.dn v λr=>K r h) D w)
 | 0,_,_,_,_,_,h=>h.elim
 | n+1,a,K,D,w,hs,h=>sA (C:=Zsf n) (F:=λa=>F.Qz (n+1) a.1 a.2.1 a.2.2.1 a.2.2.2.1) (fn:=f160) (c:=bd f160) (an:=(.seq .leaf (.seq (.seq .leaf (.block (.seq .leaf (.cond (.seq .leaf .leaf) (.seq .leaf (.cond (.seq .leaf .leaf) .leaf)))))) (.seq .leaf (.seq .leaf (.seq .leaf (.seq .leaf (.seq .leaf .leaf)))))))) ⟨Zx2,Zmp,(yq Znb (Znj n)),trivial⟩ trivial func160 rfl rfl (λ_=>rfl) (by intro a K D;kernel_rfl) a K D w hs h
def Zx3:aq 160 Zhw false:=yq Znb (λa K D w hs h=>h.elim λm h=>Znj m a K D w hs h)
def Zhx:zh:=ao (aJ az) ts λa=>F.z8h a.1
def Zx4:aq 80 Zhx:=eo (av 23 [(158,Zhq),(159,Zhs),(161,Z5c),(160,Zhw)] [] [(15,4),(19,4)] [4]) (.q (.q (.s zm (.q (.s (.draw [0,1,2,3,4,6,7,8,5,9,10,11]) .l))))) func80 ⟨Zwx,Zwz,Zmp,Zx3,trivial⟩
def Zhy:zh:=ao (ac Zg (ap az)) ts λa=>F.Rg a.1 a.2.1
def Zx5:aq 78 Zhy:=eo (av 8 [(79,EF)] [] [] [2]) (.q .w) func78 ⟨IW,trivial⟩
def Zhz:zh:=ao (aJ az) ts λa=>F.V7 a.1
def Zx6:aq 82 Zhz:=eo (av 94 [(164,zq7),(165,yD),(167,zvi),(166,Nd),(168,As)] [] [(28,5),(31,5),(55,12),(63,12)] [3,5,6,7,10,12,13,14,17]) (.q (.q (.q (.s (.q (.b (.loop [(3,.box [.bool,.sl]),(23,.i)] (.q (.s (.c .l .l) (.s (.b (.q (.s (.draw [0,1,2,3,4,11,12,5,6,7,8,9,10,13,14,15]) .l))) .l)))))) (.q (.q (.s (.q (.b (.loop [(10,.box [.bool,.sl]),(48,.i)] (.q (.s (.c .l .l) (.s (.b (.q (.q (.q (.draw (zR 0 7)))))) .l)))))) (.s (.q (.b (.loop [(77,.i)] (.q (.s (.c .l .l) (.s (.b .w) .l)))))) .w)))))))) func82 ⟨zxt,At,Z7k,zs2,CC,trivial⟩
def Zi0:zh:=ao (ac ze az) zy2 λa=>F.z9i a.1
def Zx7:aq 25 Zi0:=eo (av 46 [(77,Zhk),(80,Zhx),(78,Zhy),(81,Z4q),(82,Zhz)] [] [(21,6),(34,6)] [2,6]) (.q (.q (.q (.s (.q (.b (.loop [(2,.box [.sl,.int .i64]),(13,.i)] (.q (.s (.c .l .l) (.join [(2,.box [.sl,.int .i64])] (.b (.q (.s (.draw ([0,1,2,3,4,6,7,5]++zR 8 14)) (.c .w .l)))) .l)))))) .w)))) func25 ⟨Zwr,Zx4,Zx5,Zm5,Zx6,trivial⟩
def Zi1:zh:=ao (ac ze az) tb λa=>F.z81 a.1
def Zx8:aq 84 Zi1:=eo (av 6 [(42,EN)] [] [] [1]) (.q .w) func84 ⟨I4,trivial⟩
def Zi2:zh:=ao (ac ze az) O6 λa=>F.z97 a.1
def Zx9:aq 85 Zi2:=eo (av 5 [] [] [] [1,2]) (.q .w) func85 trivial
def Zi3:zh:=ao (ac zp az) tb λa=>F.zn0 a.1
def Zxa:aq 170 Zi3:=eo (av 13 [(42,EN)] [] [(3,1),(8,1)] [1]) (.q .w) func170 ⟨I4,trivial⟩
def Zi4:zh:=ao (ac A6 az) tb λa=>F.zih a.1
def Zxb:aq 87 Zi4:=eo (av 11 [(170,Zi3)] [] [(3,1),(7,1)] [1]) (.q .w) func87 ⟨Zxa,trivial⟩
def Zi5:zh:=ao (ac ze az) (t2 ze ti) λa=>F.zhh a.1
def Zxc:aq 88 Zi5:=eo (av 10 [(139,zpw),(169,zvs),(94,EL)] [] [] [1,2]) (.q (.s (.draw (zR 0 8)) .l)) func88 ⟨zxi,Z7t,I0,trivial⟩
def Zi6:zh:=ao (ac ze (ac A6 az)) (t2 O6 ti) λa=>F.zbm a.1 a.2.1
def Zxd:aq 27 Zi6:=eo (av 33 [(84,Zi1),(86,zq2),(85,Zi2),(87,Zi4),(88,Zi5)] [] [(31,6)] [2,3,4,6,7]) (.q (.s zm (.q (.s zm (.q (.s zm (.q .w))))))) func27 ⟨Zx8,zxo,Zx9,Zxb,Zxc,trivial⟩
def Zi7:zh:=ao (ac A6 az) tb λa=>F.zjv a.1
def Zxe:aq 90 Zi7:=eo (av 20 [(97,ED)] [] [(3,1),(7,1),(8,1),(14,1),(15,1)] [1]) (.q .w) func90 ⟨IU,trivial⟩
def Zi8:zh:=ao (ac ze az) ze λa=>F.zf0 a.1
def Zxf:aq 91 Zi8:=eo (av 13 [(175,Z8t),(71,zz5),(174,M8)] [] [] [1,2,3]) (.q (.s (.draw [0,7,1,2,3,4,5,6,8,9]) .w)) func91 ⟨Zm7,Z9z,Z21,trivial⟩
def Zi9:zh:=ao (ac ze (ac A6 az)) O6 λa=>F.z9w a.1 a.2.1
def Zxg:aq 29 Zi9:=eo (av 18 [(23,M9),(90,Zi7),(91,Zi8)] [] [(16,5)] [2,3,4,5]) (.q (.q (.join [(5,.box [.sl,.sl,.sl])] (.q (.c (.draw [0,2,1,3,4,5,6]) .l)) .w))) func29 ⟨Z22,Zxe,Zxf,trivial⟩
def Zia:zh:=ao (ac zp az) ti λa=>F.GI a.1
def Zxh:aq 312 Zia:=eo (av 19 [(97,ED)] [] [(4,1),(13,1)] [1]) (.q (.q (.s zm .w))) func312 ⟨IU,trivial⟩
def Zib:zh:=ao (ap (ai az)) tu λa=>F.z6z a.1 a.2.1
def Zxi:aq 373 Zib:=eo (av 13 []) (.q (.c .l .l)) func373 trivial
def Zic:zh:=ao (ap (ac ze (ai az))) ze λa=>F.z7h a.1 a.2.1 a.2.2.1
def Zxj:aq 350 Zic:=eo (av 14 [(373,Zib),(23,M9)] [] [] [4,6]) (.q (.q (.s zm .w))) func350 ⟨Zxi,Z22,trivial⟩
def Zid:zh:=ao (ap (ac zp (ac zp az))) ze λa=>F.z1p a.1 a.2.1 a.2.2.1
def Zxk:aq 313 Zid:=eo (av 14 [(205,Z3x),(350,Zic)] [] [] [4,5,6]) (.q .w) func313 ⟨Zl9,Zxj,trivial⟩
def Zie:zh:=ao (ap (ac zp (ac zp az))) ti λa=>F.zc1 a.1 a.2.1 a.2.2.1
def Zxl:aq 260 Zie:=eo (av 23 [(312,Zia),(313,Zid),(97,ED)] [] [] [4,5]) (.q (.s (.s (.draw [0,2,1,3,4]) (.c (.s (.draw [0,2,1,3,4,5]) .l) .l)) .w)) func260 ⟨Zxh,Zxk,IU,trivial⟩
def Zif:zh:=ao (ac A6 (ac A6 az)) (t2 ti ti) λa=>F.zi7 a.1 a.2.1
def Zxm:aq 173 Zif:=eo (av 36 [(260,Zie)] [] [(8,2),(10,3),(13,2),(15,3),(21,2),(23,3)] [2,3]) (.q (.s zm (.s zm (.q (.q (.s (.q (.c (.s (.draw (zR 0 6)) .l) .l)) .w)))))) func173 ⟨Zxl,trivial⟩
def Zig:zh:=ao (ac ze az) tb λa=>F.Ri a.1
def Zxn:aq 259 Zig:=eo (av 19 [(135,zz6),(134,Ziu)] [] [(3,1),(8,1),(10,1),(15,1)] [1]) (.q .w) func259 ⟨Za0,Zre,trivial⟩
def Zih:zh:=ao (ac zp az) tb λa=>F.Rj a.1
def Zxo:aq 171 Zih:=eo (av 11 [(259,Zig)] [] [(3,1),(7,1)] [1]) (.q .w) func171 ⟨Zxn,trivial⟩
def Zii:zh:=ao (ac A6 az) tb λa=>F.Rk a.1
def Zxp:aq 172 Zii:=eo (av 17 [(64,Zj0)] [] [(3,1),(8,1),(13,1)] [1]) (.q .w) func172 ⟨Zrk,trivial⟩
def Zij:zh:=ao (ac A6 (ac A6 az)) tb λa=>F.zez a.1 a.2.1
def Zxq:aq 89 Zij:=eo (av 39 [(173,Zif),(171,Zih),(172,Zii)] [] [(7,2),(12,3)] [2,3]) (.q (.join [] zm (.q .w))) func89 ⟨Zxm,Zxo,Zxp,trivial⟩
def Zik:zh:=ao (ac O6 (ac O6 az)) tb λa=>F.zc2 a.1 a.2.1
def Zxr:aq 28 Zik:=eo (av 54 [(8,zvd),(89,Zij)] [] [(8,2),(10,3),(15,2),(18,3),(24,2),(30,2),(35,3),(40,6),(42,7),(47,6),(49,7)] [2,3,6,7]) (.q (.join [] zm (.s (.q (.b (.loop [(5,.i)] (.s (.q (.c .l .l)) (.join [] (.b (.s (.draw (zR 0 14)) zm)) .l))))) .w))) func28 ⟨Z7f,Zxq,trivial⟩
def ziq:zh:=ao az tb λa=>F.Dv
def zt1:aq 5 ziq:=eo (av 57 [(23,M9),(22,Z8x),(24,Zhf),(25,Zi0),(26,Z8y),(27,Zi6),(29,Zi9),(28,Zik)] [] [(40,5),(46,5)] [1,5,6,7]) (.q (.q (.q (.q (.q (.s (.draw [1,6,0,2,3,4,5,7,8]) (.s (.draw (zR 0 23++[24,23,25,26,27,28])) .l))))))) func5 ⟨Z22,Zmt,Zwm,Zx7,Zmu,Zxd,Zxg,Zxr,trivial⟩
def zm2:zh:=ao (ac Wv (ac (Uw (.int .u8)) az)) tb λa=>F.Rl a.1 a.2.1
def Zc9:aq 3 zm2:=eo (av 342 [(4,zne),(6,Nj),(7,Z4o),(10,Z4p),(15,Z3z),(16,Zfx),(17,Zg2),(14,Z4m),(18,Zg4),(12,Zgd),(13,Zgf),(8,zvd),(11,zpl),(9,Zgh),(5,ziq)] [] [(222,20),(252,22),(258,20),(260,22)] [2,7,10,12,14,16,20,22,28,30,31,32,33,34]) (.q (.q (.join [] zm (.s (.draw (zR 0 6++[10,6,7,8,9,11,12])) (.s (.draw (zR 0 6++[10,6,7,8,9,11,12])) (.q (.q (.join [] (.s (.draw (zR 0 30++zR 31 9++[30,40,41,42])) (.c .w .l)) (.s (.draw (zR 0 15)) (.s (.draw (zR 0 15)) (.join [] zm (.join [] (.q (.c (.s (.draw (zR 0 9++[13,9,10,11,12,14,15])) (.s (.draw (zR 0 9++[13,9,10,11,12,14,15])) (.s (.draw (zR 0 10)) (.s (.draw (zR 0 10)) (.q zm))))) .l)) (.s (.s (.draw (zR 0 7)) (.c .w .l)) (.s (.draw (zR 0 6++[10,6,7,8,9,11,12])) (.s (.draw (zR 0 6++[10,6,7,8,9,11,12])) (.s (.draw [0,1,2,3,8,4,5,6,7,9,10]) (.q (.s (.draw [0,1,2,3,8,4,5,6,7,9,10]) .w)))))))))))))))))) func3 ⟨Z1q,zs6,Zm3,Zm4,Zlc,Zv4,Zv9,Zm1,Zvb,Zvj,Zvl,Z7f,Z79,Zvn,zt1,trivial⟩
end Den
end
