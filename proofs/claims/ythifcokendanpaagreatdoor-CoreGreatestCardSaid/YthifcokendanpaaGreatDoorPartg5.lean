/-
  Part 5 of the tools and contracts from which the statement is proved.
-/
import Derived.Test.YthifcokendanpaaGreatDoorPartg4
import Derived.Test.YthifcokendanpaaGreatDoorChecked
import Derived.Test.YthifcokendanpaaGreatDoorTie
import Derived.LaidMore
import Derived.MakeChecks
import Derived.SevenTiedAt
import Derived.Test.YthifcokendanpaaGreatDoorProg
import Derived.RangeFuncBox
import Derived.RangeFuncLeaves
import Derived.Shelf.Abstract
import Derived.WalkKit
import Derived.OwnWalkIn
import Derived.TacticsInMore
import Derived.LoopNIn
import Derived.LoopIn
set_option linter.all false
section
namespace Den
open Go Iv Lx
theorem zjy {h:Hp} {Ki:Int→Hp→Prop} {body:(Int×Unit)→((Int×Unit)→Hp→Prop)→Hp→Prop} {n:Nat} {g:Nat→Prop} (hn:n≤140737488355328)
 (hb:∀(i:Nat) h' (k:(Int×Unit)→Hp→Prop),h.le h'→i<n→(∀b h'',h'.le h''→(b=true↔g i)→ifP b (Ki (i:Int) h'') (k (IntKind.i64.wrap ((i:Int)+1),()) h''))→body ((i:Int),()) k h')
 (he:∀h' (k:(Int×Unit)→Hp→Prop),Ki (-1) h'→body ((n:Int),()) k h')
 (H:∀r h',h.le h'→(0≤r↔∃i,i<n∧g i)→Ki r h'):loopP body (0,()) h:=by
 refine zcx hn (fun i h'=>h.le h'∧∀j,j<i→¬g j) ⟨Hp.le_refl _,fun j hj=>by omega⟩ ?_
 rintro i h1 hi ⟨hl1,hno⟩ k hk2
 by_cases hi':i<n
 · refine hb i h1 k hl1 hi' fun b h2 hl2 hbg=>?_
   refine za6 (fun h3=>H _ _ (Hp.le_trans hl1 hl2) ⟨fun _=>⟨i,hi',hbg.1 h3⟩,fun _=>by omega⟩) (fun h3=>hk2 _ hi' ⟨Hp.le_trans hl1 hl2,fun j hj=>?_⟩)
   rcases Nat.lt_or_ge j i with h5 | h5
   · exact hno j h5
   · have:j=i:=by omega
     subst this
     intro hg
     rw [hbg.2 hg] at h3; cases h3
 · obtain rfl:i=n:=by omega
   exact he h1 k (H _ _ hl1 ⟨fun hh=>by omega,fun ⟨j,hj,hg⟩=>absurd hg (hno j hj)⟩)
def eqP {α:Type} (h:Hp) (x b:α):Prop:=x=b
def ptc (x:TPoint):List Value:=[.bool x.x.num.neg,Lf.sl.up x.x.num.mag,.bool x.x.den.neg,Lf.sl.up x.x.den.mag,.bool x.y.num.neg,Lf.sl.up x.y.num.mag,.bool x.y.den.neg,Lf.sl.up x.y.den.mag]
def rdc (x:TRound):List Value:=[.int .i64 x.center,.bool x.radius.num.neg,Lf.sl.up x.radius.num.mag,.bool x.radius.den.neg,Lf.sl.up x.radius.den.mag]
def sgc (x:TSegment):List Value:=[.int .i64 x.a,.int .i64 x.b]
def arcc (x:TArc):List Value:=[.int .i64 x.circle,.int .i64 x.a,.int .i64 x.b,.bool x.cw]
def pic (x:TPiece):List Value:=[.bool x.arc,.int .i64 x.index,.bool x.back]
def slc (x:Sl):List Value:=[Lf.sl.up x]
def PTT (h:Hp) (x:TPoint) (b:Option Rat×Option Rat):Prop:=OR h x.x b.1∧OR h x.y b.2
def RN (h:Hp) (x:TRound) (b:Int×Option Rat):Prop:=x.center=b.1∧OR h x.radius b.2
def CHN (h:Hp) (x:Sl) (ps:List TPiece):Prop:=LR pic 3 eqP h x ps
theorem zed:Rec ptc 8 PTT:=⟨fun _=>rfl,by decide,fun _=>rfl,fun hx hl=>⟨hx.1.le hl,hx.2.le hl⟩⟩
theorem zee:Rec rdc 5 RN:=⟨fun _=>rfl,by decide,fun _=>rfl,fun hx hl=>⟨hx.1,hx.2.le hl⟩⟩
theorem zis:Rec sgc 2 eqP:=⟨fun _=>rfl,by decide,fun _=>rfl,fun hx hl=>hx⟩
theorem zfb:Rec arcc 4 eqP:=⟨fun _=>rfl,by decide,fun _=>rfl,fun hx hl=>hx⟩
theorem zo1:Rec pic 3 eqP:=⟨fun _=>rfl,by decide,fun _=>rfl,fun hx hl=>hx⟩
theorem zh7:Rec slc 1 CHN:=⟨fun _=>rfl,by decide,fun _=>rfl,fun hx hl=>LR.le zo1 hx hl⟩
structure PSk where
 pts:List (Option Rat×Option Rat)
 cir:List (Int×Option Rat)
 seg:List TSegment
 arc:List TArc
 chn:List (List TPiece)
 con:List PCon
def SK (h:Hp) (s:TSketch) (S:PSk):Prop:=
 LR ptc 8 PTT h s.points S.pts∧LR rdc 5 RN h s.circles S.cir∧LR sgc 2 eqP h s.segments S.seg∧LR arcc 4 eqP h s.arcs S.arc∧LR slc 1 CHN h s.chains S.chn∧LR cc 5 CO h s.constraints S.con
theorem SK.le {h h':Hp} {s:TSketch} {S:PSk} (hx:SK h s S) (hl:h.le h'):SK h' s S:=
 ⟨hx.1.le zed hl,hx.2.1.le zee hl,hx.2.2.1.le zis hl,hx.2.2.2.1.le zfb hl,hx.2.2.2.2.1.le zh7 hl,hx.2.2.2.2.2.le zaw hl⟩
def sSk (S:PSk):Prop:=S.pts.length≤10∧S.cir.length≤10∧S.seg.length≤10∧S.arc.length≤10∧S.chn.length≤10∧S.con.length≤20∧(∀c∈S.chn,c.length≤20)∧∀c∈S.con,sC c
def hasP (n:Nat) (i:Int):Prop:=0≤i∧i<n
def cen (S:PSk) (i:Int):Int:=(S.cir.getD i.toNat (0,none)).1
def endsP (S:PSk) (p:TPiece):Int×Int:=
 let q:=if p.arc=true then ((S.arc.getD p.index.toNat ⟨0,0,0,false⟩).a,(S.arc.getD p.index.toNat ⟨0,0,0,false⟩).b) else ((S.seg.getD p.index.toNat ⟨0,0⟩).a,(S.seg.getD p.index.toNat ⟨0,0⟩).b)
 if p.back=true then (q.2,q.1) else q
def okP (S:PSk) (p:TPiece):Prop:=hasP (if p.arc=true then S.arc.length else S.seg.length) p.index
def VCh (S:PSk) (c:List TPiece):Prop:=c≠[]∧(∀p∈c,okP S p)∧∀i (h:i+1<c.length),(endsP S c[i]).2=(endsP S c[i+1]).1
def VA (S:PSk) (a:TArc):Prop:=hasP S.cir.length a.circle∧hasP S.pts.length a.a∧hasP S.pts.length a.b∧a.a≠cen S a.circle∧a.b≠cen S a.circle
def VR (S:PSk) (c:Int×Option Rat):Prop:=hasP S.pts.length c.1∧∃q,c.2=some q∧0<q.num
def VG (S:PSk) (g:TSegment):Prop:=hasP S.pts.length g.a∧hasP S.pts.length g.b∧g.a≠g.b
def VP (p:Option Rat×Option Rat):Prop:=p.1.isSome=true∧p.2.isSome=true
def VS (S:PSk):Prop:=(∀p∈S.pts,VP p)∧(∀c∈S.cir,VR S c)∧(∀g∈S.seg,VG S g)∧(∀a∈S.arc,VA S a)∧(∀c∈S.chn,VCh S c)∧∀c∈S.con,VC c S.pts.length S.cir.length
theorem zbd {α:Type} {l:List α} {i:Nat} {d:α} (h:i<l.length):l.getD i d=l[i]:=by rw [List.getD_eq_getElem?_getD,List.getElem?_eq_getElem h]; rfl
theorem zm5 {α:Type} {l:List α} {P:α→Prop}:(∃i,i<l.length∧∃h:i<l.length,¬P l[i])↔¬∀x∈l,P x:=by
 constructor
 · rintro ⟨i,hi,h,hn⟩ hh
   exact hn (hh _ (List.getElem_mem h))
 · intro hh
   apply Classical.byContradiction
   intro hn
   exact hh fun x hx=>by
    obtain ⟨i,hi,rfl⟩:=List.mem_iff_getElem.1 hx
    exact Classical.byContradiction fun hp=>hn ⟨i,hi,hi,hp⟩
section
variable {h : Hp} {s : TSketch} {S : PSk} {Kb : Bool → Hp → Prop} {Ki : Int → Hp → Prop} {l : Sl}
theorem zi2 {n:Nat} {i:Int} (H:∀b,(b=true↔hasP n i)→Kb b h):callP (F.zdu (n:Int) i) Kb h:=by
 refine za1 (fun b h'=>h'=h∧(b=true↔hasP n i)) (fun K' hk=>?_) fun b h' _ hb=>by obtain ⟨rfl,hb⟩:=hb; exact H b hb
 unfold F.zdu
 refine za0 (fun h1=>hk _ _ (Hp.le_refl _) ⟨rfl,by rw [decide_eq_true_iff]; exact ⟨fun hh=>⟨h1,hh⟩,fun hh=>hh.2⟩⟩) (fun h1=>hk _ _ (Hp.le_refl _) ⟨rfl,fun hh=>(by cases hh),fun hh=>absurd hh.1 h1⟩)
theorem zt5 (hx:SK h s S) (hs:sSk S) (H:∀h',h.le h'→Kb false h'):callP (F.zhe s) Kb h:=by
 refine za1 (fun b h'=>b=false) (fun K' hk=>?_) fun b h' hl hb=>by subst hb; exact H h' hl
 unfold F.zhe
 obtain ⟨x1,x2,x3,x4,x5,x6⟩:=hx
 obtain ⟨s1,s2,s3,s4,s5,s6,s7,s8⟩:=hs
 have l1:=x1.len zed
 have l2:=x2.len zee
 have l3:=x3.len zis
 have l4:=x4.len zfb
 have l5:=x5.len zh7
 have l6:=x6.len zaw
 refine zg5 fun a h1 hl1 hc=>?_
 have hr:IL h1 ⟨some a,6,6⟩ [(s.points.len:Int),s.circles.len,s.segments.len,s.arcs.len,s.chains.len,s.constraints.len]:=⟨zea hc rfl,Nat.le_refl _⟩
 refine zcx (n:=6) (by omega) (fun i h'=>h'=h1) rfl ?_
 rintro i h1 hi rfl k hk2
 refine za0 (fun h2=>?_) (fun h2=>?_)
 · have hi':i<6:=by have:(i:Int)<6:=h2; omega
   have hall:∀z∈([(s.points.len:Int),s.circles.len,s.segments.len,s.arcs.len,s.chains.len,s.constraints.len]:List Int),z≤20:=by
    simp only [List.mem_cons,List.not_mem_nil,or_false,forall_eq_or_imp,forall_eq]
    omega
   have h9:=hall _ (List.getElem_mem (show i<([(s.points.len:Int),s.circles.len,s.segments.len,s.arcs.len,s.chains.len,s.constraints.len]:List Int).length from hi'))
   refine hr.get i rfl hi' (za0 (fun h3=>?_) (fun h3=>hk2 _ hi' rfl))
   exfalso
   have h3:_>(200:Int):=h3
   omega
 · refine za1 (fun b h'=>b=false) (fun K2 hk3=>?_) fun b h' hl hb=>hk _ _ (Hp.le_trans hl1 hl) hb
   unfold F.zbe
   refine za1 (fun r h'=>¬0≤r) (fun K4 hk4=>?_) fun r h' hl hr=>hk3 _ _ hl (decide_eq_false hr)
   unfold F.zbm
   refine zjy (n:=S.chn.length) (g:=fun i=>False) (by omega) (fun i h' k hl hi' hb=>?_) (fun h' k hk=>za0 (fun hh=>by simp only at hh; omega) (fun _=>hk)) (fun r h' hl hr=>hk4 _ _ hl (fun hh=>by obtain ⟨_,_,hf⟩:=hr.1 hh; exact hf))
   refine za0 (fun _=>?_) (fun hh=>by simp only at hh; omega)
   refine (x5.le zh7 (Hp.le_trans hl1 hl)).get zh7 i rfl hi' fun b x hxx hcc=>?_
   have e0:=hcc 0 _ rfl
   rw [zb7] at e0
   refine ⟨_,e0,?_⟩
   have hxl:=LR.len zo1 hxx
   have:=s7 _ (List.getElem_mem hi')
   refine zak false (fun K' hk=>?_) (hb false _ (Hp.le_refl _) (by simp))
   unfold F.zi4
   rw [decide_eq_false (by omega)]; exact hk
theorem za5h {p:TPiece} {K:(Int×Int)→Hp→Prop} (hx:SK h s S) (hp:okP S p) (H:K (endsP S p) h):F.zhq s p K h:=by
 unfold F.zhq
 obtain ⟨x1,x2,x3,x4,x5,x6⟩:=hx
 unfold okP hasP at hp
 unfold endsP at H
 refine za5 (fun st h'=>h'=h∧(st.1,st.2.1)=(if p.arc=true then ((S.arc.getD p.index.toNat ⟨0,0,0,false⟩).a,(S.arc.getD p.index.toNat ⟨0,0,0,false⟩).b) else ((S.seg.getD p.index.toNat ⟨0,0⟩).a,(S.seg.getD p.index.toNat ⟨0,0⟩).b))) ?_ ?_
 · rintro ⟨a,b,_⟩ h ⟨rfl,hab⟩
   simp only at hab H
   rw [←hab] at H
   refine za6 (fun h1=>?_) (fun h1=>?_)
   · rw [if_pos h1] at H; exact H
   · rw [h1] at H; exact H
 · refine za6 (fun h1=>?_) (fun h1=>?_)
   · rw [if_pos h1] at hp
     have hk:p.index.toNat<S.arc.length:=by omega
     refine x4.get zfb p.index.toNat (by omega) hk fun a x hxx hc=>⟨_,hc 1 _ rfl,x4.get zfb p.index.toNat (by omega) hk fun b y hyy hc2=>⟨_,hc2 2 _ rfl,rfl,?_⟩⟩
     have e1:x=S.arc[p.index.toNat]:=hxx
     have e2:y=S.arc[p.index.toNat]:=hyy
     subst e1
     rw [if_pos h1,zbd hk,e2]
   · rw [h1] at hp
     simp only [Bool.false_eq_true,if_false] at hp
     have hk:p.index.toNat<S.seg.length:=by omega
     refine x3.get zis p.index.toNat (by omega) hk fun a x hxx hc=>⟨_,hc 0 _ rfl,x3.get zis p.index.toNat (by omega) hk fun b y hyy hc2=>⟨_,hc2 1 _ rfl,rfl,?_⟩⟩
     have e1:x=S.seg[p.index.toNat]:=hxx
     have e2:y=S.seg[p.index.toNat]:=hyy
     subst e1
     rw [h1,zbd hk,e2]
     rfl
theorem zyr {p:TPiece} {K:(Int×Int)→Hp→Prop} (hx:SK h s S) (hp:okP S p) (H:K (endsP S p) h):callP (F.zhq s p) K h:=zak _ (fun K' hk=>za5h hx hp hk) H
end
end Den
end

section
namespace Den
open Go Iv Lx Go.Proofs
open Go.ChangeShapes Go.WideShapes Go.ChangeAt Go.RowKit
theorem zabh:laidOutB Tryz.prog=true:=by kernel_rfl
theorem zabf:mapsRowed Tryz.prog=true:=by kernel_rfl
theorem zabg:sizedB Tryz.prog=true:=by kernel_rfl
theorem zpz:Tryz.prog.cellsOf 4=1:=by kernel_rfl
theorem c_int:Tryz.prog.cellsOf 3=1:=by kernel_rfl
theorem c_str:Tryz.prog.cellsOf 9=1:=by kernel_rfl
theorem za7g:Tryz.prog.bytesOf 180=4:=by kernel_rfl
theorem c_u32:Tryz.prog.cellsOf 180=1:=by kernel_rfl
theorem c_W:Tryz.prog.cellsOf 59=1:=by kernel_rfl
theorem c_I:Tryz.prog.cellsOf 61=2:=by kernel_rfl
theorem c_R:Tryz.prog.cellsOf 63=4:=by kernel_rfl
theorem c_E:Tryz.prog.cellsOf 66=7:=by kernel_rfl
theorem c_sE:Tryz.prog.cellsOf 64=1:=by kernel_rfl
theorem c_sI:Tryz.prog.cellsOf 32=1:=by kernel_rfl
theorem c_C:Tryz.prog.cellsOf 101=5:=by kernel_rfl
theorem c_P:Tryz.prog.cellsOf 88=8:=by kernel_rfl
theorem c_O:Tryz.prog.cellsOf 90=5:=by kernel_rfl
theorem c_G:Tryz.prog.cellsOf 94=2:=by kernel_rfl
theorem c_A:Tryz.prog.cellsOf 96=4:=by kernel_rfl
theorem c_Pi:Tryz.prog.cellsOf 154=3:=by kernel_rfl
theorem c_sPi:Tryz.prog.cellsOf 98=1:=by kernel_rfl
theorem c_sP:Tryz.prog.cellsOf 22=1:=by kernel_rfl
theorem c_sO:Tryz.prog.cellsOf 23=1:=by kernel_rfl
theorem c_sG:Tryz.prog.cellsOf 24=1:=by kernel_rfl
theorem c_sA:Tryz.prog.cellsOf 25=1:=by kernel_rfl
theorem za7h:Tryz.prog.cellsOf 26=1:=by kernel_rfl
theorem c_sC:Tryz.prog.cellsOf 27=1:=by kernel_rfl
theorem c_S:Tryz.prog.cellsOf 29=6:=by kernel_rfl
section
variable {H : Type} {enc : TypeId × Value → H} {P : Program} {w : World}
def OktN (enc:TypeId×Value→H) (P:Program) (w:World) (n:Nat) (t:TypeId) (cs:List Value):Prop:=∃x,DataW.trod enc P w 0 (fun _=>true) true n t cs=some x∧∀k∈x.1.weights P t,k≤reachBytes
theorem Okt.n {t:TypeId} {cs:List Value} (h:Okt enc P w t cs):∃n,OktN enc P w n t cs:=h
theorem OktN.okt {n:Nat} {t:TypeId} {cs:List Value} (h:OktN enc P w n t cs):Okt enc P w t cs:=⟨n,h⟩
theorem OktN.fields {n:Nat} {t:TypeId} {fs:Array Field} {cs:List Value} (ht:P.underlying t=some (.struct fs)) (h:OktN enc P w n t cs) :
 ∃m,n=m+1∧cs.length=P.cellsOf t∧∀(i:Nat) (f:Field),fs[i]?=some f→OktN enc P w m f.type ((cs.drop f.offset).take (P.cellsOf f.type)):=by
 obtain ⟨x,h,hw⟩:=h
 obtain ⟨xs,m,en,e,hl,hx,hf⟩:=DataW.trod_struct ht h
 subst e
 simp only [DataW.weights,ht] at hw
 refine ⟨m,en,hl,fun i f hi=>?_⟩
 have h1:=hf i f hi
 have h2:i<xs.length:=by rw [hx]; exact (Array.getElem?_eq_some_iff.1 hi).1
 rw [List.getElem?_eq_getElem h2] at h1
 refine ⟨_,h1,fun k hk=>hw k (zgl (i:=i) ?_ ?_ k hk)⟩
 · rw [List.getElem?_map,Array.getElem?_toList,hi]; rfl
 · rw [List.getElem?_map,List.getElem?_eq_getElem h2]; rfl
theorem OktN.slice {n:Nat} {t e:TypeId} {cs:List Value} (ht:P.underlying t=some (.slice e)) (h:OktN enc P w n t cs) :
 ∃s:Sl,cs=[Lf.sl.up s]∧s.len≤s.cap∧s.len*P.bytesOf e≤reachBytes∧∃css:List (List Value),css.length=s.len∧(∀c∈css,c.length=P.cellsOf e∧∃m,m<n∧OktN enc P w m e c)∧Rd (hpW w) (P.cellsOf e) s css.flatten:=by
 obtain ⟨x,h,hw⟩:=h
 rcases DataW.trod_slice ht h with ⟨rfl,_⟩ | ⟨a,len,cap,elems,rest,m,en,rfl,ex,_,hl,hm,hlen,hel,_,_⟩
 · exact ⟨⟨none,0,0⟩,rfl,Nat.le_refl _,by simp,[],rfl,by simp,by simp,rfl⟩
 · subst ex
   simp only [DataW.weights,ht] at hw
   have hby:len*P.bytesOf e≤reachBytes:=by
    refine Nat.le_trans (Nat.mul_le_mul_right _ ?_) (hw _ (List.mem_cons_self ..))
    simp only [List.length_map,hlen]
    omega
   have each:∀i,i<len→∃c,w.cells? 0 (a.add (i*P.cellsOf e)) (P.cellsOf e)=some c∧OktN enc P w m e c:=fun i hi=>by
    have h1:=hel i hi
    rw [List.getElem?_eq_getElem (by omega),Option.bind_eq_some_iff] at h1
    obtain ⟨c,hc,hd⟩:=h1
    exact ⟨c,hc,_,hd,fun k hk=>hw k (List.mem_cons_of_mem _ (List.mem_append_left _ (zj2 (List.mem_map.2 ⟨_,List.getElem_mem (by omega),rfl⟩) k hk)))⟩
   have hall:∀k,k≤len→∃css:List (List Value),css.length=k∧∀i (hi:i<css.length),w.cells? 0 (a.add (i*P.cellsOf e)) (P.cellsOf e)=some css[i]∧OktN enc P w m e css[i]:=by
    intro k
    induction k with
    | zero=>intro _; exact ⟨[],rfl,fun i hi=>by simp at hi⟩
    | succ k ih=>
      intro hk
      obtain ⟨css,h1,h2⟩:=ih (by omega)
      obtain ⟨c,hc,hd⟩:=each k (by omega)
      refine ⟨css++[c],by simp [h1],fun i hi=>?_⟩
      by_cases hik:i<css.length
      · rw [List.getElem_append_left hik]; exact h2 i hik
      · have:i=k:=by simp at hi; omega
        subst this
        rw [List.getElem_append_right (by omega)]
        simpa [h1] using ⟨hc,hd⟩
   obtain ⟨css,h1,h2⟩:=hall len (Nat.le_refl _)
   have hsz:∀c∈css,c.length=P.cellsOf e:=fun c hc=>by
    obtain ⟨i,hi,rfl⟩:=List.mem_iff_getElem.1 hc
    exact (World.cells?_some (h2 i hi).1).2.1
   refine ⟨⟨some a,len,cap⟩,rfl,hl,hby,css,h1,fun c hc=>⟨hsz c hc,?_⟩,?_,?_⟩
   · obtain ⟨i,hi,rfl⟩:=List.mem_iff_getElem.1 hc
     exact ⟨m,by omega,(h2 i hi).2⟩
   · rw [zlh hsz,h1]
   · refine zrw fun i hi=>?_
     rw [zlh hsz] at hi
     have hk:0<P.cellsOf e:=by
      rcases Nat.eq_zero_or_pos (P.cellsOf e) with h0 | h0
      · rw [h0,Nat.mul_zero] at hi; omega
      · exact h0
     have hq:i/P.cellsOf e<css.length:=(Nat.div_lt_iff_lt_mul hk).2 hi
     have hr:i % P.cellsOf e<P.cellsOf e:=Nat.mod_lt _ hk
     have hi':i=i/P.cellsOf e*P.cellsOf e+i % P.cellsOf e:=by rw [Nat.mul_comm]; exact (Nat.div_add_mod _ _).symm
     have h3:=(World.cells?_some (h2 _ hq).1).2.2 _ hr
     rw [zcs,←hi'] at h3
     have h4:css.flatten[i]?=css.flatten[i/P.cellsOf e*P.cellsOf e+i % P.cellsOf e]?:=congrArg (css.flatten[·]?) hi'
     rw [h3,h4,zrt hsz hr,List.getElem?_eq_getElem hq]
     rfl
theorem zr5 {α β:Type} {c:α→List Value} {Q:α→β→Prop} {R:List Value→Prop} (hel:∀cs,R cs→∃x b,cs=c x∧Q x b):∀{css:List (List Value)},(∀d∈css,R d) →
 ∃(xs:List α) (ps:List β),css.flatten=xs.flatMap c∧xs.length=ps.length∧css.length=xs.length∧∀k (h1:k<xs.length) (h2:k<ps.length),Q xs[k] ps[k]
 | [],_=>⟨[],[],rfl,rfl,rfl,fun k h1 _=>by simp at h1⟩
 | d :: r,h=>by
   obtain ⟨xs,ps,h1,h2,h3,h4⟩:=zr5 hel (css:=r) fun x hx=>h x (List.mem_cons_of_mem _ hx)
   obtain ⟨x,b,hx,hq⟩:=hel d (h d (by simp))
   refine ⟨x :: xs,b :: ps,?_,by simp [h2],by simp [h3],fun k k1 k2=>?_⟩
   · rw [List.flatten_cons,h1,hx]; rfl
   · cases k with
     | zero=>exact hq
     | succ k=>exact h4 k (by simpa using k1) (by simpa using k2)
theorem zk1 {α β:Type} {c:α→List Value} {n:Nat} {Q:Hp→α→β→Prop} {t e:TypeId} {cs:List Value} (ht:P.underlying t=some (.slice e)) (hce:P.cellsOf e=n)
 (hel:∀cs,Okt enc P w e cs→∃(x:α) (b:β),cs=c x∧Q (hpW w) x b) (h:Okt enc P w t cs):∃(s:Sl) (ps:List β),cs=[Lf.sl.up s]∧LR c n Q (hpW w) s ps:=by
 obtain ⟨s,hs,h1,h2,css,h3,h4,h5⟩:=h.slice ht
 obtain ⟨xs,ps,g1,g2,g3,g4⟩:=zr5 hel (fun d hd=>(h4 d hd).2)
 rw [hce,g1] at h5
 exact ⟨s,ps,hs,xs,h5,h1,g2,g4⟩
theorem zad {cs a r:List Value} {o k:Nat} (h1:(cs.drop o).take k=a) (h2:cs.drop (o+k)=r):cs.drop o=a++r:=by
 rw [←h1,←h2,←List.drop_drop,List.take_append_drop]
theorem zdy {cs:List Value} {n:Nat} (h:cs.length=n):cs.drop n=[]:=List.drop_of_length_le (by omega)
end
section
variable {H : Type} {enc : TypeId × Value → H} {w : World} {cs : List Value}
theorem wc_of:∀{css:List (List Value)},(∀c∈css,c.length=1∧Okt enc Tryz.prog w 180 c)→∃l:List Nat,css.flatten=wc l∧okW l
 | [],_=>⟨[],rfl,fun d hd=>by simp at hd⟩
 | c :: r,h=>by
   obtain ⟨l,h1,h2⟩:=wc_of (css:=r) fun x hx=>h x (List.mem_cons_of_mem _ hx)
   obtain ⟨m,rfl,hw⟩:=(h c (by simp)).2.int Tryz.underlying180
   simp [Lit.wf,IntKind.min,IntKind.max,IntKind.signed,IntKind.bits] at hw
   refine ⟨m.toNat :: l,?_,fun d hd=>?_⟩
   · rw [List.flatten_cons,h1]
     simp only [wc,List.map_cons,List.cons_append,List.nil_append]
     rw [Int.toNat_of_nonneg (by omega)]
   · rcases List.mem_cons.1 hd with rfl | hd
     · rw [W_eq]; omega
     · exact h2 d hd
theorem okt_W (h:Okt enc Tryz.prog w 59 cs):∃s:Sl,cs=[Lf.sl.up s]∧s.len≤35184372087808∧∃l,RdW (hpW w) s l∧okW l:=by
 obtain ⟨s,rfl,h1,h2,css,h3,h4,h5⟩:=h.slice Tryz.underlying59
 rw [c_u32] at h4 h5
 rw [za7g,show reachBytes=140737488351232 from rfl] at h2
 obtain ⟨l,hl,ok⟩:=wc_of h4
 rw [hl] at h5
 exact ⟨s,rfl,by omega,l,⟨h5,h1⟩,ok⟩
theorem okt_I (h:Okt enc Tryz.prog w 61 cs):∃x:TInt,cs=[.bool x.neg,Lf.sl.up x.mag]∧x.mag.len≤35184372087808∧AI (hpW w) x:=by
 obtain ⟨hl,hf⟩:=h.fields Tryz.underlying61
 rw [c_I] at hl
 have h0:Okt enc Tryz.prog w 4 ((cs.drop 0).take (Tryz.prog.cellsOf 4)):=hf 0 _ rfl
 have h1:Okt enc Tryz.prog w 59 ((cs.drop 1).take (Tryz.prog.cellsOf 59)):=hf 1 _ rfl
 rw [zpz] at h0
 rw [c_W] at h1
 obtain ⟨b,hb⟩:=h0.bool Tryz.underlying4
 obtain ⟨s,hs,hm,hr⟩:=okt_W h1
 exact ⟨⟨b,s⟩,zad hb (zad hs (zdy hl)),hm,hr⟩
theorem okt_R (h:Okt enc Tryz.prog w 63 cs):∃(x:TRat) (v:Option Rat),cs=[.bool x.num.neg,Lf.sl.up x.num.mag,.bool x.den.neg,Lf.sl.up x.den.mag]∧OR (hpW w) x v:=by
 obtain ⟨hl,hf⟩:=h.fields Tryz.underlying63
 rw [c_R] at hl
 have h0:Okt enc Tryz.prog w 61 ((cs.drop 0).take (Tryz.prog.cellsOf 61)):=hf 0 _ rfl
 have h1:Okt enc Tryz.prog w 61 ((cs.drop 2).take (Tryz.prog.cellsOf 61)):=hf 1 _ rfl
 rw [c_I] at h0 h1
 obtain ⟨x,hx,mx,ax⟩:=okt_I h0
 obtain ⟨y,hy,my,ay⟩:=okt_I h1
 obtain ⟨v,hv⟩:=OR_of (x:=⟨x,y⟩) ⟨ax,ay⟩ mx my
 exact ⟨⟨x,y⟩,v,zad hx (zad hy (zdy hl)),hv⟩
theorem okt_E:∀(n:Nat) (cs:List Value),OktN enc Tryz.prog w n 66 cs→∃(e:TExpr) (p:PEx),cs=ec e∧EX (hpW w) e p:=by
 intro n
 induction n using Nat.strongRecOn with
 | _ n ih=>
   intro cs h
   obtain ⟨m,rfl,hl,hf⟩:=h.fields Tryz.underlying66
   rw [c_E] at hl
   have h0:OktN enc Tryz.prog w m 3 ((cs.drop 0).take (Tryz.prog.cellsOf 3)):=hf 0 _ rfl
   have h1:OktN enc Tryz.prog w m 63 ((cs.drop 1).take (Tryz.prog.cellsOf 63)):=hf 1 _ rfl
   have h2:OktN enc Tryz.prog w m 9 ((cs.drop 5).take (Tryz.prog.cellsOf 9)):=hf 2 _ rfl
   have h3:OktN enc Tryz.prog w m 64 ((cs.drop 6).take (Tryz.prog.cellsOf 64)):=hf 3 _ rfl
   rw [c_int] at h0
   rw [c_R] at h1
   rw [c_str] at h2
   rw [c_sE] at h3
   obtain ⟨op,ho,_⟩:=h0.okt.int Tryz.underlying3
   obtain ⟨x,v,hx,hv⟩:=okt_R h1.okt
   obtain ⟨nm,hn,_⟩:=h2.okt.str Tryz.underlying9
   obtain ⟨s,hs,k1,k2,css,k3,k4,k5⟩:=h3.slice Tryz.underlying64
   obtain ⟨xs,ps,g1,g2,g3,g4⟩:=zr5 (R:=fun c=>∃j,j<m∧OktN enc Tryz.prog w j 66 c) (c:=ec) (Q:=EX (hpW w)) (fun c ⟨j,hj,hc⟩=>ih j (by omega) c hc) (fun d hd=>(k4 d hd).2)
   rw [c_E,g1] at k5
   exact ⟨⟨op,x,nm,s⟩,.mk op x v nm ps,zad ho (zad hx (zad hn (zad hs (zdy hl)))),EX.mk ⟨op,x,nm,s⟩ v xs ps hv k5 k1 g2 g4⟩
theorem zu8:∀{css:List (List Value)},(∀c∈css,c.length=Tryz.prog.cellsOf 3∧Okt enc Tryz.prog w 3 c)→∃l:List Int,css.flatten=l.map ic∧∀z∈l,-9223372036854775808≤z∧z≤9223372036854775807
 | [],_=>⟨[],rfl,fun d hd=>by simp at hd⟩
 | c :: r,h=>by
   obtain ⟨l,h1,h2⟩:=zu8 (css:=r) fun x hx=>h x (List.mem_cons_of_mem _ hx)
   obtain ⟨m,rfl,hw⟩:=(h c (by simp)).2.int Tryz.underlying3
   simp [Lit.wf,IntKind.min,IntKind.max,IntKind.signed,IntKind.bits] at hw
   refine ⟨m :: l,?_,fun d hd=>?_⟩
   · rw [List.flatten_cons,h1]; rfl
   · rcases List.mem_cons.1 hd with rfl | hd
     · omega
     · exact h2 d hd
theorem zu9 (h:Okt enc Tryz.prog w 32 cs):∃(s:Sl) (xs:List Int),cs=[Lf.sl.up s]∧IL (hpW w) s xs∧∀z∈xs,-9223372036854775808≤z∧z≤9223372036854775807:=by
 obtain ⟨s,hs,h1,h2,css,h3,h4,h5⟩:=h.slice Tryz.underlying32
 obtain ⟨l,g1,g2⟩:=zu8 h4
 rw [c_int,g1] at h5
 exact ⟨s,l,hs,⟨h5,h1⟩,g2⟩
theorem okt_C (h:Okt enc Tryz.prog w 101 cs):∃(x:TConstraint) (c:PCon),cs=cc x∧CO (hpW w) x c:=by
 obtain ⟨hl,hf⟩:=h.fields Tryz.underlying101
 rw [c_C] at hl
 have h0:Okt enc Tryz.prog w 3 ((cs.drop 0).take (Tryz.prog.cellsOf 3)):=hf 0 _ rfl
 have h1:Okt enc Tryz.prog w 32 ((cs.drop 1).take (Tryz.prog.cellsOf 32)):=hf 1 _ rfl
 have h2:Okt enc Tryz.prog w 32 ((cs.drop 2).take (Tryz.prog.cellsOf 32)):=hf 2 _ rfl
 have h3:Okt enc Tryz.prog w 64 ((cs.drop 3).take (Tryz.prog.cellsOf 64)):=hf 3 _ rfl
 have h4:Okt enc Tryz.prog w 3 ((cs.drop 4).take (Tryz.prog.cellsOf 3)):=hf 4 _ rfl
 rw [c_int] at h0 h4
 rw [c_sI] at h1 h2
 rw [c_sE] at h3
 obtain ⟨kd,e0,_⟩:=h0.int Tryz.underlying3
 obtain ⟨p,ps,e1,i1,_⟩:=zu9 h1
 obtain ⟨q,qs,e2,i2,_⟩:=zu9 h2
 obtain ⟨v,vs,e3,i3⟩:=zk1 (c:=ec) (n:=7) (Q:=EX) Tryz.underlying64 c_E (fun cs hc=>by
  obtain ⟨n,hn⟩:=hc.n
  exact okt_E n cs hn) h3
 obtain ⟨sd,e4,_⟩:=h4.int Tryz.underlying3
 exact ⟨⟨kd,p,q,v,sd⟩,⟨kd,ps,qs,vs,sd⟩,zad e0 (zad e1 (zad e2 (zad e3 (zad e4 (zdy hl))))),rfl,i1,i2,i3,rfl⟩
theorem okt_P (h:Okt enc Tryz.prog w 88 cs):∃(x:TPoint) (b:Option Rat×Option Rat),cs=ptc x∧PTT (hpW w) x b:=by
 obtain ⟨hl,hf⟩:=h.fields Tryz.underlying88
 rw [c_P] at hl
 have h0:Okt enc Tryz.prog w 63 ((cs.drop 0).take (Tryz.prog.cellsOf 63)):=hf 0 _ rfl
 have h1:Okt enc Tryz.prog w 63 ((cs.drop 4).take (Tryz.prog.cellsOf 63)):=hf 1 _ rfl
 rw [c_R] at h0 h1
 obtain ⟨x,v,e0,i0⟩:=okt_R h0
 obtain ⟨y,u,e1,i1⟩:=okt_R h1
 exact ⟨⟨x,y⟩,(v,u),zad e0 (zad e1 (zdy hl)),i0,i1⟩
theorem okt_O (h:Okt enc Tryz.prog w 90 cs):∃(x:TRound) (b:Int×Option Rat),cs=rdc x∧RN (hpW w) x b:=by
 obtain ⟨hl,hf⟩:=h.fields Tryz.underlying90
 rw [c_O] at hl
 have h0:Okt enc Tryz.prog w 3 ((cs.drop 0).take (Tryz.prog.cellsOf 3)):=hf 0 _ rfl
 have h1:Okt enc Tryz.prog w 63 ((cs.drop 1).take (Tryz.prog.cellsOf 63)):=hf 1 _ rfl
 rw [c_int] at h0
 rw [c_R] at h1
 obtain ⟨z,e0,_⟩:=h0.int Tryz.underlying3
 obtain ⟨y,u,e1,i1⟩:=okt_R h1
 exact ⟨⟨z,y⟩,(z,u),zad e0 (zad e1 (zdy hl)),rfl,i1⟩
theorem okt_G (h:Okt enc Tryz.prog w 94 cs):∃(x b:TSegment),cs=sgc x∧eqP (hpW w) x b:=by
 obtain ⟨hl,hf⟩:=h.fields Tryz.underlying94
 rw [c_G] at hl
 have h0:Okt enc Tryz.prog w 3 ((cs.drop 0).take (Tryz.prog.cellsOf 3)):=hf 0 _ rfl
 have h1:Okt enc Tryz.prog w 3 ((cs.drop 1).take (Tryz.prog.cellsOf 3)):=hf 1 _ rfl
 rw [c_int] at h0 h1
 obtain ⟨a,e0,_⟩:=h0.int Tryz.underlying3
 obtain ⟨b,e1,_⟩:=h1.int Tryz.underlying3
 exact ⟨⟨a,b⟩,⟨a,b⟩,zad e0 (zad e1 (zdy hl)),rfl⟩
theorem okt_A (h:Okt enc Tryz.prog w 96 cs):∃(x b:TArc),cs=arcc x∧eqP (hpW w) x b:=by
 obtain ⟨hl,hf⟩:=h.fields Tryz.underlying96
 rw [c_A] at hl
 have h0:Okt enc Tryz.prog w 3 ((cs.drop 0).take (Tryz.prog.cellsOf 3)):=hf 0 _ rfl
 have h1:Okt enc Tryz.prog w 3 ((cs.drop 1).take (Tryz.prog.cellsOf 3)):=hf 1 _ rfl
 have h2:Okt enc Tryz.prog w 3 ((cs.drop 2).take (Tryz.prog.cellsOf 3)):=hf 2 _ rfl
 have h3:Okt enc Tryz.prog w 4 ((cs.drop 3).take (Tryz.prog.cellsOf 4)):=hf 3 _ rfl
 rw [c_int] at h0 h1 h2
 rw [zpz] at h3
 obtain ⟨a,e0,_⟩:=h0.int Tryz.underlying3
 obtain ⟨b,e1,_⟩:=h1.int Tryz.underlying3
 obtain ⟨c,e2,_⟩:=h2.int Tryz.underlying3
 obtain ⟨d,e3⟩:=h3.bool Tryz.underlying4
 exact ⟨⟨a,b,c,d⟩,⟨a,b,c,d⟩,zad e0 (zad e1 (zad e2 (zad e3 (zdy hl)))),rfl⟩
theorem za8n (h:Okt enc Tryz.prog w 154 cs):∃(x b:TPiece),cs=pic x∧eqP (hpW w) x b:=by
 obtain ⟨hl,hf⟩:=h.fields Tryz.underlying154
 rw [c_Pi] at hl
 have h0:Okt enc Tryz.prog w 4 ((cs.drop 0).take (Tryz.prog.cellsOf 4)):=hf 0 _ rfl
 have h1:Okt enc Tryz.prog w 3 ((cs.drop 1).take (Tryz.prog.cellsOf 3)):=hf 1 _ rfl
 have h2:Okt enc Tryz.prog w 4 ((cs.drop 2).take (Tryz.prog.cellsOf 4)):=hf 2 _ rfl
 rw [c_int] at h1
 rw [zpz] at h0 h2
 obtain ⟨a,e0⟩:=h0.bool Tryz.underlying4
 obtain ⟨b,e1,_⟩:=h1.int Tryz.underlying3
 obtain ⟨c,e2⟩:=h2.bool Tryz.underlying4
 exact ⟨⟨a,b,c⟩,⟨a,b,c⟩,zad e0 (zad e1 (zad e2 (zdy hl))),rfl⟩
theorem okt_S (h:Okt enc Tryz.prog w 29 cs):∃x:TSketch,cs=[Lf.sl.up x.points,Lf.sl.up x.circles,Lf.sl.up x.segments,Lf.sl.up x.arcs,Lf.sl.up x.chains,Lf.sl.up x.constraints]∧∃S,SK (hpW w) x S:=by
 obtain ⟨hl,hf⟩:=h.fields Tryz.underlying29
 rw [c_S] at hl
 have h0:Okt enc Tryz.prog w 22 ((cs.drop 0).take (Tryz.prog.cellsOf 22)):=hf 0 _ rfl
 have h1:Okt enc Tryz.prog w 23 ((cs.drop 1).take (Tryz.prog.cellsOf 23)):=hf 1 _ rfl
 have h2:Okt enc Tryz.prog w 24 ((cs.drop 2).take (Tryz.prog.cellsOf 24)):=hf 2 _ rfl
 have h3:Okt enc Tryz.prog w 25 ((cs.drop 3).take (Tryz.prog.cellsOf 25)):=hf 3 _ rfl
 have h4:Okt enc Tryz.prog w 26 ((cs.drop 4).take (Tryz.prog.cellsOf 26)):=hf 4 _ rfl
 have h5:Okt enc Tryz.prog w 27 ((cs.drop 5).take (Tryz.prog.cellsOf 27)):=hf 5 _ rfl
 rw [c_sP] at h0
 rw [c_sO] at h1
 rw [c_sG] at h2
 rw [c_sA] at h3
 rw [za7h] at h4
 rw [c_sC] at h5
 obtain ⟨s0,p0,e0,i0⟩:=zk1 (c:=ptc) (n:=8) (Q:=PTT) Tryz.underlying22 c_P (fun _ h=>okt_P h) h0
 obtain ⟨s1,p1,e1,i1⟩:=zk1 (c:=rdc) (n:=5) (Q:=RN) Tryz.underlying23 c_O (fun _ h=>okt_O h) h1
 obtain ⟨s2,p2,e2,i2⟩:=zk1 (c:=sgc) (n:=2) (Q:=eqP) Tryz.underlying24 c_G (fun _ h=>okt_G h) h2
 obtain ⟨s3,p3,e3,i3⟩:=zk1 (c:=arcc) (n:=4) (Q:=eqP) Tryz.underlying25 c_A (fun _ h=>okt_A h) h3
 obtain ⟨s4,p4,e4,i4⟩:=zk1 (c:=slc) (n:=1) (Q:=CHN) Tryz.underlying26 c_sPi (fun _ h=>by
  obtain ⟨x,ps,e,i⟩:=zk1 (c:=pic) (n:=3) (Q:=eqP) Tryz.underlying98 c_Pi (fun _ h=>za8n h) h
  exact ⟨x,ps,e,i⟩) h4
 obtain ⟨s5,p5,e5,i5⟩:=zk1 (c:=cc) (n:=5) (Q:=CO) Tryz.underlying27 c_C (fun _ h=>okt_C h) h5
 exact ⟨⟨s0,s1,s2,s3,s4,s5⟩,zad e0 (zad e1 (zad e2 (zad e3 (zad e4 (zad e5 (zdy hl)))))),⟨p0,p1,p2,p3,p4,p5⟩,i0,i1,i2,i3,i4,i5⟩
end
theorem zabl {P:Program} {W:World} {r:Reach} {b:Nat} {t:TypeId} {v:Value} (h:Value.okWide P W r b t v) (hu:isAgg? P t=some true):∃c:List Value,v=.agg c.toArray∧v.cells.toList=c:=by
 unfold isAgg? at hu
 unfold Value.okWide at h
 split at h
 · obtain ⟨cs,rfl,_⟩:=h; exact ⟨cs.toList,by simp,by simp [Value.cells]⟩
 · obtain ⟨cs,rfl,_⟩:=h; exact ⟨cs.toList,by simp,by simp [Value.cells]⟩
 · rename_i h1 h2
   split at hu
   · rename_i hh; exact absurd hh (h1 _)
   · rename_i hh; exact absurd hh (h2 _ _)
   · cases hu
   · cases hu
end Den
end

section
namespace Den
open Go Iv Lx Go.Proofs Go.Proofs.YthifcokendanpaaGreatDoor
open Go.ChangeShapes Go.WideShapes Go.ChangeAt Go.RowKit
theorem zij {P:Program} {w:World}:∀{l:List (String×DataW Unit)} {ps:List MemPlace},DataW.LaidVars P w l ps→∀{n:String} {d:DataW Unit},(n,d)∈l →
 ∃g t cs fuel p,P.globalNamed n=some g∧(P.globals[g]?).map (·.type)=some t∧w.var? P n=some cs∧DataW.trod (fun _=>()) P w 0 (fun _=>true) false fuel t cs.toList=some (d,p)
 | [],_,_,_,_,hm=>by simp at hm
 | (n0,d0) :: r,_,⟨g,t,cs,fuel,p,q,h1,h2,h3,h4,h5,_⟩,n,d,hm=>by
   rcases List.mem_cons.1 hm with e | hm
   · cases e
     exact ⟨g,t,cs,fuel,p,h1,h2,h3,h4⟩
   · exact zij h5 hm
section
variable {H : Type} {enc : TypeId × Value → H} {P : Program} {w : World} {base : Nat} {sp : Nat → Bool} {held : Bool} {n : Nat} {t e : TypeId} {cs : List Value} {ps : List MemPlace}
theorem znv {k:IntKind} {ns:List Int} {m:Nat} (ht:P.underlying t=some (.array m e)) (he:P.underlying e=some (.int k)) (hc:P.cellsOf e=1)
 (h:DataW.trod enc P w base sp held n t cs=some (.agg (ns.map fun z=>.lit (.int k z)),ps)):∀i,i<ns.length→cs[i]?=some (.int k (ns.getD i 0)):=by
 obtain ⟨xs,q,_,hx,hl,hxl,hf⟩:=DataW.trod_array ht h
 simp only [Prod.mk.injEq,DataW.agg.injEq] at hx
 intro i hi
 have hxs:xs.length=ns.length:=by have:=congrArg List.length hx.1; simpa using this.symm
 have h1:=hf i (by omega)
 rw [hc,Nat.mul_one,List.getElem?_eq_getElem (by omega)] at h1
 have h2:xs[i].1=.lit (.int k ns[i]):=by
  have:=congrArg (fun l:List (DataW H)=>l[i]?) hx.1
  simp only [List.getElem?_map] at this
  rw [List.getElem?_eq_getElem hi,List.getElem?_eq_getElem (by omega)] at this
  exact (Option.some.inj this).symm
 obtain ⟨z,e1,e2,_⟩:=DataW.trod_int he h1
 rw [e2] at h2
 have hz:z=ns[i]:=by simpa using h2
 have h3:((cs.drop i).take 1)[0]?=some (.int k z):=by rw [e1]; rfl
 rw [hz] at h3
 have e4:ns.getD i 0=ns[i]:=by rw [List.getD_eq_getElem?_getD,List.getElem?_eq_getElem hi]; rfl
 rw [e4]
 simpa [List.getElem?_take,List.getElem?_drop] using h3
theorem zv1 {cs a:List Value} {o k j:Nat} {v:Value} (h:(cs.drop o).take k=a) (hv:a[j]?=some v):cs[o+j]?=some v:=by
 rw [←h] at hv
 rw [List.getElem?_take] at hv
 split at hv
 · rw [List.getElem?_drop] at hv; exact hv
 · cases hv
theorem zli {k:IntKind} {z:Int} (he:P.underlying t=some (.int k)) (h:DataW.trod enc P w base sp held n t cs=some (.lit (.int k z),ps)):cs=[.int k z]:=by
 obtain ⟨y,e1,e2,_⟩:=DataW.trod_int he h
 simp only [Prod.mk.injEq,DataW.lit.injEq,Lit.int.injEq] at e2
 rw [e1,e2.1.2]
theorem zmj {b:Bool} (he:P.underlying t=some .bool) (h:DataW.trod enc P w base sp held n t cs=some (.lit (.bool b),ps)):cs=[.bool b]:=by
 obtain ⟨y,e1,e2⟩:=DataW.trod_bool he h
 simp only [Prod.mk.injEq,DataW.lit.injEq,Lit.bool.injEq] at e2
 rw [e1,e2.1]
end
theorem zsu (g i:Nat):(⟨g,0,none⟩:Addr).add i=⟨g,i,none⟩:=by
 have h1:=zbg (⟨g,0,none⟩:Addr) i
 have h2:=zcu (⟨g,0,none⟩:Addr) i
 have h3:=ze6 (a:=(⟨g,0,none⟩:Addr)) rfl i
 cases hh:(⟨g,0,none⟩:Addr).add i with
 | mk a b c=>
   rw [hh] at h1 h2 h3
   simp only at h1 h2 h3
   subst h1 h2 h3
   simp
theorem gP10:Tryz.prog.globalNamed "internal/strconv.uint64pow10"=some 3:=by kernel_rfl
theorem gOps:Tryz.prog.globalNamed "setsquare/formula.operands"=some 2:=by kernel_rfl
theorem gTab:Tryz.prog.globalNamed "setsquare/constraint.table"=some 1:=by kernel_rfl
theorem tP10:(Tryz.prog.globals[3]?).map (·.type)=some 269:=by kernel_rfl
theorem tOps:(Tryz.prog.globals[2]?).map (·.type)=some 219:=by kernel_rfl
theorem tTab:(Tryz.prog.globals[1]?).map (·.type)=some 171:=by kernel_rfl
theorem c_u64:Tryz.prog.cellsOf 190=1:=by kernel_rfl
theorem c_ent:Tryz.prog.cellsOf 170=8:=by kernel_rfl
theorem c_shp:Tryz.prog.cellsOf 124=7:=by kernel_rfl
section
variable {W : World}
theorem za8b {H:Type} {enc:TypeId×Value→H} {n:Nat} {c:List Value} {nm:DataW H} {a b d e:Int} {f g k:Bool} {ps:List MemPlace}
 (h:DataW.trod enc Tryz.prog W 0 (fun _=>true) false n 170 c=some (.agg [nm,.agg [.lit (.int .i64 a),.lit (.int .i64 b),.lit (.int .i64 d),.lit (.int .i64 e),.lit (.bool f),.lit (.bool g),.lit (.bool k)]],ps)) :
 ∀j v,([.int .i64 a,.int .i64 b,.int .i64 d,.int .i64 e,.bool f,.bool g,.bool k]:List Value)[j]?=some v→c[1+j]?=some v:=by
 obtain ⟨xs,m,_,hx,hl,hxl,hf⟩:=DataW.trod_struct Tryz.underlying170 h
 simp only [Prod.mk.injEq,DataW.agg.injEq] at hx
 have h1:DataW.trod enc Tryz.prog W 0 (fun _=>true) false m 124 ((c.drop 1).take (Tryz.prog.cellsOf 124))=xs[1]?:=hf 1 _ rfl
 rw [c_shp] at h1
 match xs,hx with
 | [x0,x1],hx=>
   simp only [List.map_cons,List.map_nil,List.cons.injEq,and_true] at hx
   obtain ⟨⟨_,hx1⟩,_⟩:=hx
   simp only [List.getElem?_cons_succ,List.getElem?_cons_zero] at h1
   obtain ⟨d1,p1⟩:=x1
   simp only at hx1
   subst hx1
   obtain ⟨ys,q,_,hy,hyl,hyl2,hg⟩:=DataW.trod_struct Tryz.underlying124 h1
   simp only [Prod.mk.injEq,DataW.agg.injEq] at hy
   match ys,hy with
   | [y0,y1,y2,y3,y4,y5,y6],hy=>
     simp only [List.map_cons,List.map_nil,List.cons.injEq,and_true] at hy
     obtain ⟨⟨z0,z1,z2,z3,z4,z5,z6⟩,_⟩:=hy
     have g0:DataW.trod enc Tryz.prog W 0 (fun _=>true) false q 3 ((((c.drop 1).take 7).drop 0).take (Tryz.prog.cellsOf 3))=some y0:=hg 0 _ rfl
     have g1:DataW.trod enc Tryz.prog W 0 (fun _=>true) false q 3 ((((c.drop 1).take 7).drop 1).take (Tryz.prog.cellsOf 3))=some y1:=hg 1 _ rfl
     have g2:DataW.trod enc Tryz.prog W 0 (fun _=>true) false q 3 ((((c.drop 1).take 7).drop 2).take (Tryz.prog.cellsOf 3))=some y2:=hg 2 _ rfl
     have g3:DataW.trod enc Tryz.prog W 0 (fun _=>true) false q 3 ((((c.drop 1).take 7).drop 3).take (Tryz.prog.cellsOf 3))=some y3:=hg 3 _ rfl
     have g4:DataW.trod enc Tryz.prog W 0 (fun _=>true) false q 4 ((((c.drop 1).take 7).drop 4).take (Tryz.prog.cellsOf 4))=some y4:=hg 4 _ rfl
     have g5:DataW.trod enc Tryz.prog W 0 (fun _=>true) false q 4 ((((c.drop 1).take 7).drop 5).take (Tryz.prog.cellsOf 4))=some y5:=hg 5 _ rfl
     have g6:DataW.trod enc Tryz.prog W 0 (fun _=>true) false q 4 ((((c.drop 1).take 7).drop 6).take (Tryz.prog.cellsOf 4))=some y6:=hg 6 _ rfl
     rw [c_int] at g0 g1 g2 g3
     rw [zpz] at g4 g5 g6
     obtain ⟨u0,w0⟩:=y0; obtain ⟨u1,w1⟩:=y1; obtain ⟨u2,w2⟩:=y2; obtain ⟨u3,w3⟩:=y3; obtain ⟨u4,w4⟩:=y4; obtain ⟨u5,w5⟩:=y5; obtain ⟨u6,w6⟩:=y6
     simp only at z0 z1 z2 z3 z4 z5 z6
     subst z0 z1 z2 z3 z4 z5 z6
     have r0:=zli Tryz.underlying3 g0
     have r1:=zli Tryz.underlying3 g1
     have r2:=zli Tryz.underlying3 g2
     have r3:=zli Tryz.underlying3 g3
     have r4:=zmj Tryz.underlying4 g4
     have r5:=zmj Tryz.underlying4 g5
     have r6:=zmj Tryz.underlying4 g6
     have hall:(c.drop 1).take 7=[.int .i64 a,.int .i64 b,.int .i64 d,.int .i64 e,.bool f,.bool g,.bool k]:=by
      have hl7:((c.drop 1).take 7).length=7:=by rw [c_shp] at hyl; exact hyl
      exact zad r0 (zad r1 (zad r2 (zad r3 (zad r4 (zad r5 (zad r6 (zdy hl7)))))))
     intro j v hv
     exact zv1 hall hv
def pow20:List Int:=[1,10,100,1000,10000,100000,1000000,10000000,100000000,1000000000,10000000000,100000000000,1000000000000,10000000000000,100000000000000,1000000000000000,10000000000000000,100000000000000000,1000000000000000000,10000000000000000000]
theorem za5b:∀i:Fin 20,pow20.getD i 0=((10 ^ (i:Nat):Nat):Int):=by decide
theorem gt_of {l:List (String×DataW Unit)} (h:laidMet Tryz.prog l W) (h1:("internal/strconv.uint64pow10",Rows.laid_internal_strconv_uint64pow10)∈l)
 (h2:("setsquare/formula.operands",Rows.laid_setsquare_formula_operands)∈l) (h3:("setsquare/constraint.table",Rows.laid_setsquare_constraint_table)∈l):GT (hpW W):=by
 obtain ⟨ps,hv,_⟩:=h
 refine ⟨fun i hi=>?_,fun i hi=>?_,fun k hk1 hk2=>?_⟩
 · obtain ⟨g,t,cs,fuel,p,hg,ht,hvar,hd⟩:=zij hv h1
   obtain rfl:=Option.some.inj (gP10.symm.trans hg)
   obtain rfl:=Option.some.inj (tP10.symm.trans ht)
   have hd':DataW.trod (fun _=>()) Tryz.prog W 0 (fun _=>true) false fuel 269 cs.toList=some (.agg (pow20.map fun z=>.lit (.int .u64 z)),p):=hd
   have:=znv Tryz.underlying269 Tryz.underlying190 c_u64 hd' i hi
   rw [zmr,zsu,World.var?_cell hg hvar i,←Array.getElem?_toList,this]
   have e:=za5b ⟨i,hi⟩
   rw [←e]
 · obtain ⟨g,t,cs,fuel,p,hg,ht,hvar,hd⟩:=zij hv h2
   obtain rfl:=Option.some.inj (gOps.symm.trans hg)
   obtain rfl:=Option.some.inj (tOps.symm.trans ht)
   have hd':DataW.trod (fun _=>()) Tryz.prog W 0 (fun _=>true) false fuel 219 cs.toList=some (.agg (([0,0,0,1,2,2,2,2]:List Int).map fun z=>.lit (.int .i64 z)),p):=hd
   have:=znv Tryz.underlying219 Tryz.underlying3 c_int hd' i hi
   rw [zmr,zsu,World.var?_cell hg hvar i,←Array.getElem?_toList,this]
 · obtain ⟨g,t,cs,fuel,p,hg,ht,hvar,hd⟩:=zij hv h3
   obtain rfl:=Option.some.inj (gTab.symm.trans hg)
   obtain rfl:=Option.some.inj (tTab.symm.trans ht)
   obtain ⟨xs,q,_,hx,hl,hxl,hf⟩:=DataW.trod_array Tryz.underlying171 hd
   simp only [Prod.mk.injEq] at hx
   have hk:=hf k (by omega)
   rw [c_ent] at hk
   rw [List.getElem?_eq_getElem (by omega)] at hk
   have hx1:(xs.map (·.1))=(match (Rows.laid_setsquare_constraint_table:DataW Unit) with | .agg l=>l | _=>[]):=by rw [hx.1]
   have hxk:(xs[k]'(by omega)).1=((match (Rows.laid_setsquare_constraint_table:DataW Unit) with | .agg l=>l | _=>[]):List (DataW Unit)).getD k .nil:=by
    rw [←hx1,List.getD_eq_getElem?_getD,List.getElem?_map,List.getElem?_eq_getElem (by omega)]
    rfl
   have fin:∀(nm:DataW Unit) (a b d e:Int) (f g kk:Bool),(xs[k]'(by omega)).1=.agg [nm,.agg [.lit (.int .i64 a),.lit (.int .i64 b),.lit (.int .i64 d),.lit (.int .i64 e),.lit (.bool f),.lit (.bool g),.lit (.bool kk)]] →
    ((shK k).1:Int)=a→((shK k).2.1:Int)=b→((shK k).2.2.1:Int)=d→((shK k).2.2.2.1:Int)=e→(shK k).2.2.2.2=f →
    ∃ln ps:Bool,∀j v,([.int .i64 ((shK k).1:Int),.int .i64 ((shK k).2.1:Int),.int .i64 ((shK k).2.2.1:Int),.int .i64 ((shK k).2.2.2.1:Int),.bool (shK k).2.2.2.2,.bool ln,.bool ps]:List Value)[j]?=some v →
     (hpW W).cell ((((⟨1,0,none⟩:Addr).add (k*8)).add 1).add j)=some v:=by
    intro nm a b d e f g kk he ea eb ed ee ef
    refine ⟨g,kk,fun j v hv=>?_⟩
    have hk':DataW.trod (fun _=>()) Tryz.prog W 0 (fun _=>true) false q 170 ((cs.toList.drop (k*8)).take 8)=some (.agg [nm,.agg [.lit (.int .i64 a),.lit (.int .i64 b),.lit (.int .i64 d),.lit (.int .i64 e),.lit (.bool f),.lit (.bool g),.lit (.bool kk)]],(xs[k]'(by omega)).2):=by
     rw [hk]
     congr 1
     exact Prod.ext he rfl
    rw [ea,eb,ed,ee,ef] at hv
    have h5:=za8b hk' j v hv
    have h6:cs.toList[k*8+(1+j)]?=some v:=zv1 rfl h5
    rw [zmr,zcs,zcs,zsu,World.var?_cell hg hvar,←Array.getElem?_toList]
    exact h6
   clear hd hf hk hl hx hx1
   rcases (by omega:k=1∨k=2∨k=3∨k=4∨k=5∨k=6∨k=7∨k=8∨k=9∨k=10∨k=11∨k=12∨k=13∨k=14∨k=15∨k=16∨k=17) with rfl | rfl | rfl | rfl | rfl | rfl | rfl | rfl | rfl | rfl | rfl | rfl | rfl | rfl | rfl | rfl | rfl <;>
    exact fin _ _ _ _ _ _ _ _ hxk rfl rfl rfl rfl rfl
end
end Den
end

section
namespace Den
open Go Iv Lx
section
variable {h : Hp} {s : TSketch} {S : PSk} {Kb : Bool → Hp → Prop} {Ki : Int → Hp → Prop} {l : Sl}
theorem zkq {b:Bool} {P:Prop} (h:b=true↔¬P):(!b)=true↔P:=by
 rw [Bool.not_eq_true',←Bool.not_eq_true,h]
 exact ⟨fun hh=>Classical.byContradiction hh,fun hh hn=>hn hh⟩
theorem zvg {ps:List (Option Rat×Option Rat)} (hx:LR ptc 8 PTT h l ps) (hlen:ps.length≤1000000) (H:∀b h',h.le h'→(b=true↔∀p∈ps,VP p)→Kb b h'):callP (F.zc9 l) Kb h:=by
 refine za1 (fun b h'=>(b=true↔∀p∈ps,VP p)) (fun K' hk=>?_) fun b h' hl hb=>H b h' hl hb
 unfold F.zc9
 refine zd1 fun a h1 hl1 hc1=>?_
 have hl:=hx.len zed
 refine za1 (fun b h'=>(b=true↔¬∀p∈ps,VP p)) (fun K2 hk2=>?_) fun b h' hl hb=>hk _ _ (Hp.le_trans hl1 hl) (zkq hb)
 unfold F.zam
 refine za1 (fun r h'=>(0≤r↔¬∀p∈ps,VP p)) (fun K3 hk3=>?_) fun r h' hl hr=>hk2 _ _ hl (by rw [decide_eq_true_iff]; exact hr)
 unfold F.zas
 refine zjy (n:=ps.length) (g:=fun i=>∃h:i<ps.length,¬VP ps[i]) (by omega) (fun i h' k hl' hi' hb=>?_) (fun h' k hk=>za0 (fun hh=>by simp only at hh; omega) (fun _=>hk)) (fun r h' hl hr=>hk3 _ _ hl (by rw [hr,zm5]))
 refine za0 (fun _=>?_) (fun hh=>by simp only at hh; omega)
 refine (hx.le zed (Hp.le_trans hl1 hl')).get zed i rfl hi' fun b x hxx hc=>?_
 refine ⟨_,hc 0 _ rfl,_,hc 1 _ rfl,_,hc 2 _ rfl,_,hc 3 _ rfl,_,hc 4 _ rfl,_,hc 5 _ rfl,_,hc 6 _ rfl,_,hc 7 _ rfl,?_⟩
 refine za1 (fun b h'=>(b=true↔¬VP ps[i])) (fun K4 hk4=>?_) fun b h'' hl'' hbb=>hb b h'' hl'' (by rw [hbb]; exact ⟨fun hh=>⟨hi',hh⟩,fun ⟨_,hh⟩=>hh⟩)
 unfold F.zcn
 refine ⟨_,Hp.cell_le hl' hc1,rfl,?_⟩
 refine za1 (fun b h'=>(b=true↔VP ps[i])) (fun K5 hk5=>?_) fun b h'' hl'' hbb=>hk4 _ _ hl'' (by rw [Bool.not_eq_true',←Bool.not_eq_true,hbb])
 unfold F.zj8
 refine zoh hxx.1 fun h2 hl2=>?_
 refine za6 (fun h3=>zoh (hxx.2.le hl2) fun h4 hl4=>hk5 _ _ (Hp.le_trans hl2 hl4) ⟨fun hh=>⟨h3,hh⟩,fun hh=>hh.2⟩) (fun h3=>hk5 _ _ hl2 ⟨fun hh=>(by cases hh),fun hh=>by rw [hh.1] at h3; cases h3⟩)
theorem posq {q:Rat}:q.num.sign>0↔0<q.num:=by
 constructor
 · intro hh; exact Int.sign_pos_iff.1 hh
 · intro hh; exact Int.sign_pos_iff.2 hh
theorem zw8 {x:TRat} {q:Rat} (hx:NR h x q) (hl1:x.num.mag.len≤35184372087808) (H:Ki q.num.sign h):callP (F.zeq x) Ki h:=
 zak _ (fun K' hk=>zmg hx.1 (zl3 hx.1 hl1) hk) H
theorem zvh {ps:List (Int×Option Rat)} {a0:Addr} (hx:LR rdc 5 RN h l ps) (hlen:ps.length≤1000000) (h0:h.cell a0=some (.int .i64 (S.pts.length:Int))) (H:∀b h',h.le h'→(b=true↔∀p∈ps,VR S p)→Kb b h'):callP (F.zca l (some a0,())) Kb h:=by
 refine za1 (fun b h'=>(b=true↔∀p∈ps,VR S p)) (fun K' hk=>?_) fun b h' hl hb=>H b h' hl hb
 unfold F.zca
 refine zd1 fun a h1 hl1 hc1=>?_
 have hl:=hx.len zee
 refine za1 (fun b h'=>(b=true↔¬∀p∈ps,VR S p)) (fun K2 hk2=>?_) fun b h' hl hb=>hk _ _ (Hp.le_trans hl1 hl) (zkq hb)
 unfold F.zan
 refine za1 (fun r h'=>(0≤r↔¬∀p∈ps,VR S p)) (fun K3 hk3=>?_) fun r h' hl hr=>hk2 _ _ hl (by rw [decide_eq_true_iff]; exact hr)
 unfold F.zat
 refine zjy (n:=ps.length) (g:=fun i=>∃h:i<ps.length,¬VR S ps[i]) (by omega) (fun i h' k hl' hi' hb=>?_) (fun h' k hk=>za0 (fun hh=>by simp only at hh; omega) (fun _=>hk)) (fun r h' hl hr=>hk3 _ _ hl (by rw [hr,zm5]))
 refine za0 (fun _=>?_) (fun hh=>by simp only at hh; omega)
 refine (hx.le zee (Hp.le_trans hl1 hl')).get zee i rfl hi' fun b x hxx hc=>?_
 refine ⟨_,hc 0 _ rfl,_,hc 1 _ rfl,_,hc 2 _ rfl,_,hc 3 _ rfl,_,hc 4 _ rfl,?_⟩
 refine za1 (fun b h'=>(b=true↔¬VR S ps[i])) (fun K4 hk4=>?_) fun b h'' hl'' hbb=>hb b h'' hl'' (by rw [hbb]; exact ⟨fun hh=>⟨hi',hh⟩,fun ⟨_,hh⟩=>hh⟩)
 unfold F.zco
 refine ⟨_,Hp.cell_le hl' hc1,some a0,rfl,?_⟩
 refine za1 (fun b h'=>(b=true↔VR S ps[i])) (fun K5 hk5=>?_) fun b h'' hl'' hbb=>hk4 _ _ hl'' (by rw [Bool.not_eq_true',←Bool.not_eq_true,hbb])
 unfold F.zj9
 refine ⟨_,Hp.cell_le (Hp.le_trans hl1 hl') h0,?_⟩
 have hx1:=hxx.1
 have hx2:=hxx.2
 have no:∀h'',h'.le h''→¬VR S ps[i]→K5 false h'':=fun h'' hl hn=>hk5 _ _ hl ⟨fun hh=>(by cases hh),fun hh=>absurd hh hn⟩
 simp only
 rw [hx1]
 refine zi2 fun b hb=>?_
 refine za6 (fun h2=>?_) (fun h2=>no _ (Hp.le_refl _) fun hv=>by rw [hb.2 hv.1] at h2; cases h2)
 refine zoh hx2 fun h3 hl3=>?_
 refine za6 (fun h4=>?_) (fun h4=>no _ hl3 fun hv=>by obtain ⟨q,hq,_⟩:=hv.2; rw [hq] at h4; cases h4)
 obtain ⟨q,hq⟩:=Option.isSome_iff_exists.1 h4
 rw [hq] at hx2
 refine zw8 (hx2.nr.le hl3) hx2.2.1 (hk5 _ _ hl3 ?_)
 rw [decide_eq_true_iff,posq]
 exact ⟨fun hh=>⟨hb.1 h2,q,hq,hh⟩,fun hh=>by obtain ⟨q',hq',h5⟩:=hh.2; rw [hq] at hq'; cases hq'; exact h5⟩
theorem zvi {ps:List TSegment} {a0:Addr} (hx:LR sgc 2 eqP h l ps) (hlen:ps.length≤1000000) (h0:h.cell a0=some (.int .i64 (S.pts.length:Int))) (H:∀b h',h.le h'→(b=true↔∀p∈ps,VG S p)→Kb b h'):callP (F.zby l (some a0,())) Kb h:=by
 refine za1 (fun b h'=>(b=true↔∀p∈ps,VG S p)) (fun K' hk=>?_) fun b h' hl hb=>H b h' hl hb
 unfold F.zby
 refine zd1 fun a h1 hl1 hc1=>?_
 have hl:=hx.len zis
 refine za1 (fun b h'=>(b=true↔¬∀p∈ps,VG S p)) (fun K2 hk2=>?_) fun b h' hl hb=>hk _ _ (Hp.le_trans hl1 hl) (zkq hb)
 unfold F.zah
 refine za1 (fun r h'=>(0≤r↔¬∀p∈ps,VG S p)) (fun K3 hk3=>?_) fun r h' hl hr=>hk2 _ _ hl (by rw [decide_eq_true_iff]; exact hr)
 unfold F.zai
 refine zjy (n:=ps.length) (g:=fun i=>∃h:i<ps.length,¬VG S ps[i]) (by omega) (fun i h' k hl' hi' hb=>?_) (fun h' k hk=>za0 (fun hh=>by simp only at hh; omega) (fun _=>hk)) (fun r h' hl hr=>hk3 _ _ hl (by rw [hr,zm5]))
 refine za0 (fun _=>?_) (fun hh=>by simp only at hh; omega)
 refine (hx.le zis (Hp.le_trans hl1 hl')).get zis i rfl hi' fun b x hxx hc=>?_
 refine ⟨_,hc 0 _ rfl,_,hc 1 _ rfl,?_⟩
 have hxx:x=ps[i]:=hxx
 subst hxx
 refine za1 (fun b h'=>(b=true↔¬VG S ps[i])) (fun K4 hk4=>?_) fun b h'' hl'' hbb=>hb b h'' hl'' (by rw [hbb]; exact ⟨fun hh=>⟨hi',hh⟩,fun ⟨_,hh⟩=>hh⟩)
 unfold F.zci
 refine ⟨_,Hp.cell_le hl' hc1,some a0,rfl,?_⟩
 refine za1 (fun b h'=>(b=true↔VG S ps[i])) (fun K5 hk5=>?_) fun b h'' hl'' hbb=>hk4 _ _ hl'' (by rw [Bool.not_eq_true',←Bool.not_eq_true,hbb])
 unfold F.zja
 have c0:=Hp.cell_le (Hp.le_trans hl1 hl') h0
 have no:¬VG S ps[i]→K5 false h':=fun hn=>hk5 _ _ (Hp.le_refl _) ⟨fun hh=>(by cases hh),fun hh=>absurd hh hn⟩
 refine ⟨_,c0,?_⟩
 refine zi2 fun b hb=>?_
 refine za6 (fun h2=>?_) (fun h2=>no fun hv=>by rw [hb.2 hv.1] at h2; cases h2)
 refine ⟨_,c0,?_⟩
 refine zi2 fun b3 hb3=>?_
 refine za6 (fun h4=>?_) (fun h4=>no fun hv=>by rw [hb3.2 hv.2.1] at h4; cases h4)
 refine hk5 _ _ (Hp.le_refl _) ?_
 rw [bne_iff_ne]
 exact ⟨fun hh=>⟨hb.1 h2,hb3.1 h4,hh⟩,fun hh=>hh.2.2⟩
theorem za6b {i:Int} {K:Int→Prop} (hx:SK h s S) (hi:hasP S.cir.length i) (H:K (cen S i)):idxP s.circles i 5 fun a=>ldL (.int .i64) (a.add 0) K h:=by
 obtain ⟨h0,h1⟩:=hi
 have hk:i.toNat<S.cir.length:=by omega
 refine hx.2.1.get zee i.toNat (by omega) hk fun a x hxx hc=>⟨_,hc 0 _ rfl,?_⟩
 rw [hxx.1]
 unfold cen at H
 rw [List.getD_eq_getElem?_getD,List.getElem?_eq_getElem hk] at H
 exact H
theorem zsp {a:TArc} (hx:SK h s S) (H:∀b,(b=true↔VA S a)→Kb b h):callP (F.zgn s a) Kb h:=by
 refine za1 (fun b h'=>h'=h∧(b=true↔VA S a)) (fun K' hk=>?_) fun b h' _ hb=>by obtain ⟨rfl,hb⟩:=hb; exact H b hb
 unfold F.zgn
 have l1:=hx.1.len zed
 have l2:=hx.2.1.len zee
 have no:¬VA S a→K' false h:=fun hn=>hk _ _ (Hp.le_refl _) ⟨rfl,fun hh=>(by cases hh),fun hh=>absurd hh hn⟩
 refine za5 (fun _ h'=>h'=h∧hasP S.cir.length a.circle∧hasP S.pts.length a.a∧hasP S.pts.length a.b) ?_ ?_
 · rintro _ h ⟨rfl,g1,g2,g3⟩
   refine za6b hx g1 ?_
   refine zcc (fun h1=>hk _ _ (Hp.le_refl _) ⟨rfl,?_⟩) (fun h1=>no fun hv=>hv.2.2.2.1 h1)
   rw [bne_iff_ne]
   exact ⟨fun hh=>⟨g1,g2,g3,h1,hh⟩,fun hh=>hh.2.2.2.2⟩
 · rw [l1,l2]
   refine zi2 fun b hb=>za6 (fun h2=>no fun hv=>by rw [hb.2 hv.1] at h2; cases h2) fun h2=>?_
   refine zi2 fun b3 hb3=>za6 (fun h4=>no fun hv=>by rw [hb3.2 hv.2.1] at h4; cases h4) fun h4=>?_
   refine zi2 fun b5 hb5=>za6 (fun h6=>no fun hv=>by rw [hb5.2 hv.2.2.1] at h6; cases h6) fun h6=>?_
   exact ⟨rfl,hb.1 (by simpa using h2),hb3.1 (by simpa using h4),hb5.1 (by simpa using h6)⟩
def SKC (h:Hp) (a:Addr) (s:TSketch):Prop:=∀i v,([Lf.sl.up s.points,Lf.sl.up s.circles,Lf.sl.up s.segments,Lf.sl.up s.arcs,Lf.sl.up s.chains,Lf.sl.up s.constraints]:List Value)[i]?=some v→h.cell (a.add i)=some v
theorem SKC.le {h h':Hp} {a:Addr} {s:TSketch} (hx:SKC h a s) (hl:h.le h'):SKC h' a s:=fun i v hv=>Hp.cell_le hl (hx i v hv)
theorem zvd {ps:List TArc} {a0:Addr} (hx:LR arcc 4 eqP h l ps) (hlen:ps.length≤1000000) (h0:SKC h a0 s) (hS:SK h s S) (H:∀b h',h.le h'→(b=true↔∀p∈ps,VA S p)→Kb b h'):callP (F.zcf l (some a0,())) Kb h:=by
 refine za1 (fun b h'=>(b=true↔∀p∈ps,VA S p)) (fun K' hk=>?_) fun b h' hl hb=>H b h' hl hb
 unfold F.zcf
 refine zd1 fun a h1 hl1 hc1=>?_
 have hl:=hx.len zfb
 refine za1 (fun b h'=>(b=true↔¬∀p∈ps,VA S p)) (fun K2 hk2=>?_) fun b h' hl hb=>hk _ _ (Hp.le_trans hl1 hl) (zkq hb)
 unfold F.zav
 refine za1 (fun r h'=>(0≤r↔¬∀p∈ps,VA S p)) (fun K3 hk3=>?_) fun r h' hl hr=>hk2 _ _ hl (by rw [decide_eq_true_iff]; exact hr)
 unfold F.zay
 refine zjy (n:=ps.length) (g:=fun i=>∃h:i<ps.length,¬VA S ps[i]) (by omega) (fun i h' k hl' hi' hb=>?_) (fun h' k hk=>za0 (fun hh=>by simp only at hh; omega) (fun _=>hk)) (fun r h' hl hr=>hk3 _ _ hl (by rw [hr,zm5]))
 refine za0 (fun _=>?_) (fun hh=>by simp only at hh; omega)
 refine (hx.le zfb (Hp.le_trans hl1 hl')).get zfb i rfl hi' fun b x hxx hc=>?_
 refine ⟨_,hc 0 _ rfl,_,hc 1 _ rfl,_,hc 2 _ rfl,_,hc 3 _ rfl,?_⟩
 have hxx:x=ps[i]:=hxx
 subst hxx
 refine za1 (fun b h'=>(b=true↔¬VA S ps[i])) (fun K4 hk4=>?_) fun b h'' hl'' hbb=>hb b h'' hl'' (by rw [hbb]; exact ⟨fun hh=>⟨hi',hh⟩,fun ⟨_,hh⟩=>hh⟩)
 unfold F.zcv
 refine ⟨_,Hp.cell_le hl' hc1,some a0,rfl,?_⟩
 refine za1 (fun b h'=>(b=true↔VA S ps[i])) (fun K5 hk5=>?_) fun b h'' hl'' hbb=>hk4 _ _ hl'' (by rw [Bool.not_eq_true',←Bool.not_eq_true,hbb])
 unfold F.zjb
 have c0:=h0.le (Hp.le_trans hl1 hl')
 refine ⟨_,c0 0 _ rfl,_,c0 1 _ rfl,_,c0 2 _ rfl,_,c0 3 _ rfl,_,c0 4 _ rfl,_,c0 5 _ rfl,?_⟩
 exact zsp (s:=s) (hS.le (Hp.le_trans hl1 hl')) fun b hb=>hk5 _ _ (Hp.le_refl _) hb
theorem zqt {ps:List TPiece} (hx:SK h s S) (hc:LR pic 3 eqP h l ps) (hlen:ps.length≤1000) (hs:sSk S) (H:∀b,(b=true↔VCh S ps)→Kb b h):callP (F.zf9 s l) Kb h:=by
 refine za1 (fun b h'=>h'=h∧(b=true↔VCh S ps)) (fun K' hk=>?_) fun b h' _ hb=>by obtain ⟨rfl,hb⟩:=hb; exact H b hb
 unfold F.zf9
 have l3:=hx.2.2.1.len zis
 have l4:=hx.2.2.2.1.len zfb
 have lc:=hc.len zo1
 have no:¬VCh S ps→K' false h:=fun hn=>hk _ _ (Hp.le_refl _) ⟨rfl,fun hh=>(by cases hh),fun hh=>absurd hh hn⟩
 refine zcw (n:=ps.length) (by omega) (fun i a h'=>h'=h∧(∀j (hj:j<ps.length),j<i→okP S ps[j])∧(∀j (hj:j+1<ps.length),j+1<i→(endsP S ps[j]).2=(endsP S ps[j+1]).1)∧∀j (hj:j<ps.length),j+1=i→a=(endsP S ps[j]).2) ⟨rfl,fun j _ hj=>by omega,fun j _ hj=>by omega,fun j _ hj=>by omega⟩ ?_
 rintro i a h hi ⟨rfl,g1,g2,g3⟩ k hk2
 refine za0 (fun h2=>?_) (fun h2=>?_)
 · have hi':i<ps.length:=by simp only at h2; omega
   refine za5 (fun st h'=>h'=h∧okP S ps[i]∧(∀j (hj:j<ps.length),j+1=i→(endsP S ps[j]).2=(endsP S ps[i]).1)∧st.1=(endsP S ps[i]).2) ?_ ?_
   · rintro ⟨z,_⟩ h ⟨rfl,k1,k2,k3⟩
     refine hk2 _ _ hi' ⟨rfl,fun j hj hji=>?_,fun j hj hji=>?_,fun j hj hji=>?_⟩
     · rcases Nat.lt_or_ge j i with h5 | h5
       · exact g1 j hj h5
       · have:j=i:=by omega
         subst this; exact k1
     · rcases Nat.lt_or_ge (j+1) i with h5 | h5
       · exact g2 j hj h5
       · have:j+1=i:=by omega
         subst this; exact k2 j (by omega) rfl
     · have:j=i:=by omega
       subst this; exact k3
   · refine hc.get zo1 i rfl hi' fun b x hxx hcc=>?_
     refine ⟨_,hcc 0 _ rfl,_,hcc 1 _ rfl,_,hcc 2 _ rfl,?_⟩
     have hxx:x=ps[i]:=hxx
     rw [←hxx]
     refine za5 (fun st h'=>h'=h∧st.1=(((if x.arc=true then S.arc.length else S.seg.length):Nat):Int)) ?_ ?_
     · rintro ⟨z,_⟩ h ⟨rfl,hz⟩
       simp only at hz
       subst hz
       refine zi2 fun b hb=>za6 (fun h4=>no fun hv=>?_) fun h4=>?_
       · have:=hv.2.1 _ (List.getElem_mem hi')
         rw [←hxx] at this
         rw [hb.2 this] at h4; cases h4
       have hok:okP S x:=hb.1 (by simpa using h4)
       refine zyr hx (p:=x) hok ?_
       refine za0 (fun h5=>?_) (fun h5=>⟨rfl,hok,fun j hj hji=>by simp only at h5; omega,rfl⟩)
       simp only at h5
       obtain ⟨j,rfl⟩:∃j,i=j+1:=⟨i-1,by omega⟩
       have ha:=g3 j (by omega) rfl
       refine zcc (fun h6=>no fun hv=>?_) (fun h6=>⟨rfl,hok,fun j' hj' hji=>?_,rfl⟩)
       · have:=hv.2.2 j hi'
         rw [←hxx] at this
         simp only at h6
         rw [ha] at h6
         exact h6 this.symm
       · have:j'=j:=by omega
         subst this
         simp only at h6
         rw [←ha,h6]
     · refine za6 (fun h3=>⟨rfl,?_⟩) (fun h3=>⟨rfl,?_⟩)
       · simp only; rw [if_pos h3,l4]
       · simp only; rw [h3,l3]; rfl
 · have hi':i=ps.length:=by simp only at h2; omega
   subst hi'
   refine hk _ _ (Hp.le_refl _) ⟨rfl,?_⟩
   rw [decide_eq_true_iff]
   constructor
   · intro hh
     refine ⟨fun h0=>by rw [h0] at lc; simp at lc; omega,fun p hp=>?_,fun j hj=>g2 j hj (by omega)⟩
     obtain ⟨j,hj,rfl⟩:=List.mem_iff_getElem.1 hp
     exact g1 j hj hj
   · intro hh
     have:=List.length_pos_iff.2 hh.1
     omega
theorem zve {ps:List (List TPiece)} {a0:Addr} (hx:LR slc 1 CHN h l ps) (hlen:ps.length≤1000000) (hp20:∀c∈ps,c.length≤20) (h0:SKC h a0 s) (hS:SK h s S) (hs:sSk S) (H:∀b h',h.le h'→(b=true↔∀p∈ps,VCh S p)→Kb b h'):callP (F.zc8 l (some a0,())) Kb h:=by
 refine za1 (fun b h'=>(b=true↔∀p∈ps,VCh S p)) (fun K' hk=>?_) fun b h' hl hb=>H b h' hl hb
 unfold F.zc8
 refine zd1 fun a h1 hl1 hc1=>?_
 have hl:=hx.len zh7
 refine za1 (fun b h'=>(b=true↔¬∀p∈ps,VCh S p)) (fun K2 hk2=>?_) fun b h' hl hb=>hk _ _ (Hp.le_trans hl1 hl) (zkq hb)
 unfold F.zal
 refine za1 (fun r h'=>(0≤r↔¬∀p∈ps,VCh S p)) (fun K3 hk3=>?_) fun r h' hl hr=>hk2 _ _ hl (by rw [decide_eq_true_iff]; exact hr)
 unfold F.zar
 refine zjy (n:=ps.length) (g:=fun i=>∃h:i<ps.length,¬VCh S ps[i]) (by omega) (fun i h' k hl' hi' hb=>?_) (fun h' k hk=>za0 (fun hh=>by simp only at hh; omega) (fun _=>hk)) (fun r h' hl hr=>hk3 _ _ hl (by rw [hr,zm5]))
 refine za0 (fun _=>?_) (fun hh=>by simp only at hh; omega)
 refine (hx.le zh7 (Hp.le_trans hl1 hl')).get zh7 i rfl hi' fun b x hxx hc=>?_
 have e0:=hc 0 _ rfl
 rw [zb7] at e0
 refine ⟨_,e0,?_⟩
 refine za1 (fun b h'=>(b=true↔¬VCh S ps[i])) (fun K4 hk4=>?_) fun b h'' hl'' hbb=>hb b h'' hl'' (by rw [hbb]; exact ⟨fun hh=>⟨hi',hh⟩,fun ⟨_,hh⟩=>hh⟩)
 unfold F.zcm
 refine ⟨_,Hp.cell_le hl' hc1,some a0,rfl,?_⟩
 refine za1 (fun b h'=>(b=true↔VCh S ps[i])) (fun K5 hk5=>?_) fun b h'' hl'' hbb=>hk4 _ _ hl'' (by rw [Bool.not_eq_true',←Bool.not_eq_true,hbb])
 unfold F.zjc
 have c0:=h0.le (Hp.le_trans hl1 hl')
 refine ⟨_,c0 0 _ rfl,_,c0 1 _ rfl,_,c0 2 _ rfl,_,c0 3 _ rfl,_,c0 4 _ rfl,_,c0 5 _ rfl,?_⟩
 exact zqt (s:=s) (hS.le (Hp.le_trans hl1 hl')) hxx (by have:=hp20 _ (List.getElem_mem hi'); omega) hs fun b hb=>hk5 _ _ (Hp.le_refl _) hb
theorem zvf {ps:List PCon} {a0 a1:Addr} {n m:Int} (hx:LR cc 5 CO h l ps) (hlen:ps.length≤1000000) (hps:∀c∈ps,sC c) (h0:h.cell a0=some (.int .i64 n)) (h1:h.cell a1=some (.int .i64 m)) (ht:GT h) (H:∀b h',h.le h'→(b=true↔∀p∈ps,VC p n m)→Kb b h'):callP (F.zbt l (some a0,some a1,())) Kb h:=by
 refine za1 (fun b h'=>(b=true↔∀p∈ps,VC p n m)) (fun K' hk=>?_) fun b h' hl hb=>H b h' hl hb
 unfold F.zbt
 refine zd1 fun a h2 hl2 hc1=>?_
 have hl:=hx.len zaw
 refine za1 (fun b h'=>(b=true↔¬∀p∈ps,VC p n m)) (fun K2 hk2=>?_) fun b h' hl hb=>hk _ _ (Hp.le_trans hl2 hl) (zkq hb)
 unfold F.zaf
 refine za1 (fun r h'=>(0≤r↔¬∀p∈ps,VC p n m)) (fun K3 hk3=>?_) fun r h' hl hr=>hk2 _ _ hl (by rw [decide_eq_true_iff]; exact hr)
 unfold F.zag
 refine zjy (n:=ps.length) (g:=fun i=>∃h:i<ps.length,¬VC ps[i] n m) (by omega) (fun i h' k hl' hi' hb=>?_) (fun h' k hk=>za0 (fun hh=>by simp only at hh; omega) (fun _=>hk)) (fun r h' hl hr=>hk3 _ _ hl (by rw [hr]; exact zm5 (P:=fun c=>VC c n m)))
 refine za0 (fun _=>?_) (fun hh=>by simp only at hh; omega)
 refine (hx.le zaw (Hp.le_trans hl2 hl')).get zaw i rfl hi' fun b x hxx hc=>?_
 refine ⟨_,hc 0 _ rfl,_,hc 1 _ rfl,_,hc 2 _ rfl,_,hc 3 _ rfl,_,hc 4 _ rfl,?_⟩
 refine za1 (fun b h'=>(b=true↔¬VC ps[i] n m)) (fun K4 hk4=>?_) fun b h'' hl'' hbb=>hb b h'' hl'' (by rw [hbb]; exact ⟨fun hh=>⟨hi',hh⟩,fun ⟨_,hh⟩=>hh⟩)
 unfold F.zcd
 refine ⟨_,Hp.cell_le hl' hc1,some a0,some a1,rfl,?_⟩
 refine za1 (fun b h'=>(b=true↔VC ps[i] n m)) (fun K5 hk5=>?_) fun b h'' hl'' hbb=>hk4 _ _ hl'' (by rw [Bool.not_eq_true',←Bool.not_eq_true,hbb])
 unfold F.zjd
 have hle:=Hp.le_trans hl2 hl'
 refine ⟨_,Hp.cell_le hle h0,_,Hp.cell_le hle h1,?_⟩
 exact zvo hxx (hps _ (List.getElem_mem hi')) (ht.le hle) fun b h'' hl hb=>hk5 _ _ hl hb
theorem zus (hx:SK h s S) (hs:sSk S) (ht:GT h) (H:∀r h',h.le h'→(r=0↔VS S)→(r=0∨r=1)→Ki r h'):callP (F.zdb s) Ki h:=by
 refine za1 (fun r h'=>(r=0↔VS S)∧(r=0∨r=1)) (fun K' hk0=>?_) fun b h' hl hb=>H b h' hl hb.1 hb.2
 have hk:∀v h',h.le h'→(v=0↔VS S)→(v=0∨v=1)→K' v h':=fun v h' hl h1 h2=>hk0 v h' hl ⟨h1,h2⟩
 unfold F.zdb
 refine zg5 fun p1 h1 hl1 hc=>?_
 have c0:SKC h1 p1 s:=hc
 have hx1:=hx.le hl1
 refine ⟨_,c0 0 _ rfl,_,c0 1 _ rfl,_,c0 2 _ rfl,_,c0 3 _ rfl,_,c0 4 _ rfl,_,c0 5 _ rfl,?_⟩
 refine zt5 (s:=s) hx1 hs fun h2 hl2=>zb1 rfl ?_
 have c2:=c0.le hl2
 refine ⟨_,c2 0 _ rfl,_,c2 1 _ rfl,?_⟩
 refine zd1 fun p6 h3 hl3 e6=>zd1 fun p7 h4 hl4 e7=>?_
 have hle4:=Hp.le_trans hl1 (Hp.le_trans hl2 (Hp.le_trans hl3 hl4))
 have hx4:=hx.le hle4
 have c4:=(c2.le hl3).le hl4
 have l1:=hx.1.len zed
 have l2:=hx.2.1.len zee
 obtain ⟨s1,s2,s3,s4,s5,s6,s7,s8⟩:=hs
 have e64:h4.cell p6=some (.int .i64 (S.pts.length:Int)):=by have:=Hp.cell_le hl4 e6; rw [l1] at this; exact this
 have e74:h4.cell p7=some (.int .i64 (S.cir.length:Int)):=by rw [l2] at e7; exact e7
 refine za5 (fun st h'=>h.le h'∧(st.1=true↔VS S)) ?_ ?_
 · rintro ⟨b,_⟩ h5 ⟨hl5,hb⟩
   simp only at hb
   refine za6 (fun h6=>hk _ _ hl5 ⟨fun hh=>(by cases hh),fun hh=>?_⟩ (.inr rfl)) (fun h6=>hk _ _ hl5 ⟨fun _=>hb.1 (by simpa using h6),fun _=>rfl⟩ (.inl rfl))
   simp only at h6
   rw [hb.2 hh] at h6; cases h6
 · have fl:∀(b:Bool) {P:Prop},(b=true↔P)→b=false→¬P:=fun b P hb h0 hp=>by rw [hb.2 hp] at h0; cases h0
   refine ⟨_,c4 0 _ rfl,?_⟩
   refine zvg hx4.1 (by omega) fun b1 h5 hl5 hb1=>za6 (fun t1=>?_) (fun t1=>⟨Hp.le_trans hle4 hl5,fun hh=>(by cases hh),fun hv=>absurd hv.1 (fl _ hb1 t1)⟩)
   refine ⟨_,c4.le hl5 1 _ rfl,?_⟩
   refine zvh (S:=S) (hx4.le hl5).2.1 (by omega) (Hp.cell_le hl5 e64) fun b2 h6 hl6 hb2=>za6 (fun t2=>?_) (fun t2=>⟨Hp.le_trans hle4 (Hp.le_trans hl5 hl6),fun hh=>(by cases hh),fun hv=>absurd hv.2.1 (fl _ hb2 t2)⟩)
   have l56:=Hp.le_trans hl5 hl6
   refine ⟨_,c4.le l56 2 _ rfl,?_⟩
   refine zvi (S:=S) (hx4.le l56).2.2.1 (by omega) (Hp.cell_le l56 e64) fun b3 h7 hl7 hb3=>za6 (fun t3=>?_) (fun t3=>⟨Hp.le_trans hle4 (Hp.le_trans l56 hl7),fun hh=>(by cases hh),fun hv=>absurd hv.2.2.1 (fl _ hb3 t3)⟩)
   have l57:=Hp.le_trans l56 hl7
   refine ⟨_,c4.le l57 3 _ rfl,?_⟩
   refine zvd (s:=s) (S:=S) (hx4.le l57).2.2.2.1 (by omega) (c4.le l57) (hx4.le l57) fun b4 h8 hl8 hb4=>za6 (fun t4=>?_) (fun t4=>⟨Hp.le_trans hle4 (Hp.le_trans l57 hl8),fun hh=>(by cases hh),fun hv=>absurd hv.2.2.2.1 (fl _ hb4 t4)⟩)
   have l58:=Hp.le_trans l57 hl8
   refine ⟨_,c4.le l58 4 _ rfl,?_⟩
   refine zve (s:=s) (S:=S) (hx4.le l58).2.2.2.2.1 (by omega) s7 (c4.le l58) (hx4.le l58) ⟨s1,s2,s3,s4,s5,s6,s7,s8⟩ fun b5 h9 hl9 hb5=>za6 (fun t5=>?_) (fun t5=>⟨Hp.le_trans hle4 (Hp.le_trans l58 hl9),fun hh=>(by cases hh),fun hv=>absurd hv.2.2.2.2.1 (fl _ hb5 t5)⟩)
   have l59:=Hp.le_trans l58 hl9
   refine ⟨_,c4.le l59 5 _ rfl,?_⟩
   refine zvf (hx4.le l59).2.2.2.2.2 (by omega) s8 (Hp.cell_le l59 e64) (Hp.cell_le l59 e74) (ht.le (Hp.le_trans hle4 l59)) fun b6 h10 hl10 hb6=>⟨Hp.le_trans hle4 (Hp.le_trans l59 hl10),?_⟩
   rw [hb6]
   exact ⟨fun hh=>⟨hb1.1 t1,hb2.1 t2,hb3.1 t3,hb4.1 t4,hb5.1 t5,hh⟩,fun hh=>hh.2.2.2.2.2⟩
theorem zho (hx:SK h s S) (hs:sSk S) (ht:GT h) (H:∀r h',h.le h'→(r=0↔VS S)→Ki r h'):callP (F.zdb s) Ki h:=zus hx hs ht fun r h' h1 h2 _=>H r h' h1 h2
end
end Den
end

section
namespace Den
open Go Iv Lx
section
variable {h : Hp} {s : TSketch} {S : PSk} {Kb : Bool → Hp → Prop} {Ki : Int → Hp → Prop} {l : Sl}
theorem upto {α:Type} {l:List α} {P:α→Prop} {i:Nat} (h:∀j (hj:j<l.length),j<i→P l[j]) (hi:i<l.length) (hp:P l[i]):∀j (hj:j<l.length),j<i+1→P l[j]:=fun j hj hji=>by
 rcases Nat.lt_or_ge j i with h5 | h5
 · exact h j hj h5
 · have:j=i:=by omega
   subst this; exact hp
theorem upall {α:Type} {l:List α} {P:α→Prop} {i:Nat} (h:∀j (hj:j<l.length),j<i→P l[j]) (hi:l.length≤i):∀x∈l,P x:=fun x hx=>by
 obtain ⟨j,hj,rfl⟩:=List.mem_iff_getElem.1 hx
 exact h j hj (by omega)
theorem zxm (hx:SK h s S) (H:∀b h',h.le h'→(b=true→sSk S)→Kb b h'):callP (F.zjp s) Kb h:=by
 refine za1 (fun b h'=>b=true→sSk S) (fun K' hk=>?_) fun b h' hl hb=>H b h' hl hb
 unfold F.zjp
 have l1:=hx.1.len zed
 have l2:=hx.2.1.len zee
 have l3:=hx.2.2.1.len zis
 have l4:=hx.2.2.2.1.len zfb
 have l5:=hx.2.2.2.2.1.len zh7
 have l6:=hx.2.2.2.2.2.len zaw
 have no:∀h',h.le h'→K' false h':=fun h' hl=>hk _ _ hl fun hh=>by cases hh
 refine za5 (fun _ h1=>h1=h∧S.pts.length≤10∧S.cir.length≤10∧S.seg.length≤10∧S.arc.length≤10∧S.chn.length≤10∧S.con.length≤20) ?_ ?_
 · rintro _ h ⟨rfl,s1,s2,s3,s4,s5,s6⟩
   refine zcx (n:=S.pts.length) (by omega) (fun i h'=>h.le h') (Hp.le_refl _) ?_
   intro i h2 hi hl2 k hk2
   refine za0 (fun h3=>?_) (fun h3=>?_)
   · have hi':i<S.pts.length:=by simp only at h3; omega
     refine za5 (fun _ h'=>h.le h') (fun _ h' hh=>hk2 _ hi' hh) ?_
     refine (hx.le hl2).1.get zed i rfl hi' fun a x hxx hc=>?_
     simp only [zcs,Nat.zero_add]
     refine ⟨_,hc 0 _ rfl,_,hc 1 _ rfl,_,hc 2 _ rfl,_,hc 3 _ rfl,?_⟩
     refine zlt (x:=x.x) hxx.1 fun b h4 hl4=>za6 (fun _=>no _ (Hp.le_trans hl2 hl4)) fun _=>?_
     refine (hx.le (Hp.le_trans hl2 hl4)).1.get zed i rfl hi' fun a2 x2 hxx2 hc2=>?_
     refine ⟨_,hc2 4 _ rfl,_,hc2 5 _ rfl,_,hc2 6 _ rfl,_,hc2 7 _ rfl,?_⟩
     exact zlt (x:=x2.y) hxx2.2 fun b h6 hl6=>za6 (fun _=>no _ (Hp.le_trans hl2 (Hp.le_trans hl4 hl6))) fun _=>Hp.le_trans hl2 (Hp.le_trans hl4 hl6)
   · refine zcx (n:=S.cir.length) (by omega) (fun i h'=>h.le h') hl2 ?_
     clear h3 hk2 hi hl2
     intro i h2 hi hl2 k hk2
     refine za0 (fun h3=>?_) (fun h3=>?_)
     · have hi':i<S.cir.length:=by simp only at h3; omega
       refine (hx.le hl2).2.1.get zee i rfl hi' fun a x hxx hc=>?_
       simp only [zcs]
       refine ⟨_,hc 1 _ rfl,_,hc 2 _ rfl,_,hc 3 _ rfl,_,hc 4 _ rfl,?_⟩
       exact zlt (x:=x.radius) hxx.2 fun b h4 hl4=>za6 (fun _=>no _ (Hp.le_trans hl2 hl4)) fun _=>hk2 _ hi' (Hp.le_trans hl2 hl4)
     · refine zcx (n:=S.chn.length) (by omega) (fun i h'=>h.le h'∧∀j (hj:j<S.chn.length),j<i→S.chn[j].length≤20) ⟨hl2,fun j _ hj=>by omega⟩ ?_
       clear h3 hk2 hi hl2
       rintro i h2 hi ⟨hl2,hno⟩ k hk2
       refine za0 (fun h3=>?_) (fun h3=>?_)
       · have hi':i<S.chn.length:=by simp only at h3; omega
         refine (hx.le hl2).2.2.2.2.1.get zh7 i rfl hi' fun a x hxx hc=>?_
         have e0:=hc 0 _ rfl
         rw [zb7] at e0
         refine ⟨_,e0,?_⟩
         have hxl:=LR.len zo1 hxx
         exact za0 (fun _=>no _ hl2) (fun h5=>hk2 _ hi' ⟨hl2,upto (P:=fun c:List TPiece=>c.length≤20) hno hi' (by omega)⟩)
       · have v5:=upall (P:=fun c:List TPiece=>c.length≤20) hno (by simp only at h3; omega)
         refine zcx (n:=S.con.length) (by omega) (fun i h'=>h.le h'∧∀j (hj:j<S.con.length),j<i→sC S.con[j]) ⟨hl2,fun j _ hj=>by omega⟩ ?_
         clear hno h3 hk2 hi hl2
         rintro i h2 hi ⟨hl2,hno⟩ k hk2
         refine za0 (fun h3=>?_) (fun h3=>?_)
         · have hi':i<S.con.length:=by simp only at h3; omega
           refine (hx.le hl2).2.2.2.2.2.get zaw i rfl hi' fun a x hxx hc=>?_
           refine ⟨_,hc 0 _ rfl,_,hc 1 _ rfl,_,hc 2 _ rfl,_,hc 3 _ rfl,_,hc 4 _ rfl,?_⟩
           obtain ⟨x1,x2,x3,x4,x5⟩:=hxx
           have p1:=x2.len
           have p2:=x3.len
           have p3:=x4.len zdj
           refine za5 (fun _ h'=>h'=h2∧S.con[i].pts.length≤10∧S.con[i].cir.length≤10∧S.con[i].vals.length≤10) ?_ ?_
           · rintro _ h2 ⟨rfl,q1,q2,q3⟩
             refine zcx (n:=S.con[i].vals.length) (by omega) (fun j h'=>h2.le h'∧∀m (hm:m<S.con[i].vals.length),m<j→sE S.con[i].vals[m]) ⟨Hp.le_refl _,fun j _ hj=>by omega⟩ ?_
             rintro j h4 hj ⟨hl4,hn4⟩ k4 hk4
             refine za0 (fun h5=>?_) (fun h5=>?_)
             · have hj':j<S.con[i].vals.length:=by simp only at h5; omega
               refine (x4.le zdj hl4).get zdj j rfl hj' fun a2 y hyy hc2=>?_
               refine ⟨_,hc2 0 _ rfl,_,hc2 1 _ rfl,_,hc2 2 _ rfl,_,hc2 3 _ rfl,_,hc2 4 _ rfl,_,hc2 5 _ rfl,_,hc2 6 _ rfl,?_⟩
               refine za3e hyy fun r h6 hl6 hr=>?_
               exact za0 (fun _=>no _ (Hp.le_trans hl2 (Hp.le_trans hl4 hl6))) (fun h7=>hk4 _ hj' ⟨Hp.le_trans hl4 hl6,upto hn4 hj' (hr (by omega))⟩)
             · refine hk2 _ hi' ⟨Hp.le_trans hl2 hl4,upto hno hi' ⟨q1,q2,q3,upall hn4 (by simp only at h5; omega)⟩⟩
           · exact za0 (fun _=>no _ hl2) fun _=>za0 (fun _=>no _ hl2) fun _=>za0 (fun _=>no _ hl2) fun _=>⟨rfl,by omega,by omega,by omega⟩
         · exact hk _ _ hl2 fun _=>⟨s1,s2,s3,s4,s5,s6,v5,upall hno (by simp only at h3; omega)⟩
 · have n0:=no h (Hp.le_refl _)
   exact za0 (fun _=>n0) fun _=>za0 (fun _=>n0) fun _=>za0 (fun _=>n0) fun _=>za0 (fun _=>n0) fun _=>za0 (fun _=>n0) fun _=>za0 (fun _=>n0) fun _=>⟨rfl,by omega,by omega,by omega,by omega,by omega,by omega⟩
end
end Den
end

section
namespace Den
open Go Iv Lx
section
variable {D h h' : Hp} {n : Nat} {l : Sl} {cs : List Value}
theorem Own.newb {K:Addr→Hp→Prop} {cells:List Value} (ho:Own D h n l cs) (H:∀a D' h',D.le D'→h.le h'→Own D' h' n l cs→(∀i v,cells[i]?=Option.some v→D'.cell (a.add i)=Option.some v)→K a h'):newP cells K h:=by
 intro b e hb
 obtain ⟨g1,g2,g3,g4⟩:=ho
 have hDb:D b=none:=by
  cases hd:D b with
  | none=>rfl
  | some x=>rw [g1 _ _ hd] at hb; cases hb
 refine H _ (D.ins b ⟨cells,e,(0,0)⟩) _ (Hp.le_ins hDb) (Hp.le_ins hb) ⟨?_,g2,g3,?_⟩ fun i v hv=>?_
 · intro k x hk
   by_cases hkb:k=b
   · subst hkb; rw [Hp.ins_same] at hk ⊢; exact hk
   · rw [Hp.ins_ne hkb] at hk ⊢; exact g1 _ _ hk
 · cases ha:l.a with
   | none=>rw [ha] at g4; exact g4
   | some a=>
     rw [ha] at g4
     obtain ⟨k1,k2,k3,x,k4,k5⟩:=g4
     have hne:a.block≠b:=fun hh=>by rw [hh,hb] at k4; cases k4
     exact ⟨k1,k2,by rw [Hp.ins_ne hne]; exact k3,x,by rw [Hp.ins_ne hne]; exact k4,k5⟩
 · unfold Hp.cell
   rw [zbg,ze6 rfl,zcu]
   simpa [Hp.ins_same] using hv
theorem Own.preN {x:Sl} {k:Nat} (ho:Own D h n x cs) (hk:k≤x.len):Own D h n (x.cut 0 k n) (cs.take (k*n)):=by
 have hc:=ho.2.2.1
 obtain ⟨g1,g2,g3,g4⟩:=ho
 have hkl:k*n≤cs.length:=by rw [←g2]; exact Nat.mul_le_mul_right _ hk
 have el:(cs.take (k*n)).length=k*n:=by rw [List.length_take]; omega
 refine ⟨g1,?_,?_,?_⟩
 · show (k-0)*n=_
   rw [el,Nat.sub_zero]
 · show k-0≤x.cap-0; omega
 · rw [cut_a]
   cases ha:x.a with
   | none=>
     rw [ha] at g4
     simp only at g4 ⊢
     show x.cap-0=0; omega
   | some a=>
     rw [ha] at g4
     obtain ⟨k1,k2,k3,b,k4,k5,k6,k7⟩:=g4
     refine ⟨k1,k2,k3,b,k4,k5,k6,?_⟩
     rw [el]
     have:=congrArg (List.take (k*n)) k7
     rw [List.take_take,Nat.min_eq_left (by omega)] at this
     exact this
end
section
variable {α β : Type} {c : α → List Value} {n : Nat} {P : Hp → α → β → Prop} {D h h' : Hp} {l : Sl} {ps : List β}
theorem LO.newb {K:Addr→Hp→Prop} {cells:List Value} (hR:Rec c n P) (hx:LO c n P D h l ps) (H:∀a D' h',D.le D'→h.le h'→LO c n P D' h' l ps→(∀i v,cells[i]?=Option.some v→D'.cell (a.add i)=Option.some v)→K a h'):newP cells K h:=by
 obtain ⟨xs,h1,h3,h4⟩:=hx
 exact h1.newb fun a D' h' g1 g2 g3 g4=>H a D' h' g1 g2 ⟨xs,g3,h3,fun k k1 k2=>hR.mono (h4 k k1 k2) g1⟩ g4
theorem LO.le (hx:LO c n P D h l ps) (hl:h.le h'):LO c n P D h' l ps:=by
 obtain ⟨xs,h1,h3,h4⟩:=hx
 exact ⟨xs,h1.le hl,h3,h4⟩
theorem LO.appAll {K:Sl→Hp→Prop} {m:Sl} {qs:List β} {bytes:Nat} {zero:List Value} (hR:Rec c n P) (hx:LO c n P D h l ps) (hm:LR c n P D m qs) (hz:zero.length=n) (hlen:(ps.length+qs.length)*bytes≤140737488355328) (hlen2:ps.length+qs.length≤140737488355328)
 (H:∀y h',LO c n P D h' y (ps++qs)→K y h'):rdO m.a (m.len*n) (fun vs=>appP n bytes zero l m.len vs K h) h:=by
 have hl:=hx.len hR
 have hml:=hm.len hR
 obtain ⟨ys,g1,g2,g3,g4⟩:=hm
 obtain ⟨xs,h1,h3,h4⟩:=hx
 refine ⟨ys.flatMap c,?_,?_⟩
 · have:=(g1.le h1.1).2
   rwa [←g1.1] at this
 · refine zi6 h1 (n:=m.len) (new:=ys.flatMap c) g1.1.symm hz ?_ (by rw [hl,hml]; exact hlen) (by rw [hl,hml]; exact hlen2) fun y h' hy hyl=>H y h' ⟨xs++ys,by rw [List.flatMap_append]; exact hy,by simp [h3,g3],fun k k1 k2=>?_⟩
   · rw [List.all_flatMap,List.all_eq_true]
     exact fun x _=>hR.leaf x
   · rcases Nat.lt_or_ge k xs.length with h5 | h5
     · rw [List.getElem_append_left h5,List.getElem_append_left (by omega)]
       exact h4 k h5 (by omega)
     · rw [List.getElem_append_right h5,List.getElem_append_right (by omega)]
       have e:k-xs.length=k-ps.length:=by omega
       have k1':k-xs.length<ys.length:=by simp at k1; omega
       have:=g4 (k-xs.length) k1' (by omega)
       simp only [e] at this ⊢
       exact this
theorem za8h {K:Addr→Hp→Prop} (H:∀a h',LO c n P h h' ⟨some a,0,0⟩ []→K a h'):newP [] K h:=by
 refine zi9 (n:=0) (size:=n) (by simp) fun b h' hb ho=>H _ _ ⟨[],?_,rfl,fun k h1 _=>by simp at h1⟩
 exact ho
end
section
variable {D h h' : Hp} {l m : Sl} {xs ys : List Int} {K : Sl → Hp → Prop}
theorem OI.le (ho:OI D h l xs) (hl:h.le h'):OI D h' l xs:=Own.le ho hl
theorem OI.base {h0:Hp} (ho:OI D h l xs) (hl:h0.le D):OI h0 h l xs:=Own.base ho hl
end
theorem za8j {z vs:List Value} {K:Addr→Hp→Prop} {h:Hp} (hlen:vs.length=z.length) (hleaf:vs.all Value.leaf=true) (H:newP vs K h):newP z (fun a h'=>stP a vs (K a) h') h:=by
 intro b e hb
 refine ⟨_,Hp.ins_same _ _ _,rfl,rfl,by simp [hlen],hleaf,?_⟩
 have e2:splice z 0 vs=vs:=by unfold splice; simp [hlen]
 simp only [e2]
 rw [Hp.ins_ins]
 exact H b e hb
def onC (c:PCon) (p k:Int):Prop:=c.kind=13∧c.pts=[p]∧c.cir=[k]
instance (c:PCon) (p k:Int):Decidable (onC c p k):=by unfold onC; infer_instance
def mkOn (p k:Int):PCon:=⟨13,[p],[k],[],0⟩
def addOn (con out:List PCon) (p k:Int):List PCon:=if (∃c∈con++out,onC c p k) then out else out++[mkOn p k]
def addArc (con out:List PCon) (a:TArc):List PCon:=addOn con (addOn con out a.a a.circle) a.b a.circle
def impL (con:List PCon) (l:List TArc):List PCon:=l.foldl (addArc con) []
def imp (S:PSk):List PCon:=impL S.con S.arc
def allC (S:PSk):List PCon:=S.con++imp S
def cens (S:PSk):List Int:=S.cir.map (·.1)
theorem znt {con:List PCon} {l:List TArc} {i:Nat} (hi:i<l.length):impL con (l.take (i+1))=addArc con (impL con (l.take i)) l[i]:=by
 unfold impL
 rw [←List.take_append_getElem hi,List.foldl_append]
 rfl
theorem znm (con out:List PCon) (p k:Int):(addOn con out p k).length≤out.length+1:=by
 unfold addOn; split<;>simp
theorem zph (con:List PCon) (l:List TArc):∀i,i≤l.length→(impL con (l.take i)).length≤2*i
 | 0,_=>by simp [impL]
 | i+1,hi=>by
   rw [znt (by omega)]
   have:=zph con l i (by omega)
   unfold addArc
   have h1:=znm con (addOn con (impL con (l.take i)) l[i].a l[i].circle) l[i].b l[i].circle
   have h2:=znm con (impL con (l.take i)) l[i].a l[i].circle
   omega
theorem zr4 (S:PSk):(imp S).length≤2*S.arc.length:=by
 have:=zph S.con S.arc S.arc.length (Nat.le_refl _)
 rwa [List.take_length] at this
def VC1 (c:PCon):Prop:=c.pts.length≤10∧c.cir.length≤10∧(c.kind=13→c.pts.length=1∧c.cir.length=1∧c.vals=[]∧c.side=0)
theorem VC.one {c:PCon} {n m:Int} (hv:VC c n m) (hs:sC c):VC1 c:=⟨hs.1,hs.2.1,fun hk=>by
 obtain ⟨_,h2,h3,h4,_,h6,_⟩:=hv
 rw [hk] at h2 h3 h4 h6
 exact ⟨h2.1,h3.1,List.eq_nil_of_length_eq_zero h4,by simpa [shK,tabK] using h6⟩⟩
theorem vc_on {n m:Nat} {p k:Int} (hp:hasP n p) (hk:hasP m k):VC (mkOn p k) n m:=by
 unfold hasP at hp hk
 refine ⟨⟨by simp [mkOn],by simp [mkOn]⟩,⟨rfl,?_⟩,⟨rfl,?_⟩,rfl,by simp [mkOn],by simp [mkOn,shK,tabK],?_⟩
 · intro x hx
   have:x=p:=by simpa [mkOn] using hx
   omega
 · intro x hx
   have:x=k:=by simpa [mkOn] using hx
   omega
 · rw [if_neg (show ¬fourK (mkOn p k).kind by unfold fourK mkOn; simp only; omega)]
   exact ⟨by simp [mkOn],by simp [mkOn]⟩
theorem sc_on {p k:Int}:sC (mkOn p k):=⟨by simp [mkOn],by simp [mkOn],by simp [mkOn],by simp [mkOn]⟩
theorem znl {P:PCon→Prop} {con out:List PCon} {p k:Int} (ho:∀c∈out,P c) (hp:P (mkOn p k)):∀c∈addOn con out p k,P c:=by
 unfold addOn
 split
 · exact ho
 · intro c hc
   rcases List.mem_append.1 hc with hc | hc
   · exact ho c hc
   · rw [List.mem_singleton.1 hc]; exact hp
theorem zpg {P:PCon→Prop} {con:List PCon} {l:List TArc} (hp:∀a∈l,P (mkOn a.a a.circle)∧P (mkOn a.b a.circle)):∀i,i≤l.length→∀c∈impL con (l.take i),P c
 | 0,_=>by simp [impL]
 | i+1,hi=>by
   rw [znt (by omega)]
   have h1:=zpg (con:=con) hp i (by omega)
   have h2:=hp _ (List.getElem_mem (show i<l.length by omega))
   exact znl (znl h1 h2.1) h2.2
theorem za6p {P:PCon→Prop} {S:PSk} (hp:∀a∈S.arc,P (mkOn a.a a.circle)∧P (mkOn a.b a.circle)):∀c∈imp S,P c:=by
 have:=zpg (con:=S.con) hp S.arc.length (Nat.le_refl _)
 rwa [List.take_length] at this
theorem ziy {S:PSk} (hv:VS S) (hs:sSk S):∀c∈allC S,VC c S.pts.length S.cir.length∧sC c:=by
 intro c hc
 rcases List.mem_append.1 hc with hc | hc
 · exact ⟨hv.2.2.2.2.2 c hc,hs.2.2.2.2.2.2.2 c hc⟩
 · refine za6p (P:=fun c=>VC c S.pts.length S.cir.length∧sC c) (fun a ha=>?_) c hc
   have:=hv.2.2.2.1 a ha
   exact ⟨⟨vc_on this.2.1 this.1,sc_on⟩,⟨vc_on this.2.2.1 this.1,sc_on⟩⟩
theorem zmh {S:PSk} (hs:sSk S):(allC S).length≤40:=by
 have h1:=zr4 S
 have h2:=hs.2.2.2.1
 have h3:=hs.2.2.2.2.2.1
 unfold allC
 rw [List.length_append]; omega
section
variable {h : Hp} {s : TSketch} {S : PSk} {Kb : Bool → Hp → Prop} {Ki : Int → Hp → Prop} {Ks : Sl → Hp → Prop} {l m : Sl} {xs ys : List Int}
theorem za4l {s:Sl} {ps:List PCon} {g:PCon→Prop} {G:TConstraint→(Bool→Hp→Prop)→Hp→Prop} (hx:LR cc 5 CO h s ps) (hlen:ps.length≤1000000)
 (hG:∀x c h',h.le h'→CO h' x c→c∈ps→∀K:Bool→Hp→Prop,(∀b h'',h'.le h''→(b=true↔g c)→K b h'')→callP (G x) K h') (H:∀r h',h.le h'→(0≤r↔∃c∈ps,g c)→Ki r h') :
 (loopP (S:=Int×Unit) (fun s1 k2 h1=>
 (ifP (decide (s1.1<(s.len:Int)))
 (idxP s s1.1 5 fun a3=>
 (ldL (.int .i64) (a3.add 0) (fun x4_0=>
 (ldL (.sl) (a3.add 1) (fun x4_1=>
 (ldL (.sl) (a3.add 2) (fun x4_2=>
 (ldL (.sl) (a3.add 3) (fun x4_3=>
 (ldL (.int .i64) (a3.add 4) (fun x4_4=>
 (callP (G (⟨x4_0,x4_1,x4_2,x4_3,x4_4⟩:TConstraint)) (fun r5 h2=>
 (ifP r5
 (Ki s1.1 h2)
 (k2 ((IntKind.i64.wrap (s1.1+1)),()) h2))) h1)) h1)) h1)) h1)) h1)) h1))
 (Ki (-1) h1)))
 (0,()) h):=by
  have hl:=hx.len zaw
  refine zjy (n:=ps.length) (g:=fun i=>∃h:i<ps.length,g ps[i]) (by omega) (fun i h' k hl' hi' hb=>?_) (fun h' k hk=>za0 (fun hh=>by simp only at hh; omega) (fun _=>hk)) (fun r h' hl hr=>H _ _ hl (by
   rw [hr]
   constructor
   · rintro ⟨i,hi,hi2,hg⟩; exact ⟨_,List.getElem_mem hi2,hg⟩
   · rintro ⟨c,hc,hg⟩
     obtain ⟨i,hi,rfl⟩:=List.mem_iff_getElem.1 hc
     exact ⟨i,hi,hi,hg⟩))
  refine za0 (fun _=>?_) (fun hh=>by simp only at hh; omega)
  refine (hx.le zaw hl').get zaw i rfl hi' fun a x hxx hc=>?_
  refine ⟨_,hc 0 _ rfl,_,hc 1 _ rfl,_,hc 2 _ rfl,_,hc 3 _ rfl,_,hc 4 _ rfl,?_⟩
  exact hG _ _ _ hl' hxx (List.getElem_mem _) _ fun b h3 hl3 hbb=>hb b h3 hl3 (by rw [hbb]; exact ⟨fun hh=>⟨hi',hh⟩,fun ⟨_,hh⟩=>hh⟩)
theorem zot (hx:IL h l xs) (hy:IL h m ys) (hlen:xs.length≤1000000) (H:∀b h',h.le h'→(b=true↔xs=ys)→Kb b h'):callP (F.zdd l m) Kb h:=by
 refine za1 (fun b h'=>b=true↔xs=ys) (fun K' hk=>?_) fun b h' hl hb=>H b h' hl hb
 unfold F.zdd
 have hl:=hx.len
 have hm:=hy.len
 refine zcc (fun h1=>hk _ _ (Hp.le_refl _) ⟨fun hh=>(by cases hh),fun hh=>?_⟩) (fun h1=>?_)
 · exfalso
   subst hh
   omega
 have hl2:xs.length=ys.length:=by omega
 refine zcx (n:=xs.length) (by omega) (fun i h'=>h'=h∧xs.take i=ys.take i) ⟨rfl,by simp⟩ ?_
 rintro i h hi ⟨rfl,heq⟩ k hk2
 refine za0 (fun h2=>?_) (fun h2=>?_)
 · have hi':i<xs.length:=by simp only at h2; omega
   refine hx.get i rfl hi' (hy.get i rfl (by omega) ?_)
   refine zcc (fun h3=>hk _ _ (Hp.le_refl _) ⟨fun hh=>(by cases hh),fun hh=>?_⟩) (fun h3=>hk2 _ hi' ⟨rfl,?_⟩)
   · subst hh
     exact absurd rfl h3
   · rw [←List.take_append_getElem hi',←List.take_append_getElem (show i<ys.length by omega),heq,h3]
 · have:i=xs.length:=by simp only at h2; omega
   subst this
   refine hk _ _ (Hp.le_refl _) ⟨fun _=>?_,fun _=>rfl⟩
   rw [List.take_length,hl2,List.take_length] at heq
   exact heq
theorem zvm {x y:TConstraint} {c:PCon} {p k:Int} (hx:CO h x (mkOn p k)) (hy:CO h y c) (hv:VC1 c) (H:∀b h',h.le h'→(b=true↔onC c p k)→Kb b h'):callP (F.zfp x y) Kb h:=by
 refine za1 (fun b h'=>b=true↔onC c p k) (fun K' hk=>?_) fun b h' hl hb=>H b h' hl hb
 unfold F.zfp
 obtain ⟨x1,x2,x3,x4,x5⟩:=hx
 obtain ⟨y1,y2,y3,y4,y5⟩:=hy
 obtain ⟨v1,v2,v3⟩:=hv
 have no:∀h',h.le h'→¬onC c p k→K' false h':=fun h' hl hn=>hk _ _ hl ⟨fun hh=>(by cases hh),fun hh=>absurd hh hn⟩
 rw [x1,x5,y1,y5]
 refine zae (fun h1=>?_) (fun h1=>no _ (Hp.le_refl _) fun hv=>h1 hv.1.symm)
 have hk13:c.kind=13:=h1.symm
 obtain ⟨w1,w2,w3,w4⟩:=v3 hk13
 refine zae (fun h2=>?_) (fun h2=>absurd (show (mkOn p k).side=c.side by rw [w4]; rfl) h2)
 refine zot x2 y2 (by simp [mkOn]) fun b h3 hl3 hb=>?_
 refine za6 (fun h4=>?_) (fun h4=>no _ hl3 fun hv=>by rw [hb.2 hv.2.1.symm] at h4; cases h4)
 refine zot (x3.le hl3) (y3.le hl3) (by simp [mkOn]) fun b5 h5 hl5 hb5=>?_
 have hle:=Hp.le_trans hl3 hl5
 refine za6 (fun h6=>?_) (fun h6=>no _ hle fun hv=>by rw [hb5.2 hv.2.2.symm] at h6; cases h6)
 refine za1 (fun b h'=>b=true) (fun K2 hk2=>?_) fun b h7 hl7 hb7=>hk _ _ (Hp.le_trans hle hl7) ⟨fun _=>⟨hk13,(hb.1 h4).symm,(hb5.1 h6).symm⟩,fun _=>hb7⟩
 unfold F.zb0
 refine ⟨1,?_⟩
 unfold F.za8
 have e1:=x4.len zdj
 have e2:=y4.len zdj
 rw [w3] at e2
 have e3:x.values.len=0:=e1
 have e4:y.values.len=0:=e2
 refine zcc (fun h8=>by rw [e3,e4] at h8; exact absurd rfl h8) (fun _=>?_)
 refine zaj (fun st h'=>h'=h5∧st=(0,())) (fun _=>0) ⟨rfl,rfl⟩ ?_
 rintro st h5 ⟨rfl,rfl⟩
 refine za0 (fun h8=>by rw [e3] at h8; exact absurd h8 (by decide)) (fun _=>hk2 _ _ (Hp.le_refl _) rfl)
def CKC (h:Hp) (a:Addr) (x:TConstraint):Prop:=∀i v,(cc x)[i]?=some v→h.cell (a.add i)=some v
theorem znc {s:Sl} {ps:List PCon} {a:Addr} {x:TConstraint} {p k:Int} (hx:LR cc 5 CO h s ps) (hlen:ps.length≤1000000) (hv:∀c∈ps,VC1 c) (ha:CKC h a x) (hc:CO h x (mkOn p k)) (H:∀b h',h.le h'→(b=true↔∃c∈ps,onC c p k)→Kb b h') :
 callP (F.za9 s (some a,())) Kb h:=by
 refine za1 (fun b h'=>(b=true↔∃c∈ps,onC c p k)) (fun K2 hk2=>?_) fun b h' hl hb=>H _ _ hl hb
 unfold F.za9
 refine za1 (fun r h'=>(0≤r↔∃c∈ps,onC c p k)) (fun K3 hk3=>?_) fun r h' hl hr=>hk2 _ _ hl (by rw [decide_eq_true_iff]; exact hr)
 unfold F.zb5
 refine za4l (g:=fun c=>onC c p k) (G:=fun x=>F.zfx x (some a,()).1) hx hlen (fun y c h' hl' hy hm K hK=>?_) fun r h' hl hr=>hk3 _ _ hl hr
 refine za1 (fun b h'=>(b=true↔onC c p k)) (fun K4 hk4=>?_) fun b h'' hl'' hbb=>hK b h'' hl'' hbb
 unfold F.zfx
 have c0:CKC h' a x:=fun i v hv=>Hp.cell_le hl' (ha i v hv)
 refine ⟨_,c0 0 _ rfl,_,c0 1 _ rfl,_,c0 2 _ rfl,_,c0 3 _ rfl,_,c0 4 _ rfl,?_⟩
 exact zvm (x:=x) (hc.le hl') hy (hv c hm) fun b h'' hl hb=>hk4 _ _ hl hb
theorem za2k {a:Addr} {z:Int} {c:Nat} (hc:h.cell a=some (.int .i64 z)) (hcap:1≤c):IL h ⟨some a,1,c⟩ [z]:=by
 refine ⟨zea (cells:=[ic z]) (fun i v hv=>?_) rfl,hcap⟩
 cases i with
 | zero=>
   rw [zb7,hc]
   simpa [ic] using hv
 | succ i=>simp at hv
theorem VS.one {c:PCon} (hv:VS S) (hs:sSk S) (hc:c∈S.con):VC1 c:=(hv.2.2.2.2.2 c hc).one (hs.2.2.2.2.2.2.2 c hc)
theorem zua {p k:Int}:VC1 (mkOn p k):=⟨by simp [mkOn],by simp [mkOn],fun _=>⟨rfl,rfl,rfl,rfl⟩⟩
theorem za6q:∀i,i≤S.arc.length→∀c∈impL S.con (S.arc.take i),VC1 c:=zpg fun a _=>⟨zua,zua⟩
end
end Den
end

section
namespace Den
open Go Iv Lx
def itK (c:PCon) (cs:List Int) (k:Int):List Int:=if c.kind=13∨c.kind=16∨c.kind=17 then [-1-k,cs.getD k.toNat 0] else [-1-k]
def itemsC (c:PCon) (cs:List Int):List Int:=c.pts++c.cir.flatMap (itK c cs)
theorem zwz (c:PCon) (cs:List Int) (k:Int):(itK c cs k).length≤2:=by unfold itK; split<;>simp
theorem zq9 {c:PCon} {cs:List Int} (hs:sC c):(itemsC c cs).length≤30:=by
 unfold itemsC
 have:∀l:List Int,(l.flatMap (itK c cs)).length≤2*l.length:=by
  intro l
  induction l with
  | nil=>simp
  | cons a r ih=>
    have:=zwz c cs a
    simp only [List.flatMap_cons,List.length_append,List.length_cons]
    omega
 have h1:=this c.cir
 have h2:=hs.1
 have h3:=hs.2.1
 rw [List.length_append]; omega
section
variable {h : Hp} {s : TSketch} {S : PSk} {Kb : Bool → Hp → Prop} {Ki : Int → Hp → Prop} {Ks : Sl → Hp → Prop} {l m : Sl} {xs ys : List Int}
theorem co_on {a b:Addr} {p k:Int} {va vs:Sl} (ha:h.cell a=some (.int .i64 p)) (hb:h.cell b=some (.int .i64 k)):CO h ⟨13,⟨some a,1,1⟩,⟨some b,1,1⟩,nilS,0⟩ (mkOn p k):=
 ⟨rfl,za2k ha (by decide),za2k hb (by decide),LR.nil,rfl⟩
theorem za66 {i:Int} {K:Addr→Prop} (hx:SK h s S) (k:Nat) (hi:i=k) (hk:k<S.arc.length) (H:∀a,(∀j v,(arcc S.arc[k])[j]?=some v→h.cell (a.add j)=some v)→K a):idxP s.arcs i 4 K:=
 hx.2.2.2.1.get zfb k hi hk fun a x hxx hc=>H a (by have hxx:x=S.arc[k]:=hxx; rw [←hxx]; exact hc)
theorem zts {A:TArc} {out:List PCon} {p:Int} {y:Sl} {D:Hp} {K:Sl×Unit→Hp→Prop} (hv:VS S) (hs:sSk S) (hlen:out.length≤100) (hone:∀c∈out,VC1 c) (hS:SK D s S) (ho:LO cc 5 CO D h y out)
 (hK:∀y' D' h',D.le D'→LO cc 5 CO D' h' y' (addOn S.con out p A.circle)→K (y',()) h') :
 newP [.int .i64 p] (fun p12 h5=>
 (newP [.int .i64 A.circle] (fun p13 h6=>
 (newP [.int .i64 0,.slice nilS.a nilS.len nilS.cap,.slice nilS.a nilS.len nilS.cap,.slice nilS.a nilS.len nilS.cap,.int .i64 0] (fun p14 h7=>
 (stP p14 [.int .i64 13,.slice (⟨some p12,1,1⟩:Sl).a (⟨some p12,1,1⟩:Sl).len (⟨some p12,1,1⟩:Sl).cap,.slice (⟨some p13,1,1⟩:Sl).a (⟨some p13,1,1⟩:Sl).len (⟨some p13,1,1⟩:Sl).cap,.slice nilS.a nilS.len nilS.cap,.int .i64 0] (fun h8=>
 (callP (F.za9 s.constraints ((some p14),())) (fun r15 h9=>
 (ifP (!r15)
 (callP (F.za9 y ((some p14),())) (fun r16 h10=>
 (ifP (!r16)
 (ldL (.int .i64) (p14.add 0) (fun x17_0=>
 (ldL (.sl) (p14.add 1) (fun x17_1=>
 (ldL (.sl) (p14.add 2) (fun x17_2=>
 (ldL (.sl) (p14.add 3) (fun x17_3=>
 (ldL (.int .i64) (p14.add 4) (fun x17_4=>
 (appP 5 88 [.int .i64 0,.slice nilS.a nilS.len nilS.cap,.slice nilS.a nilS.len nilS.cap,.slice nilS.a nilS.len nilS.cap,.int .i64 0] y 1 [.int .i64 x17_0,.slice x17_1.a x17_1.len x17_1.cap,.slice x17_2.a x17_2.len x17_2.cap,.slice x17_3.a x17_3.len x17_3.cap,.int .i64 x17_4] (fun w18 h11=>
 (K (w18,()) h11)) h10)) h10)) h10)) h10)) h10)) h10)
 (K (y,()) h10))) h9)
 (K (y,()) h9))) h8)) h7)) h6)) h5)) h:=by
  refine ho.newb zaw fun p12 D3 h4 d3 l4 ho4 c12=>ho4.newb zaw fun p13 D4 h5 d4 l5 ho5 c13=>?_
  refine za8j (vs:=[.int .i64 13,.slice (⟨some p12,1,1⟩:Sl).a (⟨some p12,1,1⟩:Sl).len (⟨some p12,1,1⟩:Sl).cap,.slice (⟨some p13,1,1⟩:Sl).a (⟨some p13,1,1⟩:Sl).len (⟨some p13,1,1⟩:Sl).cap,.slice nilS.a nilS.len nilS.cap,.int .i64 0]) rfl rfl ?_
  refine ho5.newb zaw fun p14 D5 h6 d5 l6 ho6 c14=>?_
  have e12:D5.cell p12=some (.int .i64 p):=by
   have:=c12 0 _ rfl
   rw [zb7] at this
   exact Hp.cell_le (Hp.le_trans d4 d5) this
  have e13:D5.cell p13=some (.int .i64 A.circle):=by
   have:=c13 0 _ rfl
   rw [zb7] at this
   exact Hp.cell_le d5 this
  have hDD:D.le D5:=Hp.le_trans d3 (Hp.le_trans d4 d5)
  have hco:CO D5 ⟨13,⟨some p12,1,1⟩,⟨some p13,1,1⟩,nilS,0⟩ (mkOn p A.circle):=co_on (va:=nilS) (vs:=nilS) e12 e13
  have hck:CKC D5 p14 ⟨13,⟨some p12,1,1⟩,⟨some p13,1,1⟩,nilS,0⟩:=c14
  refine ho6.call zaw (K1:=fun b h'=>(b=true↔∃c∈S.con,onC c p A.circle)) ?_ fun b D6 h7 d6 ho7 hb=>?_
  · exact znc (hS.le hDD).2.2.2.2.2 (by have:=hs.2.2.2.2.2.1; omega) (fun c hc=>hv.one hs hc) hck hco fun b h' hl hb=>hb
  have hck6:CKC D6 p14 ⟨13,⟨some p12,1,1⟩,⟨some p13,1,1⟩,nilS,0⟩:=fun i v hv=>Hp.cell_le d6 (hck i v hv)
  refine za6 (fun h8=>?_) (fun h8=>?_)
  · have hb':¬∃c∈S.con,onC c p A.circle:=fun hh=>by rw [hb.2 hh] at h8; cases h8
    refine znc (ho7.lr zaw) (by omega) hone (fun i v hv=>Hp.cell_le ho7.dle (hck6 i v hv)) ((hco.le d6).le ho7.dle) fun b9 h9 hl9 hb9=>?_
    have ho9:=ho7.le hl9
    refine za6 (fun h10=>?_) (fun h10=>?_)
    · have hb9':¬∃c∈out,onC c p A.circle:=fun hh=>by rw [hb9.2 hh] at h10; cases h10
      have c9:∀i v,(cc ⟨13,⟨some p12,1,1⟩,⟨some p13,1,1⟩,nilS,0⟩)[i]?=some v→h9.cell (p14.add i)=some v:=fun i v hv=>Hp.cell_le ho9.dle (hck6 i v hv)
      refine ⟨_,c9 0 _ rfl,_,c9 1 _ rfl,_,c9 2 _ rfl,_,c9 3 _ rfl,_,c9 4 _ rfl,?_⟩
      refine ho9.app zaw (bytes:=88) (zero:=[.int .i64 0,.slice nilS.a nilS.len nilS.cap,.slice nilS.a nilS.len nilS.cap,.slice nilS.a nilS.len nilS.cap,.int .i64 0]) (x:=⟨13,⟨some p12,1,1⟩,⟨some p13,1,1⟩,nilS,0⟩) (b:=mkOn p A.circle) (by rfl) (by omega) (by omega) (hco.le d6) fun y' h11 ho11=>?_
      refine hK y' D6 h11 (Hp.le_trans hDD d6) ?_
      · have:addOn S.con out p A.circle=out++[mkOn p A.circle]:=by
         unfold addOn
         rw [if_neg]
         rintro ⟨c,hc,hon⟩
         rcases List.mem_append.1 hc with hc | hc
         · exact hb' ⟨c,hc,hon⟩
         · exact hb9' ⟨c,hc,hon⟩
        rw [this]; exact ho11
    · have hb9':∃c∈out,onC c p A.circle:=hb9.1 (by simpa using h10)
      refine hK y D6 h9 (Hp.le_trans hDD d6) ?_
      · have:addOn S.con out p A.circle=out:=by
         unfold addOn
         rw [if_pos]
         obtain ⟨c,hc,hon⟩:=hb9'
         exact ⟨c,List.mem_append_right _ hc,hon⟩
        rw [this]; exact ho9
  · have hb':∃c∈S.con,onC c p A.circle:=hb.1 (by simpa using h8)
    refine hK y D6 h7 (Hp.le_trans hDD d6) ?_
    · have:addOn S.con out p A.circle=out:=by
       unfold addOn
       rw [if_pos]
       obtain ⟨c,hc,hon⟩:=hb'
       exact ⟨c,List.mem_append_left _ hc,hon⟩
      rw [this]; exact ho7
theorem zni (hx:SK h s S) (hv:VS S) (hs:sSk S) (H:∀y h',h.le h'→LR cc 5 CO h' y (imp S)→Ks y h'):callP (F.zfi s) Ks h:=by
 refine za1 (fun y h'=>LR cc 5 CO h' y (imp S)) (fun K' hk=>?_) fun b h' hl hb=>H b h' hl hb
 unfold F.zfi
 have l4:=hx.2.2.2.1.len zfb
 have s4:=hs.2.2.2.1
 refine zcw (n:=S.arc.length) (by omega) (fun i y h'=>∃D,h.le D∧LO cc 5 CO D h' y (impL S.con (S.arc.take i))) ⟨h,Hp.le_refl _,LO.nil⟩ ?_
 rintro i y h1 hi ⟨D,hD,ho⟩ k hk2
 refine za0 (fun h2=>?_) (fun h2=>?_)
 · have hi':i<S.arc.length:=by simp only at h2; omega
   have hlen:=zph S.con S.arc i hi
   refine za66 (hx.le (Hp.le_trans hD ho.dle)) i rfl hi' fun a hc=>⟨_,hc 0 _ rfl,_,hc 1 _ rfl,_,hc 2 _ rfl,_,hc 3 _ rfl,?_⟩
   refine ho.newb zaw fun p5 D2 h3 d2 l3 ho3 c5=>?_
   have hD2:=Hp.le_trans hD d2
   obtain ⟨A,hA⟩:∃A,A=S.arc[i]:=⟨_,rfl⟩
   rw [←hA] at c5 ⊢
   obtain ⟨out,hout⟩:∃out,out=impL S.con (S.arc.take i):=⟨_,rfl⟩
   rw [←hout] at ho3 hlen
   have hone:∀c∈out,VC1 c:=by rw [hout]; exact za6q i hi
   obtain ⟨st,hst⟩:∃st:Nat→List PCon,st=fun j=>if j=0 then out else if j=1 then addOn S.con out A.a A.circle else addArc S.con out A:=⟨_,rfl⟩
   have st0:st 0=out:=by rw [hst]; rfl
   have st1:st 1=addOn S.con out A.a A.circle:=by rw [hst]; rfl
   have st2:st 2=addArc S.con out A:=by rw [hst]; rfl
   have a1:=znm S.con out A.a A.circle
   have hl5:IL D2 ⟨some p5,2,2⟩ [A.a,A.b]:=⟨zea c5 rfl,Nat.le_refl _⟩
   refine zcw (n:=2) (by omega) (fun j y h'=>∃D,D2.le D∧LO cc 5 CO D h' y (st j)) ⟨D2,Hp.le_refl _,by rw [st0]; exact ho3⟩ ?_
   rintro j z h4 hj ⟨D3,d3,ho4⟩ k2 hk3
   refine za0 (fun h5=>?_) (fun h5=>?_)
   · have hj':j<2:=by have:(j:Int)<((2:Nat):Int):=h5; omega
     refine za5 (fun s h'=>∃D,D2.le D∧LO cc 5 CO D h' s.1 (st (j+1))) (fun s h' hs=>hk3 _ _ hj' hs) ?_
     refine (hl5.le (Hp.le_trans d3 ho4.dle)).get j rfl hj' ?_
     have fin:∀(p:Int),st (j+1)=addOn S.con (st j) p A.circle→∀y' D' h',D3.le D'→LO cc 5 CO D' h' y' (addOn S.con (st j) p A.circle)→(fun (s:Sl×Unit) h'=>∃D,D2.le D∧LO cc 5 CO D h' s.1 (st (j+1))) (y',()) h':=
      fun p hp y' D' h' hd hl=>⟨D',Hp.le_trans d3 hd,by rw [hp]; exact hl⟩
     have hS3:SK D3 s S:=hx.le (Hp.le_trans hD2 d3)
     rcases (by omega:j=0∨j=1) with rfl | rfl
     · exact zts (A:=A) (K:=fun (s:Sl×Unit) h'=>∃D,D2.le D∧LO cc 5 CO D h' s.1 (st (0+1))) hv hs (by rw [st0]; omega) (by rw [st0]; exact hone) hS3 ho4 (fin A.a (by rw [st1,st0]))
     · exact zts (A:=A) (K:=fun (s:Sl×Unit) h'=>∃D,D2.le D∧LO cc 5 CO D h' s.1 (st (1+1))) hv hs (by rw [st1]; omega) (by rw [st1]; exact znl hone zua) hS3 ho4 (fin A.b (by rw [st2,st1]; rfl))
   · have:j=2:=by have:¬(j:Int)<((2:Nat):Int):=h5; omega
     subst this
     refine hk2 _ _ hi' ⟨D3,Hp.le_trans hD2 d3,?_⟩
     rw [znt hi',←hout,←hA,←st2]
     exact ho4
 · have:i=S.arc.length:=by simp only at h2; omega
   subst this
   rw [List.take_length] at ho
   exact hk _ _ (Hp.le_trans hD ho.dle) (ho.lr zaw)
end
end Den
end

section
namespace Den
open Go Iv Lx
def zC:List Value:=[.int .i64 0,.slice nilS.a nilS.len nilS.cap,.slice nilS.a nilS.len nilS.cap,.slice nilS.a nilS.len nilS.cap,.int .i64 0]
section
variable {h : Hp} {s : TSketch} {S : PSk} {Kb : Bool → Hp → Prop} {Ki : Int → Hp → Prop} {Ks : Sl → Hp → Prop} {l m : Sl} {xs ys : List Int}
theorem zwr {i:Int} {K:Addr→Prop} (hx:SK h s S) (k:Nat) (hi:i=k) (hk:k<S.cir.length) (H:∀a (x:TRound),x.center=(cens S)[k]'(by unfold cens; simpa using hk)→(∀j v,(rdc x)[j]?=some v→h.cell (a.add j)=some v)→K a):idxP s.circles i 5 K:=
 hx.2.1.get zee k hi hk fun a x hxx hc=>H a x (by rw [hxx.1]; simp [cens]) hc
theorem zky:(cens S).length=S.cir.length:=by simp [cens]
theorem zsc (hx:SK h s S) (hs:sSk S) (H:∀y h',h.le h'→OI h h' y (cens S)→Ks y h'):callP (F.zig s) Ks h:=by
 refine za1 (fun y h'=>OI h h' y (cens S)) (fun K' hk=>?_) fun b h' hl hb=>H b h' hl hb
 unfold F.zig
 have l2:=hx.2.1.len zee
 have s2:=hs.2.1
 have cl:=zky (S:=S)
 refine zcw (n:=S.cir.length) (by omega) (fun i y h'=>OI h h' y ((cens S).take i)) (by simpa using OI.nil) ?_
 intro i y h1 hi ho k hk2
 refine za0 (fun h2=>?_) (fun h2=>?_)
 · have hi':i<S.cir.length:=by simp only at h2; omega
   refine zwr (hx.le ho.dle) i rfl hi' fun a x hxx hc=>⟨_,hc 0 _ rfl,_,hc 1 _ rfl,_,hc 2 _ rfl,_,hc 3 _ rfl,_,hc 4 _ rfl,?_⟩
   refine ho.app (by rw [List.length_take]; omega) fun z h3 ho3=>hk2 _ _ hi' ?_
   rw [hxx,List.take_append_getElem] at ho3
   exact ho3
 · have:i=S.cir.length:=by simp only at h2; omega
   subst this
   rw [←cl,List.take_length] at ho
   exact hk _ _ ho.dle ho
end
end Den
end

section
namespace Den
open Go Iv Lx
def cirOk (c:PCon) (cs:List Int):Prop:=∀k∈c.cir,0≤k∧k<cs.length
theorem VC.cirOk {c:PCon} {n:Int} {S:PSk} (hv:VC c n S.cir.length):cirOk c (cens S):=fun k hk=>by
 have:=hv.2.2.1.2 k hk
 rw [zky]; exact this
def withC (c:PCon):Prop:=c.kind=13∨c.kind=16∨c.kind=17
instance (c:PCon):Decidable (withC c):=by unfold withC; infer_instance
theorem zx1 {c:PCon} {cs:List Int} {k:Int} (h:withC c):itK c cs k=[-1-k,cs.getD k.toNat 0]:=by unfold itK; exact if_pos h
theorem zx0 {c:PCon} {cs:List Int} {k:Int} (h:¬withC c):itK c cs k=[-1-k]:=by unfold itK; exact if_neg h
theorem zm6 {c:PCon} {cs:List Int}:∀l:List Int,(l.flatMap (itK c cs)).length≤2*l.length:=by
 intro l
 induction l with
 | nil=>simp
 | cons a r ih=>
   have:=zwz c cs a
   simp only [List.flatMap_cons,List.length_append,List.length_cons]
   omega
theorem zii {c:PCon} {cs:List Int} {l:List Int} {i:Nat} (hi:i<l.length):(l.take (i+1)).flatMap (itK c cs)=(l.take i).flatMap (itK c cs)++itK c cs l[i]:=by
 rw [←List.take_append_getElem hi,List.flatMap_append]
 simp
section
variable {h : Hp} {x : TConstraint} {c : PCon} {cs : List Int} {ce : Sl} {Kb : Bool → Hp → Prop} {Ki : Int → Hp → Prop} {Ks : Sl → Hp → Prop}
theorem zu5 {k:Int} {n:Nat} (h0:0≤k) (h1:k<n) (h2:n≤1000000):IntKind.i64.wrap (-1-k)=-1-k:=w64 (by omega)
theorem zvn (hx:CO h x c) (hc:IL h ce cs) (hs:sC c) (hok:cirOk c cs) (hcl:cs.length≤1000) (H:∀y h',h.le h'→OI h h' y (itemsC c cs)→Ks y h'):callP (F.zka x ce) Ks h:=by
 refine za1 (fun y h'=>OI h h' y (itemsC c cs)) (fun K' hk=>?_) fun b h' hl hb=>H b h' hl hb
 unfold F.zka
 obtain ⟨x1,x2,x3,x4,x5⟩:=hx
 obtain ⟨s1,s2,s3,s4⟩:=hs
 rw [x1]
 have cl:=x3.len
 refine zou x2 (by omega) fun w3 h2 ho2=>?_
 refine zcw (n:=c.cir.length) (by omega) (fun i y h'=>OI h h' y (c.pts++(c.cir.take i).flatMap (itK c cs))) (by simpa using ho2) ?_
 intro i y h3 hi ho k hk2
 have hfl:=zm6 (c:=c) (cs:=cs) (c.cir.take i)
 rw [List.length_take] at hfl
 refine za0 (fun h4=>?_) (fun h4=>?_)
 · have hi':i<c.cir.length:=by simp only at h4; omega
   have hkk:=hok _ (List.getElem_mem hi')
   refine za5 (fun s h'=>OI h h' s.1 (c.pts++(c.cir.take (i+1)).flatMap (itK c cs))) (fun s h' hs=>hk2 _ _ hi' hs) ?_
   refine (x3.le ho.dle).get i rfl hi' ?_
   rw [zu5 hkk.1 hkk.2 (by omega)]
   refine ho.app (by rw [List.length_append]; omega) fun w h5 ho5=>?_
   refine za5 (fun s h'=>h'=h5∧s.1=decide (withC c)) ?_ ?_
   · rintro ⟨b,_⟩ h5 ⟨rfl,hb⟩
     simp only at hb
     subst hb
     refine za0 (fun hw=>?_) (fun hw=>?_)
     · refine (hc.le ho5.dle).get c.cir[i].toNat (by omega) (by omega) ?_
       refine ho5.app (by rw [List.length_append,List.length_append,List.length_singleton]; omega) fun w2 h6 ho6=>?_
       show OI _ _ _ _
       rw [zii hi',zx1 hw,zbd (by omega)]
       simpa [List.append_assoc] using ho6
     · show OI _ _ _ _
       rw [zii hi',zx0 hw,←List.append_assoc]
       exact ho5
   · refine zae (fun h6=>⟨rfl,?_⟩) (fun h6=>zae (fun h7=>⟨rfl,?_⟩) (fun h7=>⟨rfl,?_⟩))
     · simp only; rw [decide_eq_true (show withC c from .inl h6),h6]; rfl
     · simp only; rw [decide_eq_true (show withC c from .inr (.inl h7)),h7]; rfl
     · simp only
       by_cases h8:c.kind=17
       · rw [decide_eq_true (show withC c from .inr (.inr h8)),h8]; rfl
       · rw [decide_eq_false (show ¬withC c by unfold withC; omega),beq_eq_false_iff_ne]; exact h8
 · have:i=c.cir.length:=by simp only at h4; omega
   subst this
   rw [List.take_length] at ho
   exact hk _ _ ho.dle ho
end
section
variable {h : Hp} {s : TSketch} {S : PSk} {Kb : Bool → Hp → Prop} {Ki : Int → Hp → Prop} {Ks : Sl → Hp → Prop} {l m : Sl} {xs ys : List Int}
theorem zvq {ps:List PCon} (hx:LR cc 5 CO h l ps) (hlen:ps.length≤1000000) (H:∀y h',h.le h'→LO cc 5 CO h h' y ps→Ks y h'):callP (F.zbo l) Ks h:=by
 refine za1 (fun y h'=>LO cc 5 CO h h' y ps) (fun K' hk=>?_) fun b h' hl hb=>H b h' hl hb
 unfold F.zbo
 cases ha:l.a with
 | none=>
   refine zc4 rfl ?_
   obtain ⟨ys,h1,h2,h3,h4⟩:=hx
   have h5:=h1.2
   rw [ha] at h5
   simp only [cellsAtO] at h5
   split at h5
   · rename_i h6
     rw [zmq zaw.len] at h6
     have:ys=[]:=List.eq_nil_of_length_eq_zero (by omega)
     subst this
     have:ps=[]:=List.eq_nil_of_length_eq_zero (by simpa using h3.symm)
     subst this
     exact hk _ _ (Hp.le_refl _) LO.nil
   · cases h5
 | some a=>
   refine zb1 rfl ?_
   refine za8h (c:=cc) (n:=5) (P:=CO) fun p1 h1 ho1=>?_
   have key:=ho1.appAll zaw (K:=K') (bytes:=88) (zero:=zC) hx rfl (by simp; omega) (by simp; omega) fun w3 h2 ho2=>hk _ _ ho2.dle (by simpa using ho2)
   rw [ha] at key
   exact key
theorem zzb (hx:SK h s S) (hv:VS S) (hs:sSk S) (H:∀y h',h.le h'→LR cc 5 CO h' y (allC S)→Ks y h'):callP (F.zmn s) Ks h:=by
 refine za1 (fun y h'=>LR cc 5 CO h' y (allC S)) (fun K' hk=>?_) fun b h' hl hb=>H b h' hl hb
 unfold F.zmn
 have s6:=hs.2.2.2.2.2.1
 have hi:=zr4 S
 have s4:=hs.2.2.2.1
 refine zvq hx.2.2.2.2.2 (by omega) fun w3 h2 _ ho2=>?_
 refine ho2.call zaw (K1:=fun y h'=>LR cc 5 CO h' y (imp S)) (zni hx hv hs fun y h' _ hy=>hy) fun r4 D h3 d1 ho3 h4=>?_
 exact ho3.appAll zaw (bytes:=88) (zero:=zC) h4 rfl (by omega) (by omega) fun w6 h5 ho5=>hk _ _ (Hp.le_trans d1 ho5.dle) (ho5.lr zaw)
theorem zz1 {n:Nat} (hn:n≤1000000) (H:∀y h',h.le h'→LO cc 5 CO h h' y []→Ks y h'):callP (F.zbp nilS (n:Int)) Ks h:=by
 refine za1 (fun y h'=>LO cc 5 CO h h' y []) (fun K' hk=>?_) fun b h' hl hb=>H b h' hl hb
 unfold F.zbp
 have e0:IntKind.i64.wrap (((nilS.cap:Nat):Int)-(nilS.len:Int))=0:=by rw [show ((nilS.cap:Nat):Int)-(nilS.len:Int)=0 from rfl]; exact w64 (by omega)
 have e1:IntKind.i64.wrap ((n:Int)-0)=(n:Int):=by rw [Int.sub_zero]; exact w64 (by omega)
 refine za5 (fun _ h'=>h'=h) ?_ (za0 (fun h1=>by omega) (fun _=>rfl))
 rintro _ h rfl
 rw [e0,e1]
 refine za0 (fun h1=>?_) (fun h1=>hk _ _ (Hp.le_refl _) LO.nil)
 refine ⟨by omega,by decide,by decide,by omega,?_⟩
 have hown:Own h h 5 (nilS.cut 0 0 5) ([]:List Value):=⟨Hp.le_refl _,rfl,Nat.le_refl _,rfl⟩
 have ez:repl n zC=(List.replicate n (⟨0,nilS,nilS,nilS,0⟩:TConstraint)).flatMap cc:=by
  unfold repl
  rw [List.flatMap_replicate]
  rfl
 have key:appP 5 88 zC (nilS.cut 0 0 5) n (repl n zC) (fun w4 h2=>slP w4 0 ((nilS.len:Nat):Int) 5 fun c5=>K' c5 h2) h:=by
  refine zi6 hown (n:=n) ?_ rfl ?_ (by show (0+n)*88≤_; omega) (by show 0+n≤_; omega) fun y h' hy hyl=>?_
  · rw [zn3]; rfl
  · rw [ez,List.all_flatMap,List.all_eq_true]
    exact fun x _=>rfl
  · have hcap:=hy.2.2.1
    have e9:nilS.len=0:=rfl
    refine ⟨by decide,by decide,by omega,hk _ _ hy.1 ?_⟩
    have hp:=hy.preN (k:=0) (by omega)
    refine ⟨[],?_,rfl,fun k h1 _=>by simp at h1⟩
    rw [Nat.zero_mul,List.take_zero] at hp
    exact hp
 exact key
theorem zva {qs rs:List PCon} {p:Addr} (hl:LR cc 5 CO h l qs) (hm:LR cc 5 CO h m rs) (hlen:qs.length+rs.length≤1000) (hp:Rd h 1 ⟨some p,2,2⟩ [Lf.sl.up l,Lf.sl.up m]) (H:∀y h',h.le h'→LR cc 5 CO h' y (qs++rs)→Ks y h') :
 callP (F.zbk ⟨some p,2,2⟩) Ks h:=by
 refine za1 (fun y h'=>LR cc 5 CO h' y (qs++rs)) (fun K' hk=>?_) fun b h' hl hb=>H b h' hl hb
 unfold F.zbk
 have ll:=hl.len zaw
 have ml:=hm.len zaw
 have g0:∀{h':Hp} {K:Sl→Prop},h.le h'→K l→idxP (⟨some p,2,2⟩:Sl) ((0:Nat):Int) 1 fun a=>ldL .sl a K h':=fun {h'} {K} hle hK=>zqm 0 (hp.le hle) rfl rfl fun a ha=>⟨l,ha,hK⟩
 have g1:∀{h':Hp} {K:Sl→Prop},h.le h'→K m→idxP (⟨some p,2,2⟩:Sl) ((1:Nat):Int) 1 fun a=>ldL .sl a K h':=fun {h'} {K} hle hK=>zqm 1 (hp.le hle) rfl rfl fun a ha=>⟨m,ha,hK⟩
 refine zcw (n:=2) (by omega) (fun i a h'=>h'=h∧a=if i=0 then 0 else if i=1 then (qs.length:Int) else ((qs.length+rs.length:Nat):Int)) ⟨rfl,rfl⟩ ?_
 rintro i a h hi ⟨rfl,ha⟩ k hk2
 refine za0 (fun h1=>?_) (fun h1=>?_)
 · have hi':i<2:=by have:(i:Int)<((2:Nat):Int):=h1; omega
   refine za5 (fun s h'=>h'=h∧s.1=if i+1=0 then 0 else if i+1=1 then (qs.length:Int) else ((qs.length+rs.length:Nat):Int)) (fun s h' hs=>hk2 _ _ hi' hs) ?_
   rcases (by omega:i=0∨i=1) with rfl | rfl
   · refine g0 (Hp.le_refl _) ?_
     have ha:a=0:=ha
     have e:IntKind.i64.wrap (a+(l.len:Int))=(qs.length:Int):=by rw [ha,ll,Int.zero_add]; exact w64 (by omega)
     simp only
     rw [e]
     refine za0 (fun h2=>by omega) (fun _=>⟨by trivial,by trivial⟩)
   · refine g1 (Hp.le_refl _) ?_
     have ha:a=(qs.length:Int):=ha
     have e:IntKind.i64.wrap (a+(m.len:Int))=((qs.length+rs.length:Nat):Int):=by rw [ha,ml]; rw [w64 (by omega)]; omega
     simp only
     rw [e]
     refine za0 (fun h2=>by omega) (fun _=>⟨by trivial,by trivial⟩)
 · have hi':i=2:=by have:¬(i:Int)<((2:Nat):Int):=h1; omega
   subst hi'
   have ha:a=((qs.length+rs.length:Nat):Int):=ha
   simp only
   rw [ha]
   refine zz1 (by omega) fun r7 h3 hl3 ho3=>?_
   refine zcw (n:=2) (by omega) (fun i y h'=>LO cc 5 CO h h' y (if i=0 then [] else if i=1 then qs else qs++rs)) ho3 ?_
   intro i y h4 hi ho4 k hk3
   refine za0 (fun h5=>?_) (fun h5=>?_)
   · have hi':i<2:=by have:(i:Int)<((2:Nat):Int):=h5; omega
     rcases (by omega:i=0∨i=1) with rfl | rfl
     · refine g0 ho4.dle ?_
       have ho4:LO cc 5 CO h h4 y []:=ho4
       exact ho4.appAll zaw (bytes:=88) (zero:=zC) hl rfl (by simp; omega) (by simp; omega) fun w h6 ho6=>hk3 _ _ (by decide) ho6
     · refine g1 ho4.dle ?_
       have ho4:LO cc 5 CO h h4 y qs:=ho4
       exact ho4.appAll zaw (bytes:=88) (zero:=zC) hm rfl (by omega) (by omega) fun w h6 ho6=>hk3 _ _ (by decide) ho6
   · have hi':i=2:=by have:¬(i:Int)<((2:Nat):Int):=h5; omega
     subst hi'
     have ho4:LO cc 5 CO h h4 y (qs++rs):=ho4
     exact hk _ _ ho4.dle (ho4.lr zaw)
end
end Den
end

section
namespace Den
open Go Iv Lx
def ILP (h:Hp) (x:Sl) (xs:List Int):Prop:=IL h x xs
theorem ziz:Rec slc 1 ILP:=⟨fun _=>rfl,by decide,fun _=>rfl,fun hx hl=>IL.le hx hl⟩
def items9 (s:TSketch) (lS itS ceS:Sl):List Value:=[Lf.sl.up s.points,Lf.sl.up s.circles,Lf.sl.up s.segments,Lf.sl.up s.arcs,Lf.sl.up s.chains,Lf.sl.up s.constraints,Lf.sl.up lS,Lf.sl.up itS,Lf.sl.up ceS]
def MB (h:Hp) (b:Nat) (cs:List Value):Prop:=∃e,h b=some ⟨cs,e,(0,0)⟩
theorem MB.ld {h:Hp} {b:Nat} {cs:List Value} (hb:MB h b cs) (j:Nat) {v:Value} (hv:cs[j]?=some v):h.cell ((⟨b,0,none⟩:Addr).add j)=some v:=by
 obtain ⟨e,hb⟩:=hb
 unfold Hp.cell
 rw [zbg,ze6 rfl,zcu]
 simpa [hb] using hv
theorem MB.le {h h':Hp} {b:Nat} {cs:List Value} (hb:MB h b cs) (hl:h.le h'):MB h' b cs:=by
 obtain ⟨e,hb⟩:=hb
 exact ⟨e,hl _ _ hb⟩
theorem MB.st {h:Hp} {b j:Nat} {cs:List Value} {v:Value} {K:Hp→Prop} (hb:MB h b cs) (hj:j<cs.length) (hv:Value.leaf v=true)
 (H:∀h',MB h' b (cs.set j v)→(∀i,i≠b→h' i=h i)→K h'):stP ((⟨b,0,none⟩:Addr).add j) [v] K h:=by
 obtain ⟨e,hb⟩:=hb
 refine ⟨_,by rw [zbg]; exact hb,ze6 rfl _,rfl,?_,by simp [hv],?_⟩
 · rw [zcu]; simp; omega
 · rw [zbg,zcu]
   refine H _ ⟨e,?_⟩ fun i hi=>Hp.ins_ne hi
   rw [Hp.ins_same]
   simp only [Nat.zero_add]
   rw [ziu,List.set_eq_take_append_cons_drop,if_pos hj]
theorem znu {h h':Hp} {b:Nat} {bl:Blk} (hb:h' b=some bl) (hs:∀i,i≠b→h' i=h i):h'=h.ins b bl:=by
 funext i
 by_cases hi:i=b
 · subst hi; rw [Hp.ins_same,hb]
 · rw [Hp.ins_ne hi,hs i hi]
theorem zl6 {h0 h:Hp} {x:Sl} {cs:List Value} {n m:Nat} {bl:Blk} (ho:Own h0 h m x cs) (hn:h0 n=none) (hne:∀a,x.a=some a→a.block≠n):Own h0 (h.ins n bl) m x cs:=by
 obtain ⟨h1,h2,h3,h4⟩:=ho
 refine ⟨fun k b hk=>?_,h2,h3,?_⟩
 · have:k≠n:=fun hh=>by subst hh; rw [hn] at hk; cases hk
   rw [Hp.ins_ne this]; exact h1 k b hk
 · cases ha:x.a with
   | none=>rw [ha] at h4; exact h4
   | some a=>
     rw [ha] at h4
     obtain ⟨g1,g2,g3,b,g4,g5⟩:=h4
     exact ⟨g1,g2,g3,b,by rw [Hp.ins_ne (hne a ha)]; exact g4,g5⟩
theorem zuf {h0 h D:Hp} {x:Sl} {cs:List Value} {m:Nat} (ho:Own h0 h m x cs) (hD:∀a,x.a=some a→D a.block=h a.block):Rd D m x cs:=by
 have hr:=ho.rd
 obtain ⟨h1,h2,h3,h4⟩:=ho
 refine ⟨hr.1,?_⟩
 cases ha:x.a with
 | none=>have:=hr.2; rw [ha] at this; exact this
 | some a=>
   rw [ha] at h4
   obtain ⟨g1,g2,g3,b,g4,g5,g6,g7⟩:=h4
   have hle:cs.length≤b.cells.length:=by rw [g6,←h2]; exact Nat.mul_le_mul_right _ h3
   simp only [cellsAtO]
   rw [zk7 (by rw [hD a ha]; exact g4) g2 (by omega),g1]
   simp [g7]
def PR (h:Hp) (p:Addr) (S:PSk):Prop:=∃s lS itS ceS,SK h s S∧(∀j v,(items9 s lS itS ceS)[j]?=some v→h.cell (p.add j)=some v)∧LR cc 5 CO h lS (allC S)∧LR slc 1 ILP h itS ((allC S).map fun c=>itemsC c (cens S))∧IL h ceS (cens S)
theorem PR.le {h h':Hp} {p:Addr} {S:PSk} (hp:PR h p S) (hl:h.le h'):PR h' p S:=by
 obtain ⟨s,lS,itS,ceS,h1,h2,h3,h4,h5⟩:=hp
 exact ⟨s,lS,itS,ceS,h1.le hl,fun j v hv=>Hp.cell_le hl (h2 j v hv),h3.le zaw hl,h4.le ziz hl,h5.le hl⟩
section
variable {h : Hp} {s : TSketch} {S : PSk} {Kp : Option Addr → Hp → Prop}
theorem zo2 (hx:SK h s S) (hv:VS S) (hs:sSk S) (H:∀p h',h.le h'→PR h' p S→Kp (some p) h'):callP (F.zec s) Kp h:=by
 refine za1 (fun y h'=>∃p,y=some p∧PR h' p S) (fun K' hk=>?_) fun b h' hl ⟨p,hp,hb⟩=>by subst hp; exact H p h' hl hb
 unfold F.zec
 have hal:=zmh hs
 have hok:=ziy hv hs
 have s6:=hs.2.2.2.2.2.1
 have hi:=zr4 S
 have s4:=hs.2.2.2.1
 have s2:=hs.2.1
 have cl:=zky (S:=S)
 refine zni hx hv hs fun r1 h1 hl1 hr1=>?_
 refine za8i (cells:=[Lf.sl.up s.constraints,Lf.sl.up r1]) 1 2 rfl fun p2 h2 hl2 hp2=>?_
 refine zva ((hx.le (Hp.le_trans hl1 hl2)).2.2.2.2.2) (hr1.le zaw hl2) (by omega) hp2 fun lS h3 hl3 hL=>?_
 have hle3:=Hp.le_trans hl1 (Hp.le_trans hl2 hl3)
 have hx3:=hx.le hle3
 have hL:LR cc 5 CO h3 lS (allC S):=hL
 intro b e hbf
 have l2:=hx.2.1.len zee
 have lL:=hL.len zaw
 refine zcx (n:=S.cir.length) (by omega) (fun i h'=>∃y,MB h' b (items9 s lS nilS y)∧OI h3 h' y ((cens S).take i)∧∀a,y.a=some a→a.block≠b) ⟨nilS,⟨e,Hp.ins_same _ _ _⟩,by rw [List.take_zero]; exact Own.nil (Hp.le_ins hbf),fun a ha=>by cases ha⟩ ?_
 rintro i h5 hi ⟨y,hm,ho,hab⟩ k hk2
 have h3b:h3 b=none:=hbf
 refine za0 (fun h6=>?_) (fun h6=>?_)
 · have hi':i<S.cir.length:=by simp only at h6; omega
   refine zwr (hx3.le ho.dle) i rfl hi' fun a x hxx hc=>⟨_,hc 0 _ rfl,_,hc 1 _ rfl,_,hc 2 _ rfl,_,hc 3 _ rfl,_,hc 4 _ rfl,_,hm.ld 8 rfl,?_⟩
   have hyl:=ho.il.len
   rw [List.length_take] at hyl
   refine zkv ho (n:=1) (new:=[ic x.center]) rfl rfl rfl (by omega) (by omega) fun z h7 hz _ hs7 hb7=>?_
   have hbb:h5 b≠none:=by obtain ⟨e,hm⟩:=hm; rw [hm]; simp
   have hm7:MB h7 b (items9 s lS nilS y):=by
    obtain ⟨e,hm⟩:=hm
    exact ⟨e,by rw [hs7 b hbb fun a ha=>(hab a ha).symm]; exact hm⟩
   have hzb:∀a,z.a=some a→a.block≠b:=fun a ha hh=>by
    rcases hb7 a ha with ⟨a',h8,h9⟩ | h8
    · exact hab a' h8 (by rw [h9]; exact hh)
    · rw [hh] at h8; exact hbb h8
   refine hm7.st (j:=8) (v:=Lf.sl.up z) (by simp [items9]) rfl fun h8 hm8 hs8=>hk2 _ hi' ⟨z,hm8,?_,hzb⟩
   obtain ⟨e8,hm8'⟩:=hm8
   rw [znu hm8' hs8]
   have:OI h3 h7 z ((cens S).take (i+1)):=by
    unfold OI
    rw [←List.take_append_getElem (show i<(cens S).length by omega),List.map_append,←hxx]
    exact hz
   exact zl6 this h3b hzb
 · have hi':i=S.cir.length:=by simp only at h6; omega
   subst hi'
   rw [←cl,List.take_length] at ho
   obtain ⟨D0,hD0⟩:∃D0,D0=h5.del b:=⟨_,rfl⟩
   have hD0le:D0.le h5:=by rw [hD0]; exact Hp.del_le _ _
   have h3D:h3.le D0:=fun j bl hj=>by
    rw [hD0]
    unfold Hp.del
    rw [if_neg (fun hh=>by subst hh; rw [h3b] at hj; cases hj)]
    exact ho.dle _ _ hj
   have hce:IL D0 y (cens S):=⟨zuf ho fun a ha=>by rw [hD0]; unfold Hp.del; rw [if_neg (hab a ha)],ho.2.2.1⟩
   refine ⟨_,hm.ld 6 rfl,?_⟩
   have hLD:=hL.le zaw h3D
   refine zcx (n:=(allC S).length) (by omega) (fun i h'=>∃z D,MB h' b (items9 s lS z y)∧D0.le D∧D b=none∧LO slc 1 ILP D h' z (((allC S).map fun c=>itemsC c (cens S)).take i)∧∀a,z.a=some a→a.block≠b)
    ⟨nilS,D0,hm,Hp.le_refl _,by rw [hD0]; exact Hp.del_same _ _,⟨[],Own.nil hD0le,by simp,fun k k1 _=>by simp at k1⟩,fun a ha=>by cases ha⟩ ?_
   clear hk2
   rintro i h8 hi ⟨z,D,hm8,hD,hDb,hz,hzb⟩ k hk2
   refine za0 (fun h9=>?_) (fun h9=>?_)
   · have hi':i<(allC S).length:=by simp only at h9; omega
     have hD8:=hz.dle
     refine (hLD.le zaw (Hp.le_trans hD hD8)).get zaw i rfl hi' fun a x hxx hc=>?_
     refine ⟨_,hc 0 _ rfl,_,hc 1 _ rfl,_,hc 2 _ rfl,_,hc 3 _ rfl,_,hc 4 _ rfl,?_⟩
     obtain ⟨c,hcc⟩:∃c,c=(allC S)[i]:=⟨_,rfl⟩
     rw [←hcc] at hxx
     have hcok:=hok c (by rw [hcc]; exact List.getElem_mem _)
     have hcir:cirOk c (cens S):=hcok.1.cirOk
     have hsc:=hcok.2
     obtain ⟨x1,x2,x3,x4,x5⟩:=hxx
     obtain ⟨c1,c2,c3,c4⟩:=hsc
     have cll:=x3.len
     refine zou x2 (by omega) fun r16 h10 ho10=>?_
     rw [x1]
     refine zcw (n:=c.cir.length) (by omega) (fun j w h'=>OI h8 h' w (c.pts++(c.cir.take j).flatMap (itK c (cens S)))) (by simpa using ho10) ?_
     intro j w h11 hj ho11 k11 hk11
     have hfl:=zm6 (c:=c) (cs:=cens S) (c.cir.take j)
     rw [List.length_take] at hfl
     refine za0 (fun h12=>?_) (fun h12=>?_)
     · have hj':j<c.cir.length:=by simp only at h12; omega
       have hkk:=hcir _ (List.getElem_mem hj')
       refine za5 (fun s h'=>OI h8 h' s.1 (c.pts++(c.cir.take (j+1)).flatMap (itK c (cens S)))) (fun s h' hs=>hk11 _ _ hj' hs) ?_
       refine (x3.le ho11.dle).get j rfl hj' ?_
       rw [zu5 hkk.1 hkk.2 (by omega)]
       refine ho11.app (by rw [List.length_append]; omega) fun w2 h13 ho13=>?_
       have two:withC c→ldL .sl ((⟨b,0,none⟩:Addr).add 8) (fun x24=>idxP x24 c.cir[j] 1 fun a25=>ldL (.int .i64) a25 (fun x26=>appP 1 8 [.int .i64 0] w2 1 [.int .i64 x26] (fun w27 h13=>OI h8 h13 w27 (c.pts++(c.cir.take (j+1)).flatMap (itK c (cens S)))) h13) h13) h13:=by
        intro hw
        refine ⟨_,(hm8.le ho13.dle).ld 8 rfl,?_⟩
        refine (hce.le (Hp.le_trans hD (Hp.le_trans hD8 ho13.dle))).get c.cir[j].toNat (by omega) (by omega) ?_
        refine ho13.app (by rw [List.length_append,List.length_append,List.length_singleton]; omega) fun w3 h14 ho14=>?_
        rw [zii hj',zx1 hw,zbd (by omega)]
        simpa [List.append_assoc] using ho14
       refine zae (fun h6=>two (.inl h6)) (fun h6=>zae (fun h7=>two (.inr (.inl h7))) (fun h7=>zae (fun h8=>two (.inr (.inr h8))) (fun h8=>?_)))
       show OI _ _ _ _
       rw [zii hj',zx0 (by unfold withC; omega),←List.append_assoc]
       exact ho13
     · have hj':j=c.cir.length:=by simp only at h12; omega
       subst hj'
       rw [List.take_length] at ho11
       have ho11:OI h8 h11 w (itemsC c (cens S)):=ho11
       have hm11:=hm8.le ho11.dle
       refine ⟨_,hm11.ld 7 rfl,?_⟩
       have hz11:=hz.le ho11.dle
       have hbb:h11 b≠none:=by obtain ⟨e,hm⟩:=hm11; rw [hm]; simp
       have hwb:∀a,w.a=some a→h8 a.block=none:=fun a ha=>by
        obtain ⟨_,_,_,g4⟩:=ho11
        rw [ha] at g4
        exact g4.2.2.1
       have h8b:h8 b≠none:=by obtain ⟨e,hm⟩:=hm8; rw [hm]; simp
       obtain ⟨zs,q1,q2,q3⟩:=hz11
       have hz8:∀a,z.a=some a→h8 a.block≠none:=fun a ha=>by
        obtain ⟨ys,g1,_,_⟩:=hz
        obtain ⟨_,_,_,g4⟩:=g1
        rw [ha] at g4
        obtain ⟨_,_,_,bl,g5,_⟩:=g4
        rw [g5]; simp
       have hzD:∀a,z.a=some a→D a.block=none:=fun a ha=>by
        obtain ⟨_,_,_,g4⟩:=q1
        rw [ha] at g4
        exact g4.2.2.1
       obtain ⟨D1,hD1⟩:∃D1:Hp,D1=fun j=>if j=b∨(∃a,z.a=some a∧j=a.block) then none else h11 j:=⟨_,rfl⟩
       have hD1h:D1.le h11:=fun j bl hj=>by
        rw [hD1] at hj
        simp only at hj
        split at hj
        · cases hj
        · exact hj
       have hDD1:D.le D1:=fun j bl hj=>by
        rw [hD1]
        simp only
        rw [if_neg]
        · exact Hp.le_trans hD8 ho11.dle _ _ hj
        · rintro (rfl | ⟨a,ha,rfl⟩)
          · rw [hDb] at hj; cases hj
          · rw [hzD a ha] at hj; cases hj
       have hD1b:D1 b=none:=by rw [hD1]; simp
       have hw1:IL D1 w (itemsC c (cens S)):=⟨zuf ho11 fun a ha=>by
        rw [hD1]
        simp only
        rw [if_neg]
        rintro (hh | ⟨a',ha',hh⟩)
        · exact h8b (by rw [←hh]; exact hwb a ha)
        · exact hz8 a' ha' (by rw [←hh]; exact hwb a ha),ho11.2.2.1⟩
       have hz1:Own D1 h11 1 z (zs.flatMap slc):=by
        obtain ⟨g1,g2,g3,g4⟩:=q1
        refine ⟨hD1h,g2,g3,?_⟩
        cases ha:z.a with
        | none=>rw [ha] at g4; exact g4
        | some a=>
          rw [ha] at g4
          obtain ⟨k1,k2,k3,k4⟩:=g4
          exact ⟨k1,k2,by rw [hD1]; simp only; rw [if_pos (.inr ⟨a,ha,rfl⟩)],k4⟩
       have hzl:=hz.len ziz
       rw [List.length_take,List.length_map] at hzl
       refine zkv hz1 (n:=1) (new:=slc w) rfl rfl rfl (by omega) (by omega) fun z2 h15 hz2 _ hs15 hb15=>?_
       have hm15:MB h15 b (items9 s lS z y):=by
        obtain ⟨e,hm⟩:=hm11
        exact ⟨e,by rw [hs15 b hbb fun a ha=>(hzb a ha).symm]; exact hm⟩
       have hz2b:∀a,z2.a=some a→a.block≠b:=fun a ha hh=>by
        rcases hb15 a ha with ⟨a',h8,h9⟩ | h8
        · exact hzb a' h8 (by rw [h9]; exact hh)
        · rw [hh] at h8; exact hbb h8
       refine hm15.st (j:=7) (v:=Lf.sl.up z2) (by simp [items9]) rfl fun h16 hm16 hs16=>hk2 _ hi' ⟨z2,D1,hm16,Hp.le_trans hD hDD1,hD1b,⟨zs++[w],?_,?_,fun j j1 j2=>?_⟩,hz2b⟩
       · obtain ⟨e8,hm8'⟩:=hm16
         rw [znu hm8' hs16]
         refine zl6 ?_ hD1b hz2b
         rw [List.flatMap_append]
         simpa using hz2
       · rw [List.length_append,q2,List.length_take,List.length_take]
         simp; omega
       · have hlz:zs.length=i:=by rw [q2]; simp; omega
         rcases Nat.lt_or_ge j i with h5 | h5
         · rw [List.getElem_append_left (by omega),List.getElem_take]
           have:=q3 j (by omega) (by simp; omega)
           rw [List.getElem_take] at this
           exact ziz.mono this hDD1
         · have h6:j=i:=by simp at j1; omega
           subst h6
           rw [List.getElem_append_right (by omega),List.getElem_take]
           simp only [hlz,Nat.sub_self,List.getElem_cons_zero,List.getElem_map]
           rw [←hcc]
           exact hw1
   · have hi':i=(allC S).length:=by simp only at h9; omega
     subst hi'
     have hfull:((allC S).map fun c=>itemsC c (cens S)).take (allC S).length=(allC S).map fun c=>itemsC c (cens S):=List.take_of_length_le (by simp)
     rw [hfull] at hz
     have hD8:=hz.dle
     have h38:h3.le h8:=Hp.le_trans h3D (Hp.le_trans hD hD8)
     refine hk _ _ (Hp.le_trans hle3 h38) ⟨⟨b,0,none⟩,rfl,s,lS,z,y,hx3.le h38,fun j v hv=>hm8.ld j hv,hL.le zaw h38,hz.lr ziz,hce.le (Hp.le_trans hD hD8)⟩
end
end Den
end

section
namespace Den
open Go Iv Lx
def cAt (cs:List Int) (c:PCon) (i:Nat):Int:=cs.getD (c.cir.getD i 0).toNat 0
def cnt (l:List Int) (t:Int):Nat:=(l.filter (·==t)).length
def kindP (c:PCon) (cs:List Int) (t:Int):Int:=
 if c.kind=13 then (if (t∈c.pts)↔cAt cs c 0=t then 0 else 2)
 else if c.kind=16 then (if cAt cs c 0=t∧t∉c.pts then 1 else 0)
 else if c.kind=17 then (if cAt cs c 0=t↔cAt cs c 1=t then 0 else 2)
 else if t∉c.pts then 0
 else if c.kind=1∨c.kind=9 then 3
 else if c.kind=2 then 2
 else if c.kind=3∨c.kind=6∨c.kind=11∨c.kind=12 then 1
 else if c.kind=4 then (if c.pts[0]?=some t then 1 else 0)
 else if c.kind=10 then (if c.pts[0]?=some t∨c.pts[1]?=some t then 3 else 0)
 else if c.kind=5∨c.kind=7 then (if cnt c.pts t=2 then 2 else 1)
 else if c.kind=8 then (if cnt c.pts t=2 then 1 else 2)
 else 0
def sizesP (c:PCon) (cs:List Int) (k:Int):Prop:=
 k∈c.cir∧(if c.kind=13∨c.kind=16 then cs.getD k.toNat 0∉c.pts else if c.kind=17 then c.side=1∧cAt cs c 0≠cAt cs c 1 else True)
instance (c:PCon) (cs:List Int) (k:Int):Decidable (sizesP c cs k):=by unfold sizesP; infer_instance
def suitP (c:PCon) (cs:List Int) (item:Int):Prop:=
 if item<0 then sizesP c cs (-1-item) else if eqK c.kind=2 then kindP c cs item=3 else kindP c cs item=1∨kindP c cs item=2
instance (c:PCon) (cs:List Int) (k:Int):Decidable (suitP c cs k):=by unfold suitP; infer_instance
def keepP (l:List Int) (item:Int) (R:List Int):Prop:=item∈l∧∀x∈l,x∉R
instance (l:List Int) (item:Int) (R:List Int):Decidable (keepP l item R):=by unfold keepP; infer_instance
def remN (its:List (List Int)) (item:Int) (R:List Int):Nat→List Int
 | 0=>[]
 | k+1=>remN its item R k++(if keepP (its.getD k []) item R then [(k:Int)] else [])
def remL (its:List (List Int)) (item:Int) (R:List Int):List Int:=remN its item R its.length
theorem zpo {its:List (List Int)} {item:Int} {R:List Int}:∀{k:Nat} {j:Int},j∈remN its item R k↔∃i:Nat,i<k∧j=i∧keepP (its.getD i []) item R
 | 0,j=>by simp [remN]
 | k+1,j=>by
   unfold remN
   rw [List.mem_append,zpo]
   constructor
   · rintro (⟨i,hi,h1,h2⟩ | h)
     · exact ⟨i,by omega,h1,h2⟩
     · split at h
       · rename_i h3
         exact ⟨k,by omega,List.mem_singleton.1 h,h3⟩
       · cases h
   · rintro ⟨i,hi,h1,h2⟩
     rcases Nat.lt_or_ge i k with h3 | h3
     · exact .inl ⟨i,h3,h1,h2⟩
     · have:i=k:=by omega
       subst this
       right
       rw [if_pos h2]; exact List.mem_singleton.2 h1
theorem zpn (its:List (List Int)) (item:Int) (R:List Int):∀k,(remN its item R k).length≤k
 | 0=>by simp [remN]
 | k+1=>by
   unfold remN
   have:=zpn its item R k
   rw [List.length_append]
   split<;>simp<;>omega
def dC:PCon:=⟨0,[],[],[],0⟩
def wtL (L:List PCon) (l:List Int):Nat:=(l.map fun i=>eqK (L.getD i.toNat dC).kind).sum
def most (item:Int):Nat:=if item<0 then 1 else 2
def canP (L:List PCon) (cs:List Int) (R:List Int) (item:Int):Prop:=
 item∉R∧wtL L (remL (L.map fun c=>itemsC c cs) item R)≤most item∧∀i∈remL (L.map fun c=>itemsC c cs) item R,suitP (L.getD i.toNat dC) cs item
instance (L:List PCon) (cs:List Int) (R:List Int) (item:Int):Decidable (canP L cs R item):=by unfold canP; infer_instance
def allI (n m:Nat):List Int:=(List.range n).map (fun i:Nat=>(i:Int))++(List.range m).map (fun i:Nat=>-1-(i:Int))
theorem zmu {n m:Nat} {x:Int}:x∈allI n m↔(0≤x∧x<n)∨(x<0∧-1-x<m):=by
 unfold allI
 rw [List.mem_append,List.mem_map,List.mem_map]
 constructor
 · rintro (⟨a,ha,rfl⟩ | ⟨a,ha,rfl⟩)
   · rw [List.mem_range] at ha; omega
   · rw [List.mem_range] at ha; omega
 · rintro (⟨h1,h2⟩ | ⟨h1,h2⟩)
   · exact .inl ⟨x.toNat,List.mem_range.2 (by omega),by omega⟩
   · exact .inr ⟨(-1-x).toNat,List.mem_range.2 (by omega),by omega⟩
theorem zsw {n m:Nat}:(allI n m).length=n+m:=by simp [allI]
def peelF (can:List Int→Int→Bool) (pref:List Int):Nat→List Int→List Int
 | 0,R=>R
 | f+1,R=>match pref.find? (can R) with
   | none=>R
   | some i=>peelF can pref f (R++[i])
def peelL (can:List Int→Int→Bool) (pref:List Int):List Int:=peelF can pref pref.length []
def leftL (pref R:List Int):List Int:=pref.filter fun x=>decide (x∉R)
def canB (L:List PCon) (cs:List Int) (R:List Int) (item:Int):Bool:=decide (canP L cs R item)
theorem zy7 {pref R:List Int} {i:Int} (hi:i∈pref) (hR:i∉R):(leftL pref (R++[i])).length<(leftL pref R).length:=by
 have e:leftL pref (R++[i])=(leftL pref R).filter fun x=>decide (x≠i):=by
  unfold leftL
  rw [List.filter_filter]
  congr 1
  funext x
  simp only [List.mem_append,List.mem_singleton,not_or]
  by_cases h1:x∈R<;>by_cases h2:x=i<;>simp [h1,h2]
 rw [e]
 refine List.length_filter_lt_length_iff_exists.2 ⟨i,?_,by simp⟩
 unfold leftL
 exact List.mem_filter.2 ⟨hi,by simpa using hR⟩
def lenC (c:PCon):Prop:=c.pts.length=(shK c.kind).1∧c.cir.length=(shK c.kind).2.1∧1≤c.kind∧c.kind≤17∧(fourK c.kind→PairsP c.pts)∧(¬fourK c.kind→c.pts.Nodup)
theorem VC.lenC {c:PCon} {n m:Int} (hv:VC c n m):lenC c:=by
 obtain ⟨h1,h2,h3,h4,h5,h6,h7⟩:=hv
 refine ⟨h2.1,h3.1,h1.1,h1.2,fun h=>?_,fun h=>?_⟩
 · rw [if_pos h] at h7; exact h7
 · rw [if_neg h] at h7; exact h7.1
section
variable {h : Hp} {x : TConstraint} {c : PCon} {cs : List Int} {ce : Sl} {t : Int} {Kb : Bool → Hp → Prop} {Ki : Int → Hp → Prop} {Ks : Sl → Hp → Prop}
def posF (l:List Int) (t:Int):Nat→List Int
 | 0=>[]
 | k+1=>posF l t k++(if l[k]?=some t then [(k:Int)] else [])
theorem zuj (l:List Int) (t:Int):∀k,k≤l.length→(posF l t k).length=cnt (l.take k) t
 | 0,_=>by simp [posF,cnt]
 | k+1,hk=>by
   unfold posF
   rw [List.length_append,zuj l t k (by omega)]
   unfold cnt
   rw [←List.take_append_getElem (show k<l.length by omega),List.filter_append,List.length_append]
   congr 1
   rw [List.getElem?_eq_getElem (by omega)]
   by_cases h:l[k]=t<;>simp [h]
theorem zxa (l:List Int) (t:Int):∀k,(posF l t k).length≤k
 | 0=>by simp [posF]
 | k+1=>by
   unfold posF
   have:=zxa l t k
   rw [List.length_append]
   split<;>simp<;>omega
theorem zs6 {l:List Int} {t:Int}:∀{k:Nat} (hne:posF l t k≠[]),∃i:Nat,(posF l t k)[0]?=some (i:Int)∧l[i]?=some t∧∀j,j<i→l[j]?≠some t
 | 0,h=>absurd rfl h
 | k+1,h=>by
   unfold posF at h ⊢
   by_cases h0:posF l t k=[]
   · rw [h0,List.nil_append] at h ⊢
     split at h
     · rename_i h3
       rw [if_pos h3]
       refine ⟨k,rfl,h3,fun j hj hh=>?_⟩
       have:(j:Int)∈posF l t k:=by
        have key:∀m,j<m→(j:Int)∈posF l t m:=by
         intro m
         induction m with
         | zero=>intro hm; omega
         | succ m ih=>
           intro hm
           unfold posF
           rcases Nat.lt_or_ge j m with h4 | h4
           · exact List.mem_append_left _ (ih h4)
           · have:j=m:=by omega
             subst this
             rw [if_pos hh]; simp
        exact key k hj
       rw [h0] at this; cases this
     · exact absurd rfl h
   · obtain ⟨i,h1,h2⟩:=zs6 h0
     refine ⟨i,?_,h2⟩
     have:0<(posF l t k).length:=List.length_pos_iff.2 h0
     rw [List.getElem?_append_left this]; exact h1
theorem za6c {l:List Int} {t:Int}:cnt l t≠0↔t∈l:=by
 unfold cnt
 rw [←Nat.pos_iff_ne_zero,List.length_pos_iff_exists_mem]
 constructor
 · rintro ⟨a,ha⟩
   have:=List.mem_filter.1 ha
   rw [beq_iff_eq] at this
   rw [←this.2]; exact this.1
 · intro h
   exact ⟨t,List.mem_filter.2 ⟨h,by simp⟩⟩
theorem zw7 (hx:CO h x c) (hs:sC c) (H:∀y h',h.le h'→IL h' y (posF c.pts t c.pts.length)→Ks y h'):callP (F.zil x t) Ks h:=by
 refine za1 (fun y h'=>IL h' y (posF c.pts t c.pts.length)) (fun K' hk=>?_) fun b h' hl hb=>H b h' hl hb
 unfold F.zil
 have hp:=hx.2.1
 have hl:=hp.len
 have s1:=hs.1
 refine zcw (n:=c.pts.length) (by omega) (fun i y h'=>OI h h' y (posF c.pts t i)) OI.nil ?_
 intro i y h1 hi ho k hk2
 refine za0 (fun h2=>?_) (fun h2=>?_)
 · have hi':i<c.pts.length:=by simp only at h2; omega
   refine za5 (fun s h'=>OI h h' s.1 (posF c.pts t (i+1))) (fun s h' hs=>hk2 _ _ hi' hs) ?_
   refine (hp.le ho.dle).get i rfl hi' ?_
   have hle:=zxa c.pts t i
   refine zae (fun h3=>?_) (fun h3=>?_)
   · refine ho.app (by omega) fun z h4 ho4=>?_
     show OI _ _ _ _
     unfold posF
     rw [List.getElem?_eq_getElem hi',h3,if_pos rfl]; exact ho4
   · show OI _ _ _ _
     unfold posF
     rw [List.getElem?_eq_getElem hi',if_neg (fun hh=>h3 (Option.some.inj hh)),List.append_nil]; exact ho
 · have:i=c.pts.length:=by simp only at h2; omega
   subst this
   exact hk _ _ ho.dle ho.il
theorem zqy {K:Int→Prop} {i:Nat} (hx:CO h x c) (hc:IL h ce cs) (hok:cirOk c cs) (hi:i<c.cir.length) (H:K (cAt cs c i)):idxP x.circles (i:Int) 1 fun a5=>ldL (.int .i64) a5 (fun x6=>idxP ce x6 1 fun a7=>ldL (.int .i64) a7 K h) h:=by
 refine hx.2.2.1.get i rfl hi ?_
 have hkk:=hok _ (List.getElem_mem hi)
 refine hc.get c.cir[i].toNat (by omega) (by omega) ?_
 unfold cAt at H
 rw [zbd hi,zbd (by omega)] at H
 exact H
theorem zz3 (hx:CO h x c) (hc:IL h ce cs) (hs:sC c) (hok:cirOk c cs) (hv:lenC c) (H:∀h',h.le h'→Ki (kindP c cs t) h'):callP (F.zkc x ce t) Ki h:=by
 refine za1 (fun r h'=>r=kindP c cs t) (fun K' hk=>?_) fun b h' hl hb=>by subst hb; exact H h' hl
 unfold F.zkc
 obtain ⟨v1,v2,v3,v4,v5,v6⟩:=hv
 have x1:=hx.1
 have s1:=hs.1
 refine zg5 fun p1 h1 hl1 c1=>zd1 fun p2 h2 hl2 c2=>zd1 fun p3 h3 hl3 c3=>?_
 have hle:h.le h3:=Hp.le_trans hl1 (Hp.le_trans hl2 hl3)
 have k1:CKC h3 p1 x:=fun i v hv=>Hp.cell_le (Hp.le_trans hl2 hl3) (c1 i v hv)
 refine ⟨_,k1 0 _ rfl,_,k1 1 _ rfl,_,k1 2 _ rfl,_,k1 3 _ rfl,_,k1 4 _ rfl,_,c3,?_⟩
 refine zw7 (x:=x) (hx.le hle) hs fun r6 h4 hl4 hr6=>?_
 have hle4:=Hp.le_trans hle hl4
 have k4:CKC h4 p1 x:=fun i v hv=>Hp.cell_le hl4 (k1 i v hv)
 have hr:=hr6.len
 have hpl:=zuj c.pts t c.pts.length (Nat.le_refl _)
 rw [List.take_length] at hpl
 have hat:(posF c.pts t c.pts.length).length≠0↔t∈c.pts:=by rw [hpl]; exact za6c
 have cen:∀i h' (K:Bool→Hp→Prop),i<c.cir.length→h4.le h'→K (decide (cAt cs c i=t)) h'→callP (F.zel (i:Int) (some p2) (some p1) (some p3)) K h':=by
  intro i h' K hi hl' hK
  refine zak _ (fun K'' hk''=>?_) hK
  unfold F.zel
  have hl3':=Hp.le_trans hl4 hl'
  refine ⟨_,Hp.cell_le (Hp.le_trans hl3 hl3') c2,_,Hp.cell_le hl' (k4 2 _ rfl),?_⟩
  refine zqy (x:=x) (ce:=ce) (hx.le (Hp.le_trans hle4 hl')) (hc.le (Hp.le_trans hle4 hl')) hok hi ?_
  refine ⟨_,Hp.cell_le hl3' c3,?_⟩
  have:(cAt cs c i==t)=decide (cAt cs c i=t):=by
   by_cases hh:cAt cs c i=t
   · rw [decide_eq_true hh,hh]; simp
   · rw [decide_eq_false hh,beq_eq_false_iff_ne]; exact hh
  show K'' (cAt cs c i==t) h'
  rw [this]; exact hk''
 refine ⟨_,k4 0 _ rfl,?_⟩
 rw [x1]
 have hk':∀r,r=kindP c cs t→K' r h4:=fun r hr=>hk _ _ hle4 hr
 unfold kindP at hk'
 refine zae (fun e13=>?_) (fun e13=>?_)
 · refine cen 0 h4 _ (by rw [v2,e13]; decide) (Hp.le_refl _) ?_
   rw [if_pos e13] at hk'
   have ha:decide ((r6.len:Int)>0)=decide (t∈c.pts):=decide_eq_decide.2 (by rw [←hat]; omega)
   rw [ha]
   refine za6 (fun h5=>hk' _ ?_) (fun h5=>hk' _ ?_)
   · rw [if_neg]
     intro hh
     by_cases g:t∈c.pts
     · rw [decide_eq_true g,decide_eq_true (hh.1 g)] at h5; cases h5
     · rw [decide_eq_false g,decide_eq_false (fun z=>g (hh.2 z))] at h5; cases h5
   · rw [if_pos]
     by_cases g:t∈c.pts
     · rw [decide_eq_true g] at h5
       exact ⟨fun _=>by simpa using h5,fun _=>g⟩
     · rw [decide_eq_false g] at h5
       exact ⟨fun z=>absurd z g,fun z=>by rw [decide_eq_true z] at h5; cases h5⟩
 rw [if_neg e13] at hk'
 refine zae (fun e16=>?_) (fun e16=>?_)
 · refine cen 0 h4 _ (by rw [v2,e16]; decide) (Hp.le_refl _) ?_
   rw [if_pos e16] at hk'
   refine za0 (fun h5=>zae (fun h6=>hk' _ ?_) (fun h6=>hk' _ ?_)) (fun h5=>hk' _ ?_)
   · rw [if_pos ⟨h5,fun hh=>absurd (hat.2 hh) (by omega)⟩]
   · rw [if_neg (fun hh=>hh.2 (hat.1 (by omega)))]
   · rw [if_neg (fun hh=>h5 hh.1)]
 rw [if_neg e16] at hk'
 refine zae (fun e17=>?_) (fun e17=>?_)
 · refine cen 0 h4 _ (by rw [v2,e17]; decide) (Hp.le_refl _) (cen 1 h4 _ (by rw [v2,e17]; decide) (Hp.le_refl _) ?_)
   rw [if_pos e17] at hk'
   refine za6 (fun h5=>hk' _ ?_) (fun h5=>hk' _ ?_)
   · rw [if_neg]
     intro hh
     have e:decide (cAt cs c 0=t)=decide (cAt cs c 1=t):=decide_eq_decide.2 hh
     rw [e] at h5
     simp at h5
   · rw [if_pos]
     have h6:decide (cAt cs c 0=t)=decide (cAt cs c 1=t):=by simpa using h5
     exact decide_eq_decide.1 h6
 rw [if_neg e17] at hk'
 refine zae (fun e0=>?_) (fun e0=>?_)
 · refine hk' _ ?_
   rw [if_pos (fun hh=>absurd (hat.2 hh) (by omega))]
 have hin:t∈c.pts:=hat.1 (by omega)
 rw [if_neg (fun hh=>hh hin)] at hk'
 have hne:posF c.pts t c.pts.length≠[]:=fun hh=>by rw [hh] at hr; simp at hr; omega
 obtain ⟨i0,hi0,hi1,hi2⟩:=zs6 hne
 have hlen0:0<(posF c.pts t c.pts.length).length:=List.length_pos_iff.2 hne
 have hget0:(posF c.pts t c.pts.length)[0]=(i0:Int):=by rw [List.getElem?_eq_getElem hlen0] at hi0; exact Option.some.inj hi0
 refine ⟨_,k4 0 _ rfl,?_⟩
 rw [x1]
 have dk:∀(n:Int),(c.kind==n)=decide (c.kind=n):=fun n=>by
  by_cases hh:c.kind=n
  · rw [decide_eq_true hh,hh]; simp
  · rw [decide_eq_false hh,beq_eq_false_iff_ne]; exact hh
 refine za5 (fun s h'=>h'=h4∧s.1=decide (c.kind=1∨c.kind=9)) ?_ ?_
 · rintro ⟨b,_⟩ h4 ⟨rfl,hb⟩
   simp only at hb
   subst hb
   refine za0 (fun e=>?_) (fun e1=>?_)
   · rw [if_pos e] at hk'; exact hk' _ rfl
   rw [if_neg e1] at hk'
   refine zae (fun e=>?_) (fun e2=>?_)
   · rw [if_pos e] at hk'; exact hk' _ rfl
   rw [if_neg e2] at hk'
   refine za5 (fun s h'=>h'=h4∧s.1=decide (c.kind=3∨c.kind=6∨c.kind=11∨c.kind=12)) ?_ ?_
   · rintro ⟨b,_⟩ h4 ⟨rfl,hb⟩
     simp only at hb
     subst hb
     refine za0 (fun e=>?_) (fun e3=>?_)
     · rw [if_pos e] at hk'; exact hk' _ rfl
     rw [if_neg e3] at hk'
     refine zae (fun e=>?_) (fun e4=>?_)
     · rw [if_pos e] at hk'
       refine hr6.get 0 rfl hlen0 ?_
       rw [hget0]
       refine zae (fun h5=>hk' _ ?_) (fun h5=>hk' _ ?_)
       · have:i0=0:=by omega
         subst this
         rw [if_pos hi1]
       · rw [if_neg (hi2 0 (by omega))]
     rw [if_neg e4] at hk'
     refine zae (fun e=>?_) (fun e5=>?_)
     · rw [if_pos e] at hk'
       refine hr6.get 0 rfl hlen0 ?_
       rw [hget0]
       refine za0 (fun h5=>hk' _ ?_) (fun h5=>hk' _ ?_)
       · have h5:(i0:Int)<2:=h5
         rcases (by omega:i0=0∨i0=1) with rfl | rfl
         · rw [if_pos (.inl hi1)]
         · rw [if_pos (.inr hi1)]
       · have h5:¬(i0:Int)<2:=h5
         rw [if_neg]
         rintro (hh | hh)
         · exact hi2 0 (by omega) hh
         · exact hi2 1 (by omega) hh
     rw [if_neg e5] at hk'
     have hc2:((r6.len:Int)==2)=decide (cnt c.pts t=2):=by
      rw [hr,hpl]
      by_cases hh:cnt c.pts t=2
      · rw [decide_eq_true hh,hh]; rfl
      · rw [decide_eq_false hh,beq_eq_false_iff_ne]; omega
     rw [hc2]
     refine za5 (fun s h'=>h'=h4∧s.1=decide (c.kind=5∨c.kind=7)) ?_ ?_
     · rintro ⟨b,_⟩ h4 ⟨rfl,hb⟩
       simp only at hb
       subst hb
       refine za0 (fun e=>?_) (fun e6=>?_)
       · rw [if_pos e] at hk'
         exact za0 (fun h5=>hk' _ (by rw [if_pos h5])) (fun h5=>hk' _ (by rw [if_neg h5]))
       rw [if_neg e6] at hk'
       refine zae (fun e=>?_) (fun e7=>?_)
       · rw [if_pos e] at hk'
         exact za0 (fun h5=>hk' _ (by rw [if_pos h5])) (fun h5=>hk' _ (by rw [if_neg h5]))
       rw [if_neg e7] at hk'
       exact hk' _ rfl
     · rw [dk 5,dk 7]
       refine za0 (fun e=>⟨rfl,?_⟩) (fun e=>⟨rfl,?_⟩)
       · rw [decide_eq_true e,decide_eq_true (Or.inl e)]
       · exact decide_eq_decide.2 (by omega)
   · rw [dk 3,dk 6,dk 11,dk 12]
     refine za0 (fun e=>⟨rfl,?_⟩) (fun e=>za0 (fun e2=>⟨rfl,?_⟩) (fun e2=>za0 (fun e3=>⟨rfl,?_⟩) (fun e3=>⟨rfl,?_⟩)))
     all_goals exact decide_eq_decide.2 (by omega)
 · rw [dk 1,dk 9]
   refine za0 (fun e=>⟨rfl,?_⟩) (fun e=>⟨rfl,?_⟩)
   all_goals exact decide_eq_decide.2 (by omega)
end
end Den
end

section
namespace Den
open Go Iv Lx
section
variable {h : Hp} {x : TConstraint} {c : PCon} {cs : List Int} {ce : Sl} {t k : Int} {Kb : Bool → Hp → Prop} {Ki : Int → Hp → Prop} {Ks : Sl → Hp → Prop}
theorem za4j (hv:lenC c) (hm:k∈c.cir):c.kind=13∨c.kind=14∨c.kind=15∨c.kind=16∨c.kind=17:=by
 obtain ⟨v1,v2,v3,v4,_⟩:=hv
 have h1:c.cir.length≠0:=fun hh=>by rw [List.eq_nil_of_length_eq_zero hh] at hm; cases hm
 apply Classical.byContradiction
 intro hn
 have:(shK c.kind).2.1=0:=by
  rcases (by omega:c.kind=1∨c.kind=2∨c.kind=3∨c.kind=4∨c.kind=5∨c.kind=6∨c.kind=7∨c.kind=8∨c.kind=9∨c.kind=10∨c.kind=11∨c.kind=12) with e | e | e | e | e | e | e | e | e | e | e | e<;>rw [e]<;>rfl
 omega
theorem zxl (hx:CO h x c) (hc:IL h ce cs) (hs:sC c) (hok:cirOk c cs) (hv:lenC c) (H:∀b h',h.le h'→(b=true↔sizesP c cs k)→Kb b h'):callP (F.zjn x ce k) Kb h:=by
 refine za1 (fun b h'=>b=true↔sizesP c cs k) (fun K' hk=>?_) fun b h' hl hb=>H b h' hl hb
 unfold F.zjn
 have x1:=hx.1
 have x5:=hx.2.2.2.2
 refine zq8 hx.2.2.1 (by have:=hs.2.1; omega) fun r h1 hl1 hr=>?_
 have no:∀h',h.le h'→¬sizesP c cs k→K' false h':=fun h' hl hn=>hk _ _ hl ⟨fun hh=>(by cases hh),fun hh=>absurd hh hn⟩
 refine za0 (fun h2=>no _ hl1 fun hh=>?_) (fun h2=>?_)
 · have:=hr.2 hh.1; omega
 have hm:=hr.1 (by omega)
 have hkd:=za4j hv hm
 have hkk:=hok _ hm
 have dk:∀(n:Int),(c.kind==n)=decide (c.kind=n):=fun n=>by
  by_cases hh:c.kind=n
  · rw [decide_eq_true hh,hh]; simp
  · rw [decide_eq_false hh,beq_eq_false_iff_ne]; exact hh
 rw [x1,x5]
 unfold sizesP at hk no
 refine za5 (fun s h'=>h'=h1∧s.1=decide (c.kind=14∨c.kind=15)) ?_ ?_
 · rintro ⟨b,_⟩ h1 ⟨rfl,hb⟩
   simp only at hb
   subst hb
   refine za0 (fun e=>hk _ _ hl1 ⟨fun _=>⟨hm,?_⟩,fun _=>rfl⟩) (fun e1=>?_)
   · rw [if_neg (by omega),if_neg (by omega)]; trivial
   refine za5 (fun s h'=>h'=h1∧s.1=decide (c.kind=13∨c.kind=16)) ?_ ?_
   · rintro ⟨b,_⟩ h1 ⟨rfl,hb⟩
     simp only at hb
     subst hb
     refine za0 (fun e=>?_) (fun e2=>?_)
     · rw [if_pos e] at hk no
       refine (hc.le hl1).get k.toNat (by omega) (by omega) ?_
       refine zcy (hx.2.1.le hl1) (by have:=hs.1; omega) fun h3 hl3=>hk _ _ (Hp.le_trans hl1 hl3) ?_
       rw [zbd (show k.toNat<cs.length by omega)]
       by_cases g:cs[k.toNat]∈c.pts
       · rw [decide_eq_true g]
         exact ⟨fun hh=>(by cases hh),fun hh=>absurd g hh.2⟩
       · rw [decide_eq_false g]
         exact ⟨fun _=>⟨hm,g⟩,fun _=>rfl⟩
     · rw [if_neg e2] at hk no
       refine zae (fun e17=>?_) (fun e17=>by omega)
       rw [if_pos e17] at hk no
       refine zae (fun e5=>?_) (fun e5=>no _ hl1 fun hh=>e5 hh.2.1)
       refine zqy (i:=0) (hx.le hl1) (hc.le hl1) hok (by rw [hv.2.1,e17]; decide) ?_
       refine zqy (i:=1) (hx.le hl1) (hc.le hl1) hok (by rw [hv.2.1,e17]; decide) ?_
       refine hk _ _ hl1 ?_
       rw [bne_iff_ne]
       exact ⟨fun hh=>⟨hm,e5,hh⟩,fun hh=>hh.2.2⟩
   · rw [dk 13,dk 16]
     refine za0 (fun e=>⟨rfl,?_⟩) (fun e=>⟨rfl,?_⟩)
     all_goals exact decide_eq_decide.2 (by omega)
 · rw [dk 14,dk 15]
   refine za0 (fun e=>⟨rfl,?_⟩) (fun e=>⟨rfl,?_⟩)
   all_goals exact decide_eq_decide.2 (by omega)
end
end Den
end

section
namespace Den
open Go Iv Lx
def its (S:PSk):List (List Int):=(allC S).map fun c=>itemsC c (cens S)
theorem zj0 {S:PSk}:(its S).length=(allC S).length:=by simp [its]
theorem za2b (k:Int):eqK k≤2:=by
 unfold eqK shK
 split
 · have:∀i:Nat,(tabK.getD i (0,0,0,0,false)).2.2.2.1≤2:=by
    intro i
    rcases Nat.lt_or_ge i 17 with h | h
    · have:∀i:Fin 17,(tabK.getD i (0,0,0,0,false)).2.2.2.1≤2:=by decide
      exact this ⟨i,h⟩
    · rw [List.getD_eq_getElem?_getD,List.getElem?_eq_none (by exact h)]; decide
   exact this _
 · decide
theorem zv9 {L:List PCon} {l:List Int} {i:Int}:wtL L (l++[i])=wtL L l+eqK (L.getD i.toNat dC).kind:=by simp [wtL]
theorem za49 {L:List PCon}:∀l:List Int,wtL L l≤2*l.length
 | []=>by simp [wtL]
 | a :: r=>by
   have h1:=za49 (L:=L) r
   have h2:=za2b (L.getD a.toNat dC).kind
   unfold wtL at h1 ⊢
   simp only [List.map_cons,List.sum_cons,List.length_cons]
   omega
theorem za74 {its:List (List Int)} {item:Int} {R:List Int}:(remL its item R).length≤its.length:=zpn _ _ _ _
theorem za75 {its:List (List Int)} {item:Int} {R:List Int} {j:Int} (h:j∈remL its item R):∃k:Nat,k<its.length∧j=k∧keepP (its.getD k []) item R:=zpo.1 h
section
variable {h : Hp} {s : TSketch} {S : PSk} {p : Addr} {item : Int} {R : List Int} {rs : Sl} {Kb : Bool → Hp → Prop} {Ki : Int → Hp → Prop} {Ks : Sl → Hp → Prop}
theorem za65 {n m:Nat} {D:Hp} {K:Sl→Hp→Prop} (hn:n≤1000) (hm:m≤1000) (H:∀y h',OI D h' y (allI n m)→K y h') {y:Sl} {h1:Hp} (ho:OI D h1 y ((List.range n).map fun i:Nat=>(i:Int))) :
 (loopP (S:=Sl×Int×Unit) (fun s8 k9 h3=>
 (ifP (decide (s8.2.1<(m:Int)))
 (appP 1 8 [.int .i64 0] s8.1 1 [.int .i64 (IntKind.i64.wrap ((-1)-s8.2.1))] (fun w10 h4=>
 (k9 (w10,(IntKind.i64.wrap (s8.2.1+1)),()) h4)) h3)
 (K s8.1 h3)))
 (y,0,()) h1):=by
  refine zcw (n:=m) (by omega) (fun i y h'=>OI D h' y ((List.range n).map (fun i:Nat=>(i:Int))++(List.range i).map fun i:Nat=>-1-(i:Int))) (by simpa using ho) ?_
  intro i z h2 hi ho2 k hk2
  refine za0 (fun h3=>?_) (fun h3=>?_)
  · have hi':i<m:=by simp only at h3; omega
    simp only
    rw [show IntKind.i64.wrap (-1-(i:Int))=-1-(i:Int) from w64 (by omega)]
    refine ho2.app (by simp; omega) fun w h4 ho4=>hk2 _ _ hi' ?_
    rw [List.range_succ,List.map_append,←List.append_assoc]
    exact ho4
  · have:i=m:=by simp only at h3; omega
    subst this
    exact H _ _ ho2
theorem zo0 (hp:PR h p S) (hs:sSk S) (H:∀y h',h.le h'→OI h h' y (allI S.pts.length S.cir.length)→Ks y h'):callP (F.y_henneberg_peeler_all (some p)) Ks h:=by
 refine za1 (fun y h'=>OI h h' y (allI S.pts.length S.cir.length)) (fun K' hk=>?_) fun b h' hl hb=>H b h' hl hb
 unfold F.y_henneberg_peeler_all
 obtain ⟨s,lS,itS,ceS,hx,hc,_⟩:=hp
 have l1:=hx.1.len zed
 have l2:=hx.2.1.len zee
 have:=hs.1
 have:=hs.2.1
 simp only [zcs,Nat.zero_add]
 refine ⟨_,hc 0 _ rfl,?_⟩
 simp only
 rw [l1]
 refine zcw (n:=S.pts.length) (by omega) (fun i y h'=>OI h h' y ((List.range i).map fun i:Nat=>(i:Int))) OI.nil ?_
 intro i y h2 hi ho k hk2
 refine za0 (fun h3=>?_) (fun h3=>?_)
 · have hi':i<S.pts.length:=by simp only at h3; omega
   refine ho.app (by simp; omega) fun w h4 ho4=>hk2 _ _ hi' ?_
   rw [List.range_succ,List.map_append]
   exact ho4
 have:i=S.pts.length:=by simp only at h3; omega
 subst this
 refine ⟨_,Hp.cell_le ho.dle (hc 1 _ rfl),?_⟩
 simp only
 rw [l2]
 exact za65 (n:=S.pts.length) (m:=S.cir.length) (by omega) (by omega) (fun z h2 ho2=>hk _ _ ho2.dle ho2) ho
theorem zvy (hp:PR h p S) (hs:sSk S) (hi:-9223372036854775808≤item∧item≤9223372036854775807) (H:∀b,(b=true↔item∈allI S.pts.length S.cir.length)→Kb b h):callP (F.y_henneberg_peeler_exists (some p) item) Kb h:=by
 refine za1 (fun b h'=>h'=h∧(b=true↔item∈allI S.pts.length S.cir.length)) (fun K' hk=>?_) fun b h' _ hb=>by obtain ⟨rfl,hb⟩:=hb; exact H b hb
 unfold F.y_henneberg_peeler_exists
 obtain ⟨s,lS,itS,ceS,hx,hc,_⟩:=hp
 have l1:=hx.1.len zed
 have l2:=hx.2.1.len zee
 have fin:∀b,(b=true↔(0≤item∧item<S.pts.length)∨(item<0∧-1-item<S.cir.length))→K' b h:=fun b hb=>hk _ _ (Hp.le_refl _) ⟨rfl,by rw [zmu]; exact hb⟩
 simp only [zcs,Nat.zero_add]
 have e1:IntKind.i64.wrap (-1-item)=-1-item:=w64 (by omega)
 refine za0 (fun h1=>?_) (fun h1=>za0 (fun h2=>?_) (fun h2=>?_))
 · refine ⟨_,hc 0 _ rfl,?_⟩
   simp only
   rw [l1]
   refine za0 (fun h2=>fin _ ⟨fun _=>.inl ⟨h1,h2⟩,fun _=>rfl⟩) (fun h2=>za0 (fun h3=>by omega) (fun h3=>fin _ ⟨fun hh=>(by cases hh),fun hh=>by omega⟩))
 · refine ⟨_,hc 1 _ rfl,fin _ ?_⟩
   rw [l2,e1,decide_eq_true_iff]
   omega
 · exact fin _ ⟨fun hh=>(by cases hh),fun hh=>by omega⟩
theorem zr9 (hp:PR h p S) (hs:sSk S) (hv:VS S) (hr:IL h rs R) (hR:R.length≤100000) (H:∀y h',h.le h'→OI h h' y (remL (its S) item R)→Ks y h'):callP (F.y_henneberg_peeler_remaining (some p) item rs) Ks h:=by
 refine za1 (fun y h'=>OI h h' y (remL (its S) item R)) (fun K' hk=>?_) fun b h' hl hb=>H b h' hl hb
 unfold F.y_henneberg_peeler_remaining
 obtain ⟨s,lS,itS,ceS,hx,hc,hL,hI,hC⟩:=hp
 have hal:=zmh hs
 have hok:=ziy hv hs
 have hIl:=hI.len ziz
 rw [List.length_map] at hIl
 refine zd1 fun p1 h1 hl1 c1=>?_
 refine ⟨_,Hp.cell_le hl1 (hc 7 _ rfl),?_⟩
 refine zcw (n:=(allC S).length) (by omega) (fun i y h'=>OI h1 h' y (remN (its S) item R i)) OI.nil ?_
 intro i y h2 hi ho k hk2
 have hle:=Hp.le_trans hl1 ho.dle
 refine za0 (fun h3=>?_) (fun h3=>?_)
 · have hi':i<(allC S).length:=by simp only at h3; omega
   refine za5 (fun s h'=>OI h1 h' s.1 (remN (its S) item R (i+1))) (fun s h' hs=>hk2 _ _ hi' hs) ?_
   refine (hI.le ziz hle).get ziz i rfl (by simpa using hi') fun a x hxx hcx=>?_
   have e0:=hcx 0 _ rfl
   rw [zb7] at e0
   refine ⟨_,e0,?_⟩
   rw [List.getElem_map] at hxx
   have hlen:=zq9 (cs:=cens S) (hok _ (List.getElem_mem hi')).2
   have hxx:IL h2 x (itemsC (allC S)[i] (cens S)):=hxx
   have hg:(its S).getD i []=itemsC (allC S)[i] (cens S):=by
    rw [zbd (by rw [zj0]; exact hi')]
    simp [its]
   have hstep:remN (its S) item R (i+1)=remN (its S) item R i++(if keepP (itemsC (allC S)[i] (cens S)) item R then [(i:Int)] else []):=by
    conv=>lhs; unfold remN
    rw [hg]
   have hrl:=zpn (its S) item R i
   refine zcy hxx (by omega) fun h4 hl4=>?_
   have ho4:=ho.le hl4
   refine za0 (fun h5=>?_) (fun h5=>?_)
   · refine za1 (fun b h'=>b=true↔∃x∈itemsC (allC S)[i] (cens S),x∈R) (fun K2 hk3=>?_) fun b h6 hl6 hb=>?_
     · unfold F.zbb
       refine za1 (fun r h'=>Fnd (fun x=>x∈R) (itemsC (allC S)[i] (cens S)) r) (fun K4 hk4=>?_) fun r h' hl hr=>hk3 _ _ hl (by rw [decide_eq_true_iff]; exact hr.iff)
       unfold F.zbi
       refine zi7 (hxx.le hl4) (by omega) (fun x _ h7 hl7 K5 hK5=>?_) fun r h' hl hr=>hk4 _ _ hl hr
       refine za1 (fun b h'=>b=decide (x∈R)) (fun K6 hk6=>?_) fun b h8 hl8 hb=>hK5 _ _ hl8 (by rw [hb,decide_eq_true_iff])
       unfold F.y_henneberg_peeler_remaining_1
       have l7:=Hp.le_trans ho4.dle hl7
       refine ⟨_,Hp.cell_le l7 c1,?_⟩
       exact zcy (hr.le (Hp.le_trans hl1 l7)) (by omega) fun h8 hl8=>hk6 _ _ hl8 rfl
     · have ho6:=ho4.le hl6
       refine za6 (fun h7=>?_) (fun h7=>?_)
       · have hkp:keepP (itemsC (allC S)[i] (cens S)) item R:=⟨h5,fun x hx hxR=>by rw [hb.2 ⟨x,hx,hxR⟩] at h7; cases h7⟩
         refine ho6.app (by omega) fun z h8 ho8=>?_
         show OI _ _ _ _
         rw [hstep,if_pos hkp]; exact ho8
       · have hkp:¬keepP (itemsC (allC S)[i] (cens S)) item R:=fun hh=>by
          obtain ⟨x,hx,hxR⟩:=hb.1 (by simpa using h7)
          exact hh.2 x hx hxR
         show OI _ _ _ _
         rw [hstep,if_neg hkp,List.append_nil]; exact ho6
   · show OI _ _ _ _
     rw [hstep,if_neg (fun hh=>h5 hh.1),List.append_nil]; exact ho4
 · have:i=(allC S).length:=by simp only at h3; omega
   subst this
   refine hk _ _ hle ?_
   have ho:=ho.base hl1
   unfold remL
   rw [zj0]; exact ho
theorem zm4 {k:Nat} (hp:PR h p S) (hs:sSk S) (hv:VS S) (ht:GT h) (hk:k<(allC S).length) (H:Ki ((eqK ((allC S).getD k dC).kind:Nat):Int) h):callP (F.y_henneberg_peeler_equations (some p) (k:Int)) Ki h:=by
 refine zak _ (fun K' hkk=>?_) H
 unfold F.y_henneberg_peeler_equations
 obtain ⟨s,lS,itS,ceS,hx,hc,hL,hI,hC⟩:=hp
 refine ⟨_,hc 6 _ rfl,?_⟩
 refine hL.get zaw k rfl hk fun a x hxx hcx=>⟨_,hcx 0 _ rfl,?_⟩
 rw [hxx.1]
 have:=(ziy hv hs _ (List.getElem_mem hk)).1.1
 rw [zbd hk] at hkk
 exact znj ht.2.2 (fun _ _ ln ps=>hkk) (fun hn=>absurd this hn)
theorem zp4 {l:Sl} {xs:List Int} (hp:PR h p S) (hs:sSk S) (hv:VS S) (ht:GT h) (hl:IL h l xs) (hlen:xs.length≤100000) (hin:∀i∈xs,∃k:Nat,k<(allC S).length∧i=k) (H:∀h',h.le h'→Ki ((wtL (allC S) xs:Nat):Int) h'):callP (F.y_henneberg_peeler_weight (some p) l) Ki h:=by
 refine za1 (fun b h'=>b=((wtL (allC S) xs:Nat):Int)) (fun K' hk=>?_) fun b h' hl hb=>by subst hb; exact H h' hl
 unfold F.y_henneberg_peeler_weight
 have hll:=hl.len
 refine zcw (n:=xs.length) (by omega) (fun i a h'=>h.le h'∧a=((wtL (allC S) (xs.take i):Nat):Int)) ⟨Hp.le_refl _,by simp [wtL]⟩ ?_
 rintro i a h2 hi ⟨hl2,ha⟩ k hk2
 refine za0 (fun h3=>?_) (fun h3=>?_)
 · have hi':i<xs.length:=by simp only at h3; omega
   refine (hl.le hl2).get i rfl hi' ?_
   obtain ⟨q,hq1,hq2⟩:=hin _ (List.getElem_mem hi')
   rw [hq2]
   have hw:=za49 (L:=allC S) (xs.take i)
   rw [List.length_take] at hw
   have hw2:=za2b ((allC S).getD q dC).kind
   refine zm4 (hp.le hl2) hs hv (ht.le hl2) hq1 (hk2 _ _ hi' ⟨hl2,?_⟩)
   rw [←List.take_append_getElem hi',zv9,hq2]
   simp only
   rw [ha,w64 (by omega)]
   rfl
 · have:i=xs.length:=by simp only at h3; omega
   subst this
   rw [List.take_length] at ha
   rw [ha]
   exact hk _ _ hl2 rfl
theorem zye {k:Nat} {t:Int} (hp:PR h p S) (hs:sSk S) (hv:VS S) (hk:k<(allC S).length) (H:∀h',h.le h'→Ki (kindP ((allC S).getD k dC) (cens S) t) h'):callP (F.y_henneberg_peeler_kind (some p) (k:Int) t) Ki h:=by
 refine za1 (fun b h'=>b=kindP ((allC S).getD k dC) (cens S) t) (fun K' hkk=>?_) fun b h' hl hb=>by subst hb; exact H h' hl
 unfold F.y_henneberg_peeler_kind
 obtain ⟨s,lS,itS,ceS,hx,hc,hL,hI,hC⟩:=hp
 refine ⟨_,hc 6 _ rfl,?_⟩
 refine hL.get zaw k rfl hk fun a x hxx hcx=>⟨_,hcx 0 _ rfl,_,hcx 1 _ rfl,_,hcx 2 _ rfl,_,hcx 3 _ rfl,_,hcx 4 _ rfl,?_⟩
 refine ⟨_,hc 8 _ rfl,?_⟩
 have:=ziy hv hs _ (List.getElem_mem hk)
 rw [zbd hk] at hkk
 exact zz3 (x:=x) hxx hC this.2 this.1.cirOk this.1.lenC fun h' hl=>hkk _ _ hl rfl
def smI (item:Int):Prop:=-1000000≤item∧item≤1000000
theorem zme (hp:PR h p S) (hs:sSk S) (hv:VS S) (ht:GT h) (hr:IL h rs R) (hR:R.length≤100000) (hi:smI item) (H:∀b h',h.le h'→(b=true↔canP (allC S) (cens S) R item)→Kb b h'):callP (F.y_henneberg_peeler_removable (some p) item rs) Kb h:=by
 refine za1 (fun b h'=>b=true↔canP (allC S) (cens S) R item) (fun K' hk=>?_) fun b h' hl hb=>H b h' hl hb
 unfold F.y_henneberg_peeler_removable
 have no:∀h',h.le h'→¬canP (allC S) (cens S) R item→K' false h':=fun h' hl hn=>hk _ _ hl ⟨fun hh=>(by cases hh),fun hh=>absurd hh hn⟩
 have hits:its S=(allC S).map fun c=>itemsC c (cens S):=rfl
 unfold canP at no hk
 rw [←hits] at no hk
 refine zd1 fun p1 h1 hl1 c1=>zd1 fun p2 h2 hl2 c2=>?_
 have hle2:=Hp.le_trans hl1 hl2
 refine ⟨_,c2,?_⟩
 refine zcy (hr.le hle2) (by omega) fun h3 hl3=>?_
 have hle3:=Hp.le_trans hle2 hl3
 refine za0 (fun h4=>no _ hle3 fun hh=>hh.1 h4) (fun h4=>?_)
 have d1:∀{h'},h3.le h'→h'.cell p1=some (.pointer (some p)):=fun hl=>Hp.cell_le (Hp.le_trans hl2 (Hp.le_trans hl3 hl)) c1
 have d2:∀{h'},h3.le h'→h'.cell p2=some (.int .i64 item):=fun hl=>Hp.cell_le (Hp.le_trans hl3 hl) c2
 refine ⟨_,d1 (Hp.le_refl _),_,d2 (Hp.le_refl _),?_⟩
 refine zr9 (hp.le hle3) hs hv (hr.le hle3) hR fun r7 h5 hl5 ho5=>?_
 have hle5:=Hp.le_trans hle3 hl5
 have hrl:(remL (its S) item R).length≤(its S).length:=za74
 rw [zj0] at hrl
 have hal:=zmh hs
 have hin:∀i∈remL (its S) item R,∃k:Nat,k<(allC S).length∧i=k:=fun i hi=>by
  obtain ⟨k,h1,h2,_⟩:=za75 hi
  rw [zj0] at h1
  exact ⟨k,h1,h2⟩
 refine ⟨_,d2 hl5,?_⟩
 obtain ⟨s,lS,itS,ceS,hpp⟩:=hp
 have hp:PR h p S:=⟨s,lS,itS,ceS,hpp⟩
 obtain ⟨hx,hc,hL,hI,hC⟩:=hpp
 refine za0 (fun h6=>?_) (fun h6=>?_)
 · have h6:item<0:=h6
   refine ⟨_,d1 hl5,?_⟩
   refine zp4 (hp.le hle5) hs hv (ht.le hle5) ho5.il (by omega) hin fun h7 hl7=>?_
   have hle7:=Hp.le_trans hle5 hl7
   have hm:most item=1:=by unfold most; rw [if_pos h6]
   refine za0 (fun h8=>?_) (fun h8=>no _ hle7 fun hh=>by have:=hh.2.1; omega)
   refine za1 (fun b h'=>b=true↔∃i∈remL (its S) item R,¬suitP ((allC S).getD i.toNat dC) (cens S) item) (fun K2 hk3=>?_) fun b h9 hl9 hb=>hk _ _ (Hp.le_trans hle7 hl9) ?_
   · unfold F.zbc
     refine za1 (fun r h'=>Fnd (fun i=>¬suitP ((allC S).getD i.toNat dC) (cens S) item) (remL (its S) item R) r) (fun K4 hk4=>?_) fun r h' hl hr=>hk3 _ _ hl (by rw [decide_eq_true_iff]; exact hr.iff)
     unfold F.zbj
     refine zi7 (ho5.il.le hl7) (by omega) (fun i hi2 h9 hl9 K5 hK5=>?_) fun r h' hl hr=>hk4 _ _ hl hr
     refine za1 (fun b h'=>b=true↔¬suitP ((allC S).getD i.toNat dC) (cens S) item) (fun K6 hk6=>?_) fun b h8 hl8 hb=>hK5 _ _ hl8 hb
     unfold F.y_henneberg_peeler_removable_1
     obtain ⟨k,hk1,rfl⟩:=hin i hi2
     have hle9:=Hp.le_trans hle7 hl9
     have l39:=Hp.le_trans hl5 (Hp.le_trans hl7 hl9)
     refine ⟨_,d1 l39,_,Hp.cell_le hle9 (hc 6 _ rfl),?_⟩
     refine (hL.le zaw hle9).get zaw k rfl hk1 fun a x hxx hcx=>⟨_,hcx 0 _ rfl,_,hcx 1 _ rfl,_,hcx 2 _ rfl,_,hcx 3 _ rfl,_,hcx 4 _ rfl,?_⟩
     refine ⟨_,d1 l39,_,Hp.cell_le hle9 (hc 8 _ rfl),_,d2 l39,?_⟩
     have hok:=ziy hv hs _ (List.getElem_mem hk1)
     have e1:IntKind.i64.wrap (-1-item)=-1-item:=by unfold smI at hi; exact w64 (by omega)
     simp only
     rw [e1]
     refine zxl (x:=x) hxx (hC.le hle9) hok.2 hok.1.cirOk hok.1.lenC fun b h' hl hb=>hk6 _ _ hl ?_
     rw [show ((k:Nat):Int).toNat=k from rfl,zbd hk1]
     unfold suitP
     rw [if_pos h6,←hb]
     cases b<;>simp
   · rw [Bool.not_eq_true',←Bool.not_eq_true,hb]
     constructor
     · intro hh
       exact ⟨h4,by omega,fun i hi=>Classical.byContradiction fun hn=>hh ⟨i,hi,hn⟩⟩
     · rintro ⟨_,_,h10⟩ ⟨i,hi,hn⟩
       exact hn (h10 i hi)
 · have h6:¬item<0:=h6
   refine ⟨_,d1 hl5,?_⟩
   refine zp4 (hp.le hle5) hs hv (ht.le hle5) ho5.il (by omega) hin fun h7 hl7=>?_
   have hle7:=Hp.le_trans hle5 hl7
   have hm:most item=2:=by unfold most; rw [if_neg h6]
   refine za0 (fun h8=>no _ hle7 fun hh=>by have:=hh.2.1; omega) (fun h8=>?_)
   have hr7:=ho5.il.le hl7
   have hr7l:=hr7.len
   refine zcx (n:=(remL (its S) item R).length) (by omega) (fun i h'=>h7.le h'∧∀j (hj:j<(remL (its S) item R).length),j<i→suitP ((allC S).getD (remL (its S) item R)[j].toNat dC) (cens S) item) ⟨Hp.le_refl _,fun j _ hj=>by omega⟩ ?_
   rintro i h9 hi9 ⟨hl9,hno⟩ kk hk2
   have hle9:=Hp.le_trans hle7 hl9
   have l39:=Hp.le_trans hl5 (Hp.le_trans hl7 hl9)
   refine za0 (fun h10=>?_) (fun h10=>?_)
   · have hi':i<(remL (its S) item R).length:=by simp only at h10; omega
     refine (hr7.le hl9).get i rfl hi' ?_
     obtain ⟨k,hk1,hk2e⟩:=hin _ (List.getElem_mem hi')
     rw [hk2e]
     refine ⟨_,d1 l39,_,d2 l39,?_⟩
     refine zye (hp.le hle9) hs hv hk1 fun h11 hl11=>?_
     have hle11:=Hp.le_trans hle9 hl11
     have l311:=Hp.le_trans l39 hl11
     obtain ⟨kd,hkd⟩:∃kd,kd=kindP ((allC S).getD k dC) (cens S) item:=⟨_,rfl⟩
     have hsuit:suitP ((allC S).getD (remL (its S) item R)[i].toNat dC) (cens S) item↔(if eqK ((allC S).getD k dC).kind=2 then kd=3 else kd=1∨kd=2):=by
      rw [hk2e,hkd]
      unfold suitP
      rw [if_neg h6]
      rfl
     rw [←hkd]
     refine za5 (fun s h'=>h'=h11∧s.1=decide (kd=1∨kd=2)) ?_ ?_
     · rintro ⟨b,_⟩ h11 ⟨rfl,hb⟩
       simp only at hb
       subst hb
       refine za5 (fun s h'=>h'=h11∧(s.1=true↔suitP ((allC S).getD (remL (its S) item R)[i].toNat dC) (cens S) item)) ?_ ?_
       · rintro ⟨b,_⟩ h11 ⟨rfl,hb⟩
         simp only at hb
         refine za6 (fun h12=>no _ hle11 fun hh=>?_) (fun h12=>hk2 _ hi' ⟨Hp.le_trans hl9 hl11,?_⟩)
         · rw [hb.2 (hh.2.2 _ (List.getElem_mem hi'))] at h12; cases h12
         · exact upto (P:=fun i:Int=>suitP ((allC S).getD i.toNat dC) (cens S) item) hno hi' (hb.1 (by simpa using h12))
       · refine ⟨_,d1 l311,?_⟩
         refine zm4 (hp.le hle11) hs hv (ht.le hle11) hk1 ?_
         refine zae (fun h12=>⟨rfl,?_⟩) (fun h12=>⟨rfl,?_⟩)
         · rw [hsuit,if_pos (by omega)]
           simp
         · rw [hsuit,if_neg (by omega)]
           simp
     · refine zae (fun h12=>⟨rfl,?_⟩) (fun h12=>⟨rfl,?_⟩)
       · rw [h12]; rfl
       · by_cases h13:kd=2
         · rw [h13]; rfl
         · rw [decide_eq_false (by omega)]; simpa using h13
   · refine hk _ _ hle9 ⟨fun _=>⟨h4,by omega,?_⟩,fun _=>rfl⟩
     exact upall (P:=fun i:Int=>suitP ((allC S).getD i.toNat dC) (cens S) item) hno (by simp only at h10; omega)
end
end Den
end

section
namespace Den
open Go Iv Lx
section
variable {h : Hp} {s : TSketch} {S : PSk} {x : TConstraint} {c : PCon} {cs : List Int} {ce : Sl} {item : Int} {R : List Int} {rs : Sl} {Kb : Bool → Hp → Prop} {Ki : Int → Hp → Prop} {Ks : Sl → Hp → Prop}
end
theorem zib {can:List Int→Int→Bool} {pref:List Int} (hc:∀R i,can R i=true→i∉R):∀{f:Nat} {R:List Int},(leftL pref R).length≤f→pref.find? (can R)=none→peelF can pref f R=R
 | 0,R,_,_=>rfl
 | f+1,R,_,h=>by unfold peelF; rw [h]
theorem zk2 {can:List Int→Int→Bool} {pref:List Int} (hc:∀R i,can R i=true→i∉R) {f:Nat} {R:List Int} {i:Int} (hf:(leftL pref R).length≤f) (h:pref.find? (can R)=some i) :
 ∃g,f=g+1∧peelF can pref f R=peelF can pref g (R++[i])∧(leftL pref (R++[i])).length≤g:=by
 have h1:=List.find?_some h
 have h2:=List.mem_of_find?_eq_some h
 have h3:=zy7 h2 (hc _ _ h1)
 obtain ⟨g,rfl⟩:∃g,f=g+1:=⟨f-1,by omega⟩
 refine ⟨g,rfl,?_,by omega⟩
 conv=>lhs; unfold peelF
 rw [h]
theorem zsz {L:List PCon} {cs:List Int}:∀R i,canB L cs R i=true→i∉R:=fun R i h=>(of_decide_eq_true h).1
def peelS (S:PSk) (pref:List Int):List Int:=peelL (canB (allC S) (cens S)) pref
theorem za2e {can:Int→Bool} {l:List Int} {i:Nat} (hi:i<l.length) (hno:∀j (hj:j<l.length),j<i→can l[j]=false) (h:can l[i]=true):l.find? can=some l[i]:=by
 rw [List.find?_eq_some_iff_append]
 refine ⟨h,l.take i,l.drop (i+1),?_,fun a ha=>?_⟩
 · rw [List.getElem_cons_drop,List.take_append_drop]
 · obtain ⟨j,hj,rfl⟩:=List.mem_take_iff_getElem.1 ha
   rw [hno j (by omega) (by omega)]; rfl
section
variable {h : Hp} {s : TSketch} {S : PSk} {l : Sl} {pref : List Int} {K : (Sl × Sl) → Hp → Prop}
end
end Den
end

section
namespace Den
open Go Iv Lx
theorem Own.clr {h0 h:Hp} {x:Sl} {cs:List Value} {n:Nat} {K:Hp→Prop} (ho:Own h0 h 1 x cs) (hn:n≤cs.length) (H:∀h',Own h0 h' 1 (x.cut 0 n 1) (cs.take n)→K h'):clrP (x.cut n x.len 1) [.int .i64 0] K h:=by
 have hlen:=ho.2.1
 have hcap:=ho.2.2.1
 refine ⟨fun h1=>H h (ho.pre (by omega)),fun h1=>?_⟩
 have hl:(x.cut n x.len 1).len=x.len-n:=rfl
 have hlt:n<x.len:=by omega
 have ho':=ho
 obtain ⟨g1,g2,g3,g4⟩:=ho
 cases ha:x.a with
 | none=>rw [ha] at g4; simp only at g4; omega
 | some a=>
   rw [ha] at g4
   obtain ⟨k1,k2,k3,b,k4,k5,k6,k7⟩:=g4
   have hca:(x.cut n x.len 1).a=Option.some (a.add (n*1)):=by
    show (if x.cap=n then x.a else x.a.map (·.add (n*1)))=_
    rw [if_neg (by omega),ha]; rfl
   rw [hca]
   simp only [stO]
   rw [zb7]
   have hrl:(repl (x.cut n x.len 1).len [Value.int .i64 0]).length=x.len-n:=by rw [zn3,hl]; simp
   refine ⟨b,by rw [zbg]; exact k4,ze6 k2 _,k5,?_,?_,?_⟩
   · rw [zcu,hrl]; omega
   · unfold repl
     rw [List.all_flatten,List.all_eq_true]
     intro l hl
     rw [(List.mem_replicate.1 hl).2]; rfl
   · rw [zbg,zcu,k1,Nat.zero_add,Nat.mul_one]
     refine H _ ⟨?_,?_,?_,?_⟩
     · intro kk bk hkk
       rw [Hp.ins_ne (fun hh=>by subst hh; rw [k3] at hkk; cases hkk)]
       exact g1 kk bk hkk
     · show (n-0)*1=_
       rw [List.length_take]; omega
     · show n-0≤x.cap-0; omega
     · rw [cut_a,ha]
       refine ⟨k1,k2,k3,_,Hp.ins_same _ _ _,k5,?_,?_⟩
       · show (splice b.cells n _).length=(x.cap-0)*1
         rw [zdv (by omega)]
         exact k6
       · have e:(cs.take n).length=n:=by rw [List.length_take]; omega
         rw [e]
         show (splice b.cells n _).take n=_
         unfold splice
         rw [List.append_assoc,List.take_append_of_le_length (by rw [List.length_take]; omega),List.take_take,Nat.min_self]
         have:=congrArg (List.take n) k7
         rw [List.take_take,Nat.min_eq_left (by omega)] at this
         exact this
def kept (xs R:List Int) (j:Nat):List Int:=(xs.take j).filter fun x=>decide (x∉R)
theorem znw {xs R:List Int} {j:Nat} (hj:j<xs.length):kept xs R (j+1)=kept xs R j++(if xs[j]∈R then [] else [xs[j]]):=by
 unfold kept
 rw [←List.take_append_getElem hj,List.filter_append]
 congr 1
 by_cases hm:xs[j]∈R<;>simp [List.filter,hm]
section
variable {h D : Hp} {S : PSk} {p p1 p2 : Addr} {rs l : Sl} {xs R : List Int} {Kb : Bool → Hp → Prop} {Ki : Int → Hp → Prop} {Ks : Sl → Hp → Prop} {K : (Sl × Sl) → Hp → Prop}
theorem zrp {G:Int→(Bool→Hp→Prop)→Hp→Prop} {r:Int} (ho:OI D h l xs) (hlen:xs.length≤1000)
 (hG:∀x h',D.le h'→∀K:Bool→Hp→Prop,(∀h'',h'.le h''→K (decide (x∈R)) h'')→callP (G x) K h') (hr:Fnd (fun x=>x∈R) xs r) (H:∀y h',OI D h' y (xs.filter fun x=>decide (x∉R))→Ks y h') :
 (ifP (r==(-1))
 (Ks l h)
 (loopP (S:=Int×Int×Unit) (fun s2 k3 h2=>
 (ifP (decide (s2.2.1<(l.len:Int)))
 (joinP (S:=Int×Unit) (fun s4 h3=>
 (k3 (s4.1,(IntKind.i64.wrap (s2.2.1+1)),()) h3))
 (fun k5=>
 (idxP l s2.2.1 1 fun a6=>
 (ldL (.int .i64) a6 (fun x7=>
 (callP (G x7) (fun r8 h4=>
 (ifP (!r8)
 (idxP l s2.1 1 fun a9=>
 (stP a9 [.int .i64 x7] (fun h5=>
 (k5 ((IntKind.i64.wrap (s2.1+1)),()) h5)) h4))
 (k5 (s2.1,()) h4))) h2)) h2))))
 (slP l s2.1 (l.len:Int) 1 fun c10=>
 (clrP c10 [.int .i64 0] (fun h6=>
 (slP l 0 s2.1 1 fun c11=>
 (Ks c11 h6))) h2))))
 (r,(IntKind.i64.wrap (r+1)),()) h)):=by
  have hll:=ho.il.len
  have hcap:=ho.2.2.1
  rcases hr with ⟨rfl,hno⟩ | ⟨k,hk,rfl,hk1,hk2⟩
  · refine zc4 rfl (H _ _ ?_)
    have:xs.filter (fun x=>decide (x∉R))=xs:=by
     rw [List.filter_eq_self]
     exact fun a ha=>decide_eq_true (hno a ha)
    rw [this]; exact ho
  · refine zb1 (by rw [beq_eq_false_iff_ne]; omega) ?_
    have hkk:kept xs R k=xs.take k:=by
     unfold kept
     rw [List.filter_eq_self]
     intro a ha
     obtain ⟨j,hj,rfl⟩:=List.mem_take_iff_getElem.1 ha
     exact decide_eq_true (hk2 j (by omega) (by omega))
    have hks:kept xs R (k+1)=xs.take k:=by
     rw [znw hk,if_pos hk1,List.append_nil,hkk]
    refine zaj (fun st h'=>∃(j m:Nat) (ys:List Int),st=((m:Int),(j:Int),())∧k<j∧j≤xs.length∧OI D h' l ys∧ys.length=xs.length∧m=(kept xs R j).length∧m≤j∧ys.take m=kept xs R j∧ys.drop j=xs.drop j)
     (fun st=>(xs.length-st.2.1).toNat) ⟨k+1,k,xs,by rw [w64 (by omega)]; rfl,by omega,by omega,ho,rfl,by rw [hks]; simp; omega,by omega,by rw [hks],rfl⟩ ?_
    rintro _ h2 ⟨j,m,ys,rfl,hkj,hj,ho2,hyl,hm,hmj,htk,hdr⟩
    refine za0 (fun h3=>?_) (fun h3=>?_)
    · have hj':j<xs.length:=by simp only at h3; omega
      have hyj:ys[j]'(by omega)=xs[j]:=by
       have:=congrArg (fun l:List Int=>l[0]?) hdr
       simp only [List.getElem?_drop,Nat.add_zero] at this
       rw [List.getElem?_eq_getElem (by omega),List.getElem?_eq_getElem hj'] at this
       exact Option.some.inj this
      refine za5 (fun st h'=>∃(m':Nat) (ys':List Int),st.1=(m':Int)∧OI D h' l ys'∧ys'.length=xs.length∧m'=(kept xs R (j+1)).length∧m'≤j+1∧ys'.take m'=kept xs R (j+1)∧ys'.drop (j+1)=xs.drop (j+1)) ?_ ?_
      · rintro ⟨_,_⟩ h4 ⟨m',ys',rfl,g1,g2,g3,g4,g5,g6⟩
        exact ⟨⟨j+1,m',ys',by simp only; rw [w64 (by omega)]; rfl,by omega,by omega,g1,g2,g3,g4,g5,g6⟩,by simp only; rw [w64 (by omega)]; omega⟩
      · refine ho2.il.get j rfl (by omega) ?_
        have hdr1:ys.drop (j+1)=xs.drop (j+1):=by
         have:=congrArg (List.drop 1) hdr
         rw [List.drop_drop,List.drop_drop] at this
         exact this
        refine hG _ _ ho2.dle _ fun h4 hl4=>?_
        have ho4:=ho2.le hl4
        rw [hyj]
        refine za6 (fun h5=>?_) (fun h5=>?_)
        · have hx:xs[j]∉R:=by simpa using h5
          have hs:=znw (xs:=xs) (R:=R) hj'
          rw [if_neg hx] at hs
          refine zuy m ho4 rfl (by omega) rfl (by decide) rfl fun h6 ho6=>⟨m+1,ys.set m xs[j],by simp only; rw [w64 (by omega)]; rfl,?_,by simpa using hyl,by rw [hs]; simp; omega,by omega,?_,?_⟩
          · rw [Nat.mul_one] at ho6
            have e:splice (ys.map ic) m [Value.int .i64 xs[j]]=(ys.set m xs[j]).map ic:=by
             rw [ziu,List.map_set,List.set_eq_take_append_cons_drop,if_pos (by simp; omega)]
             rfl
            unfold OI
            rw [←e]; exact ho6
          · rw [hs,←htk,List.take_add_one,List.take_set_of_le (Nat.le_refl _),List.getElem?_set_self (by omega)]
            rfl
          · rw [List.drop_set_of_lt (by omega)]; exact hdr1
        · have hx:xs[j]∈R:=by simpa using h5
          have hs:=znw (xs:=xs) (R:=R) hj'
          rw [if_pos hx,List.append_nil] at hs
          exact ⟨m,ys,rfl,ho4,hyl,by rw [hs]; exact hm,by omega,by rw [hs]; exact htk,hdr1⟩
    · have:j=xs.length:=by simp only at h3; omega
      subst this
      have hl2:=ho2.il.len
      refine ⟨by omega,by simp only; omega,by omega,?_⟩
      have e1:((l.len:Nat):Int).toNat=l.len:=rfl
      have e2:((m:Nat):Int).toNat=m:=rfl
      simp only
      rw [e1,e2]
      refine Own.clr ho2 (n:=m) (by simp; omega) fun h6 ho6=>⟨by decide,by omega,by omega,?_⟩
      have e3:(0:Int).toNat=0:=rfl
      rw [e3,e2]
      refine H _ _ ?_
      unfold OI
      have:xs.filter (fun x=>decide (x∉R))=ys.take m:=by
       rw [htk]
       unfold kept
       rw [List.take_length]
      rw [this,List.map_take]
      exact ho6
theorem zqj {x:Int} (hc:h.cell p2=some (Lf.sl.up rs)) (hr:IL h rs R) (hlen:R.length≤1000) (H:∀h',h.le h'→Kb (decide (x∈R)) h'):callP (F.y_henneberg_peeler_peel_2 x (some p2)) Kb h:=by
 refine za1 (fun b h'=>b=decide (x∈R)) (fun K' hk=>?_) fun b h' hl hb=>by subst hb; exact H h' hl
 unfold F.y_henneberg_peeler_peel_2
 exact ⟨_,hc,zcy hr (by omega) fun h' hl=>hk _ _ hl rfl⟩
theorem zvw (ho:OI D h l xs) (hxl:xs.length≤1000) (hc:D.cell p2=some (Lf.sl.up rs)) (hr:IL D rs R) (hlen:R.length≤1000) (H:∀y h',OI D h' y (xs.filter fun x=>decide (x∉R))→Ks y h'):callM (F.zb6 l (some p2,())) Ks h:=by
 refine zfn ?_
 unfold F.zb6
 refine za1 (fun r h'=>Fnd (fun x=>x∈R) xs r) (fun K2 hk=>?_) fun r h1 hl1 hr1=>?_
 · unfold F.zbu
   refine zi7 ho.il (by omega) (fun x _ h5 hl5 K5 hK5=>?_) fun r h' hl hr=>hk _ _ hl hr
   have hD5:=Hp.le_trans ho.dle hl5
   exact zqj (Hp.cell_le hD5 hc) (hr.le hD5) hlen fun h6 hl6=>hK5 _ _ hl6 (by rw [decide_eq_true_iff])
 · exact zrp (G:=fun x=>F.y_henneberg_peeler_peel_2 x (some p2,()).1) (ho.le hl1) hxl (fun x h' hl' K' hK'=>zqj (Hp.cell_le hl' hc) (hr.le hl') hlen hK') hr1 H
end
end Den
end

section
namespace Den
open Go Iv Lx
theorem za30 {can:List Int→Int→Bool} {pref:List Int} (hcn:∀R i,can R i=true→i∉R):∀(f1 f2:Nat) (Q:List Int),(leftL pref Q).length≤f1→(leftL pref Q).length≤f2→peelF can pref f1 Q=peelF can pref f2 Q:=by
 intro f1
 induction f1 with
 | zero=>
   intro f2 Q h1 h2
   cases hq:pref.find? (can Q) with
   | none=>rw [zib hcn h1 hq,zib hcn h2 hq]
   | some z=>
     obtain ⟨g,hg,_⟩:=zk2 hcn h1 hq
     omega
 | succ f1 ih=>
   intro f2 Q h1 h2
   cases hq:pref.find? (can Q) with
   | none=>rw [zib hcn h1 hq,zib hcn h2 hq]
   | some z=>
     obtain ⟨g,hg,e1,e2⟩:=zk2 hcn h1 hq
     obtain ⟨g',hg',e1',e2'⟩:=zk2 hcn h2 hq
     rw [e1,e1']
     have:g=f1:=by omega
     subst this
     exact ih g' _ e2 e2'
def allS (S:PSk):List Int:=allI S.pts.length S.cir.length
theorem zp7 {S:PSk} (hs:sSk S):(allS S).length≤20:=by
 unfold allS
 rw [zsw]
 have:=hs.1
 have:=hs.2.1
 omega
theorem zqx {S:PSk} (hs:sSk S) {x:Int} (hx:x∈allS S):smI x:=by
 have:=zmu.1 hx
 have:=hs.1
 have:=hs.2.1
 unfold smI; omega
section
variable {h D : Hp} {s : TSketch} {S : PSk} {p p1 p2 : Addr} {rs l : Sl} {xs R : List Int} {Kb : Bool → Hp → Prop} {Ki : Int → Hp → Prop} {Ks : Sl → Hp → Prop} {K : (Sl × Sl) → Hp → Prop}
theorem zyg (hp:PR h p S) (hs:sSk S) (hv:VS S) (ht:GT h) (c1:h.cell p1=some (.pointer (some p))) (c2:h.cell p2=some (Lf.sl.up rs)) (hr:IL h rs R) (hR:R.length≤100000) (hl:IL h l xs) (hxl:xs.length≤1000) (hsm:∀x∈xs,smI x)
 (H:∀r h',h.le h'→Fnd (fun x=>canB (allC S) (cens S) R x=true) xs r→Ki r h'):callP (F.zb8 l (some p1,some p2,())) Ki h:=by
 refine za1 (fun r h'=>Fnd (fun x=>canB (allC S) (cens S) R x=true) xs r) (fun K' hk=>?_) fun b h' hl hb=>H b h' hl hb
 unfold F.zb8
 refine zi7 hl (by omega) (fun x hx h5 hl5 K5 hK5=>?_) fun r h' hl hr=>hk _ _ hl hr
 refine za1 (fun b h'=>b=true↔canB (allC S) (cens S) R x=true) (fun K6 hk6=>?_) fun b h8 hl8 hb=>hK5 _ _ hl8 hb
 unfold F.y_henneberg_peeler_peel_1
 refine ⟨_,Hp.cell_le hl5 c1,_,Hp.cell_le hl5 c2,?_⟩
 exact zme (hp.le hl5) hs hv (ht.le hl5) (hr.le hl5) hR (hsm x hx) fun b h' hl hb=>hk6 _ _ hl (by rw [hb]; unfold canB; rw [decide_eq_true_iff])
theorem za4v {can:Int→Bool} {xs:List Int} {r:Int} (hf:Fnd (fun x=>can x=true) xs r):(r=-1∧xs.find? can=none)∨∃k,∃hk:k<xs.length,r=(k:Int)∧xs.find? can=some xs[k]:=by
 rcases hf with ⟨h1,h2⟩ | ⟨k,hk,h1,h2,h3⟩
 · exact .inl ⟨h1,by rw [List.find?_eq_none]; exact fun x hx=>by simpa using h2 x hx⟩
 · exact .inr ⟨k,hk,h1,za2e hk (fun j hj hjk=>by simpa using h3 j hj hjk) h2⟩
theorem za2z (hp:PR h p S) (hs:sSk S) (hv:VS S) (ht:GT h) (H:∀a b h',h.le h'→IL h' a (peelS S (allS S))→IL h' b (leftL (allS S) (peelS S (allS S)))→K (a,b) h'):callP (F.y_henneberg_peeler_peel (some p)) K h:=by
 refine za1 (fun r h'=>IL h' r.1 (peelS S (allS S))∧IL h' r.2 (leftL (allS S) (peelS S (allS S)))) (fun K' hk=>?_) fun r h' hl hr=>H r.1 r.2 h' hl hr.1 hr.2
 unfold F.y_henneberg_peeler_peel
 obtain ⟨can,hcan⟩:∃can,can=canB (allC S) (cens S):=⟨_,rfl⟩
 have hcn:∀R i,can R i=true→i∉R:=by rw [hcan]; exact zsz
 have hal:=zp7 hs
 refine zd1 fun p1 h1 hl1 c1=>?_
 intro b e hbf
 have hp1:=hp.le hl1
 have ht1:=ht.le hl1
 refine zr6 (fun f st h'=>∃(R:List Int) (y:Sl) (D:Hp),st=(some ⟨b,0,none⟩,())∧h1.le D∧D b=none∧MB h' b [Lf.sl.up y]∧OI D h' y R∧(∀a,y.a=some a→a.block≠b)∧R.length+(leftL (allS S) R).length≤(allS S).length∧(leftL (allS S) R).length≤f ∧
  peelF can (allS S) (leftL (allS S) R).length R=peelS S (allS S)) (n0:=(allS S).length)
  ⟨[],nilS,h1,rfl,Hp.le_refl _,hbf,⟨e,Hp.ins_same _ _ _⟩,Own.nil (Hp.le_ins hbf),fun a ha=>(by cases ha),?_⟩ ?_
 · have e:leftL (allS S) []=allS S:=by unfold leftL; rw [List.filter_eq_self]; simp
   rw [e]
   exact ⟨by simp,Nat.le_refl _,by rw [hcan]; rfl⟩
 rintro f _ h2 ⟨R,y,D,rfl,hD,hDb,hm,ho,hyb,hRl,hf,hpf⟩ K2 hK2
 have hD2:=ho.dle
 have hle2:h1.le h2:=Hp.le_trans hD hD2
 refine ⟨_,Hp.cell_le hle2 c1,?_⟩
 refine zo0 (hp1.le hle2) hs fun r6 h3 hl3 ho6=>?_
 have hle3:=Hp.le_trans hle2 hl3
 have hm3:=hm.le hl3
 have ho3:=ho.le hl3
 have c2:∀{h':Hp},MB h' b [Lf.sl.up y]→h'.cell ⟨b,0,none⟩=some (Lf.sl.up y):=fun hm=>by
  have:=hm.ld 0 rfl
  rwa [zb7] at this
 refine zyg (hp1.le hle3) hs hv (ht1.le hle3) (Hp.cell_le hle3 c1) (c2 hm3) ho3.il (by omega) (xs:=allS S) ho6.il (by omega) (fun x hx=>zqx hs hx) fun r7 h4 hl4 hr7=>?_
 have hle4:=Hp.le_trans hle3 hl4
 have hm4:=hm3.le hl4
 have ho4:=ho3.le hl4
 rw [←hcan] at hr7
 rcases za4v hr7 with ⟨hr,hnone⟩ | ⟨k,hk0,hr,hsome⟩
 · refine zc4 (decide_eq_true (by omega)) ?_
   have hRp:R=peelS S (allS S):=by rw [←hpf,zib hcn (Nat.le_refl _) hnone]
   refine ⟨_,Hp.cell_le hle4 c1,?_⟩
   refine zo0 (hp1.le hle4) hs fun r9 h5 hl5 ho9=>?_
   have hm5:=hm4.le hl5
   have ho5:=ho4.le hl5
   refine zvw (D:=h4) (xs:=allS S) (R:=R) (rs:=y) ho9 (by omega) (c2 hm4) ho4.il (by omega) fun z h6 ho6z=>?_
   have l46:h4.le h6:=ho6z.dle
   have hm6:=hm4.le l46
   refine ⟨_,c2 hm6,?_⟩
   refine hk _ _ (Hp.le_trans hl1 (Hp.le_trans hle4 l46)) ⟨?_,?_⟩
   · rw [←hRp]
     exact (ho4.le l46).il
   · have:leftL (allS S) (peelS S (allS S))=(allS S).filter fun x=>decide (x∉R):=by rw [←hRp]; rfl
     rw [this]
     exact ho6z.il
 · refine zb1 (decide_eq_false (by omega)) ?_
   refine ⟨_,c2 hm4,_,Hp.cell_le hle4 c1,?_⟩
   refine zo0 (hp1.le hle4) hs fun r16 h5 hl5 ho16=>?_
   have hm5:=hm4.le hl5
   have ho5:=ho4.le hl5
   rw [hr]
   refine ho16.il.get (xs:=allS S) k rfl hk0 ?_
   have hyl:=ho5.il.len
   have hbb:h5 b≠none:=by obtain ⟨e,hm⟩:=hm5; rw [hm]; simp
   refine zkv ho5 (n:=1) (new:=[ic (allS S)[k]]) rfl rfl rfl (by omega) (by omega) fun w h6 hw _ hs6 hb6=>?_
   have hm6:MB h6 b [Lf.sl.up y]:=by
    obtain ⟨e,hm⟩:=hm5
    exact ⟨e,by rw [hs6 b hbb fun a ha=>(hyb a ha).symm]; exact hm⟩
   have hwb:∀a,w.a=some a→a.block≠b:=fun a ha hh=>by
    rcases hb6 a ha with ⟨a',h8,h9⟩ | h8
    · exact hyb a' h8 (by rw [h9]; exact hh)
    · rw [hh] at h8; exact hbb h8
   obtain ⟨g,hg1,hg2,hg3⟩:=zk2 hcn (Nat.le_refl _) hsome
   have hlt:(leftL (allS S) (R++[(allS S)[k]])).length<(leftL (allS S) R).length:=by omega
   have key:=hm6.st (j:=0) (v:=Lf.sl.up w) (K:=fun h=>K2 (some ⟨b,0,none⟩,()) h) (by simp) rfl fun h8 hm8 hs8=>hK2 (leftL (allS S) (R++[(allS S)[k]])).length _ _ (by omega) ⟨R++[(allS S)[k]],w,D,rfl,hD,hDb,hm8,?_,hwb,by simp; omega,Nat.le_refl _,?_⟩
   · rw [zb7] at key
     exact key
   · obtain ⟨e8,hm8'⟩:=hm8
     rw [znu hm8' hs8]
     have:OI D h6 w (R++[(allS S)[k]]):=by
      unfold OI
      rw [List.map_append]
      exact hw
     exact zl6 this hDb hwb
   · rw [←hpf,hg2]
     exact za30 hcn _ _ _ (Nat.le_refl _) hg3
theorem zrk (hx:SK h s S) (hs:sSk S) (ht:GT h) (H0:∀h',h.le h'→¬VS S→K (nilS,nilS) h') (H:∀a b h',h.le h'→VS S→IL h' a (peelS S (allS S))→IL h' b (leftL (allS S) (peelS S (allS S)))→K (a,b) h'):callP (F.zfe s) K h:=by
 refine za1 (fun r h'=>(¬VS S∧r=(nilS,nilS))∨(VS S∧IL h' r.1 (peelS S (allS S))∧IL h' r.2 (leftL (allS S) (peelS S (allS S))))) (fun K' hk=>?_) fun r h' hl hr=>by
  rcases hr with ⟨h1,rfl⟩ | ⟨h1,h2,h3⟩
  · exact H0 h' hl h1
  · exact H r.1 r.2 h' hl h1 h2 h3
 unfold F.zfe
 refine zho hx hs ht fun r h1 hl1 hr=>?_
 refine zcc (fun h2=>hk _ _ hl1 (.inl ⟨fun hv=>h2 (hr.2 hv),rfl⟩)) (fun h2=>?_)
 have hv:=hr.1 h2
 refine zo2 (hx.le hl1) hv hs fun p h3 hl3 hp=>?_
 refine za2z hp hs hv (ht.le (Hp.le_trans hl1 hl3)) fun a b h4 hl4 ha hb=>hk _ _ (Hp.le_trans hl1 (Hp.le_trans hl3 hl4)) (.inr ⟨hv,ha,hb⟩)
theorem zqh {item:Int} (hx:SK h s S) (hs:sSk S) (ht:GT h) (hr:IL h rs R) (hR:R.length≤100000) (hi:-9223372036854775808≤item∧item≤9223372036854775807) (H:∀b h',h.le h'→(b=true↔VS S∧item∈allS S∧canP (allC S) (cens S) R item)→Kb b h'):callP (F.zen s item rs) Kb h:=by
 refine za1 (fun b h'=>b=true↔VS S∧item∈allS S∧canP (allC S) (cens S) R item) (fun K' hk=>?_) fun b h' hl hb=>H b h' hl hb
 unfold F.zen
 refine zho hx hs ht fun r h1 hl1 hr1=>?_
 refine zcc (fun h2=>hk _ _ hl1 ⟨fun hh=>(by cases hh),fun hh=>absurd (hr1.2 hh.1) h2⟩) (fun h2=>?_)
 have hv:=hr1.1 h2
 refine zo2 (hx.le hl1) hv hs fun p h3 hl3 hp=>?_
 have hle3:=Hp.le_trans hl1 hl3
 refine zvy hp hs hi fun b hb=>?_
 refine za6 (fun h4=>?_) (fun h4=>hk _ _ hle3 ⟨fun hh=>(by cases hh),fun hh=>?_⟩)
 · have hia:item∈allS S:=hb.1 h4
   refine zme hp hs hv (ht.le hle3) (hr.le hle3) hR (zqx hs hia) fun b5 h5 hl5 hb5=>hk _ _ (Hp.le_trans hle3 hl5) ?_
   rw [hb5]
   exact ⟨fun hh=>⟨hv,hia,hh⟩,fun hh=>hh.2.2⟩
 · rw [hb.2 hh.2.1] at h4; cases h4
end
end Den
end

section
namespace Den
open Go Iv Lx
theorem za2f {α:Type} {l m:List α} {d:α} {k:Nat} (h:k<l.length):(l++m).getD k d=l.getD k d:=by
 rw [List.getD_eq_getElem?_getD,List.getD_eq_getElem?_getD,List.getElem?_append_left h]
theorem za2g {α:Type} {l m:List α} {d:α} {k:Nat} (h:l.length≤k):(l++m).getD k d=m.getD (k-l.length) d:=by
 rw [List.getD_eq_getElem?_getD,List.getD_eq_getElem?_getD,List.getElem?_append_right h]
theorem zuh {can:List Int→Int→Bool} {pref:List Int}:∀{f:Nat} {R:List Int},(∀k,k<R.length→can (R.take k) (R.getD k 0)=true∧R.getD k 0∈pref)→∀k,k<(peelF can pref f R).length→can ((peelF can pref f R).take k) ((peelF can pref f R).getD k 0)=true∧(peelF can pref f R).getD k 0∈pref
 | 0,R,h=>h
 | f+1,R,h=>by
   unfold peelF
   cases hq:pref.find? (can R) with
   | none=>exact h
   | some i=>
     refine zuh fun k hk=>?_
     rw [List.length_append,List.length_singleton] at hk
     rcases Nat.lt_or_ge k R.length with h1 | h1
     · have:=h k h1
       rw [List.take_append_of_le_length (by omega),za2f h1]
       exact this
     · have:k=R.length:=by omega
       subst this
       rw [List.take_append_of_le_length (Nat.le_refl _),List.take_length,za2g (Nat.le_refl _)]
       simp only [Nat.sub_self,List.getD_cons_zero]
       exact ⟨List.find?_some hq,List.mem_of_find?_eq_some hq⟩
theorem zpl {S:PSk} {pref:List Int} {k:Nat} (hk:k<(peelS S pref).length):canP (allC S) (cens S) ((peelS S pref).take k) ((peelS S pref).getD k 0)∧(peelS S pref).getD k 0∈pref:=by
 have:=zuh (can:=canB (allC S) (cens S)) (pref:=pref) (f:=pref.length) (R:=[]) (fun k hk=>by simp at hk) k hk
 exact ⟨of_decide_eq_true this.1,this.2⟩
section
variable {h : Hp} {s : TSketch} {S : PSk} {p : Addr} {item : Int} {us : Sl} {u : List Int} {Kb : Bool → Hp → Prop} {Ki : Int → Hp → Prop} {K : TStep → Hp → Prop}
end
section
variable {h : Hp} {s : TSketch} {S : PSk} {p : Addr} {K : (TPlan × Int) → Hp → Prop} {Kb : Bool → Hp → Prop}
end
end Den
end

section
namespace Den
open Go Iv Lx
section
variable {α β γ δ : Type} {c : α → List Value} {n : Nat} {P : Hp → α → β → Prop} {c2 : γ → List Value} {n2 : Nat} {P2 : Hp → γ → δ → Prop} {D h h' : Hp} {l m : Sl} {ps : List β} {qs : List δ}
end
theorem zpa {z:Int} (h:z.natAbs<4294967296):BR 1 ((z:Int):Rat):=⟨by rw [Rat.num_intCast]; unfold Lt; rw [Nat.pow_one]; exact h,by rw [Rat.den_intCast]; unfold Lt; decide⟩
def numE (x:TRat) (z:Int):PEx:=.mk 1 x (some ((z:Int):Rat)) emptyS []
def shortX (x:TRat):Prop:=x.num.mag.len≤4∧x.den.mag.len≤4
theorem za54 {h:Hp} {x:TRat} {z:Int} (hz:z.natAbs<4294967296) (hx:NR h x ((z:Int):Rat)):shortX x:=by
 have hb:=zpa hz
 have h1:=zbn.2 hb.1
 have h2:=zbn.2 hb.2
 have e1:=hx.1.len
 have e2:=hx.2.len
 exact ⟨by omega,by omega⟩
theorem za8k {x:TRat} {z:Int} (hx:shortX x):sE (numE x z):=by
 refine ⟨?_,?_⟩
 · unfold numE smE smEL
   exact ⟨by simp,by decide,hx.1,hx.2,trivial⟩
 · unfold numE dep depL; decide
theorem dec1:decOk (some ((1:Int):Rat))=true:=by decide +kernel
theorem za4g:BS emptyS=[]:=rfl
theorem za8l {x:TRat} {z:Int} (hz:decOk (some ((z:Int):Rat))=true):vE (numE x z)=true:=by
 unfold vE numE
 simp [fmd,fmdL,dep,depL,shp,hz,za4g]
def DC (z:Int) (c:PCon) (e:Int×Int):Prop:=∃x:TRat,shortX x∧c=⟨2,[e.1,e.2],[],[numE x z],0⟩
def DCL (z:Int):List PCon→List (Int×Int)→Prop
 | [],[]=>True
 | c :: r,e :: q=>DC z c e∧DCL z r q
 | _,_=>False
theorem DCL.snoc {z:Int} {c:PCon} {e:Int×Int} (hc:DC z c e):∀{l:List PCon} {q:List (Int×Int)},DCL z l q→DCL z (l++[c]) (q++[e])
 | [],[],_=>⟨hc,trivial⟩
 | a :: r,b :: q,h=>⟨h.1,DCL.snoc hc h.2⟩
 | [],_ :: _,h=>h.elim
 | _ :: _,[],h=>h.elim
theorem DCL.len {z:Int}:∀{l:List PCon} {q:List (Int×Int)},DCL z l q→l.length=q.length
 | [],[],_=>rfl
 | a :: r,b :: q,h=>by rw [List.length_cons,List.length_cons,DCL.len h.2]
 | [],_ :: _,h=>h.elim
 | _ :: _,[],h=>h.elim
theorem DCL.all {z:Int} {Q:PCon→Prop}:∀{l:List PCon} {q:List (Int×Int)},DCL z l q→(∀c e,e∈q→DC z c e→Q c)→∀c∈l,Q c
 | [],[],_,_,c,hc=>by simp at hc
 | a :: r,b :: q,h,H,c,hc=>by
   rcases List.mem_cons.1 hc with rfl | hc
   · exact H _ b (by simp) h.1
   · exact DCL.all h.2 (fun c e he=>H c e (List.mem_cons_of_mem _ he)) c hc
 | [],_ :: _,h,_,_,_=>h.elim
 | _ :: _,[],h,_,_,_=>h.elim
theorem DC.sc {z:Int} {c:PCon} {e:Int×Int} (h:DC z c e):sC c:=by
 obtain ⟨x,hx,rfl⟩:=h
 refine ⟨by simp,by simp,by simp,fun v hv=>?_⟩
 simp only [List.mem_singleton] at hv
 subst hv
 exact za8k hx
theorem DC.vc {z:Int} (hz:decOk (some ((z:Int):Rat))=true) {c:PCon} {e:Int×Int} {n m:Int} (h:DC z c e) (h1:0≤e.1∧e.1<n) (h2:0≤e.2∧e.2<n) (h3:e.1≠e.2):VC c n m:=by
 obtain ⟨x,hx,rfl⟩:=h
 refine ⟨⟨by show (1:Int)≤2; decide,by show (2:Int)≤17; decide⟩,⟨rfl,fun y hy=>?_⟩,⟨rfl,fun y hy=>by simp at hy⟩,rfl,fun v hv=>?_,rfl,?_⟩
 · simp only [List.mem_cons,List.not_mem_nil,or_false] at hy
   rcases hy with rfl | rfl
   · exact h1
   · exact h2
 · simp only [List.mem_singleton] at hv
   subst hv
   exact za8l hz
 · rw [if_neg (by simp [fourK])]
   exact ⟨by simp [h3],by simp⟩
def DSK (z:Int) (S:PSk) (n:Nat) (prs:List (Int×Int)):Prop:=S.pts.length=n∧(∀p∈S.pts,VP p)∧S.cir=[]∧S.seg=[]∧S.arc=[]∧S.chn=[]∧DCL z S.con prs
theorem DSK.vs {z:Int} (hz:decOk (some ((z:Int):Rat))=true) {S:PSk} {n:Nat} {prs:List (Int×Int)} (h:DSK z S n prs) (hp:∀e∈prs,0≤e.1∧e.1<e.2∧e.2<n):VS S:=by
 obtain ⟨h1,h2,h3,h4,h5,h6,h7⟩:=h
 refine ⟨h2,by simp [h3],by simp [h4],by simp [h5],by simp [h6],?_⟩
 exact h7.all fun c e he hd=>by
  have:=hp e he
  exact hd.vc hz (by omega) (by omega) (by omega)
theorem DSK.ss {z:Int} {S:PSk} {n:Nat} {prs:List (Int×Int)} (h:DSK z S n prs) (hn:n≤10) (hp:prs.length≤20):sSk S:=by
 obtain ⟨h1,h2,h3,h4,h5,h6,h7⟩:=h
 exact ⟨by omega,by simp [h3],by simp [h4],by simp [h5],by simp [h6],by rw [h7.len]; exact hp,by simp [h6],h7.all fun c e _ hd=>hd.sc⟩
def prs:Nat→List (Int×Int)
 | 0=>[]
 | i+1=>prs i++(List.range i).map fun k:Nat=>((k:Int),(i:Int))
section
variable {h : Hp} {K : TSketch → Hp → Prop}
theorem za6d {h:Hp} {a b:Addr} {p q z:Int} {x:TRat} (ha:∀i v,([.int .i64 p,.int .i64 q]:List Value)[i]?=some v→h.cell (a.add i)=some v)
 (hb:∀i v,([.int .i64 1,.bool x.num.neg,.slice x.num.mag.a x.num.mag.len x.num.mag.cap,.bool x.den.neg,.slice x.den.mag.a x.den.mag.len x.den.mag.cap,.string emptyS,.slice nilS.a nilS.len nilS.cap]:List Value)[i]?=some v→h.cell (b.add i)=some v)
 (hz:z.natAbs<4294967296) (hx:NR h x ((z:Int):Rat)):CO h ⟨2,⟨some a,2,2⟩,nilS,⟨some b,1,1⟩,0⟩ ⟨2,[p,q],[],[numE x z],0⟩:=by
 refine ⟨rfl,⟨zea (size:=1) (n:=2) ha rfl,Nat.le_refl _⟩,IL.nil,⟨[⟨1,x,emptyS,nilS⟩],zea (size:=7) (n:=1) hb rfl,Nat.le_refl _,rfl,fun k k1 k2=>?_⟩,rfl⟩
 have:k=0:=by simp at k1; omega
 subst this
 exact EX.mk ⟨1,x,emptyS,nilS⟩ (some ((z:Int):Rat)) [] [] (hx.or (zpa hz) (by decide)) Rd.nil (Nat.le_refl _) rfl (fun k h1 _=>by simp at h1)
end
section
variable {h : Hp} {s : TSketch} {S : PSk} {Kb : Bool → Hp → Prop}
end
end Den
end

section
namespace Den
open Go Iv Lx
theorem keepP.mono {l:List Int} {item:Int} {R Q:List Int} (hs:∀x∈R,x∈Q) (h:keepP l item Q):keepP l item R:=⟨h.1,fun x hx hr=>h.2 x hx (hs x hr)⟩
theorem zun {its:List (List Int)} {item:Int} {R Q:List Int} (hs:∀x∈R,x∈Q):∀k,(remN its item Q k).Sublist (remN its item R k)
 | 0=>List.Sublist.refl _
 | k+1=>by
   unfold remN
   refine List.Sublist.append (zun hs k) ?_
   by_cases h:keepP (its.getD k []) item Q
   · rw [if_pos h,if_pos (h.mono hs)]; exact List.Sublist.refl _
   · rw [if_neg h]; exact List.nil_sublist _
theorem za7c {L:List PCon} {l m:List Int} (h:l.Sublist m):wtL L l≤wtL L m:=by
 unfold wtL
 induction h with
 | slnil=>exact Nat.le_refl _
 | cons a _ ih=>simp only [List.map_cons,List.sum_cons]; omega
 | cons_cons a _ ih=>simp only [List.map_cons,List.sum_cons]; omega
theorem canP.mono {L:List PCon} {cs:List Int} {R Q:List Int} {item:Int} (h:canP L cs R item) (hs:∀x∈R,x∈Q) (hq:item∉Q):canP L cs Q item:=by
 have hsub:(remL (L.map fun c=>itemsC c cs) item Q).Sublist (remL (L.map fun c=>itemsC c cs) item R):=zun hs _
 exact ⟨hq,Nat.le_trans (za7c hsub) h.2.1,fun i hi=>h.2.2 i (hsub.subset hi)⟩
theorem zs2 {can:List Int→Int→Bool} {pref:List Int} (hcn:∀R i,can R i=true→i∉R):∀{f:Nat} {R:List Int},(leftL pref R).length≤f→pref.find? (can (peelF can pref f R))=none
 | 0,R,h=>by
   unfold peelF
   rw [List.find?_eq_none]
   intro x hx hc
   have h1:=hcn _ _ hc
   have:x∈leftL pref R:=List.mem_filter.2 ⟨hx,by simpa using h1⟩
   have:=List.length_pos_of_mem this
   omega
 | f+1,R,h=>by
   cases hq:pref.find? (can R) with
   | none=>rw [zib hcn h hq]; exact hq
   | some i=>
     obtain ⟨g,hg,e1,e2⟩:=zk2 hcn h hq
     have:g=f:=by omega
     subst this
     rw [e1]; exact zs2 hcn e2
theorem zs3 {S:PSk} {pref:List Int} {x:Int} (hx:x∈pref):¬canP (allC S) (cens S) (peelS S pref) x:=by
 have e:leftL pref []=pref:=by unfold leftL; rw [List.filter_eq_self]; simp
 have:=zs2 (can:=canB (allC S) (cens S)) (pref:=pref) zsz (f:=pref.length) (R:=[]) (by rw [e]; exact Nat.le_refl _)
 rw [List.find?_eq_none] at this
 intro hc
 exact this x hx (decide_eq_true hc)
end Den
end

section
namespace Den
open Go Iv Lx
theorem OI.set {D h:Hp} {l:Sl} {xs:List Int} {i v:Int} {K:Hp→Prop} (k:Nat) (ho:OI D h l xs) (hi:i=k) (hk:k<xs.length) (H:∀h',OI D h' l (xs.set k v)→K h'):idxP l i 1 fun a=>stP a [.int .i64 v] K h:=by
 have e:∀ys:List Int,ys.map ic=ys.flatMap fun z=>[ic z]:=fun ys=>by induction ys<;>simp_all
 unfold OI at ho
 rw [e] at ho
 refine zxb (c:=fun z:Int=>[ic z]) (n:=1) (fun _=>rfl) (by decide) k ho hi hk rfl fun h' h1 _=>H h' ?_
 unfold OI
 rw [e]; exact h1
section
variable {h : Hp} {s : TSketch} {S : PSk} {K : Bool → Hp → Prop}
theorem za6v {h0:Hp} {l:Sl} {xs:List Int} {x:Int} {T:Bool×Int×Unit→Hp→Prop} (hl:IL h0 l xs) (hlen:xs.length≤1000000) (H:∀st,st.1=decide (x∈xs)→T st h0) :
 (loopP (S:=Bool×Int×Unit) (fun s15 k16 h8=>
 (ifP (decide (s15.2.1<(l.len:Int)))
 (joinP (S:=Bool×Unit) (fun s17 h9=>
 (k16 (s17.1,(IntKind.i64.wrap (s15.2.1+1)),()) h9))
 (fun k18=>
 (idxP l s15.2.1 1 fun a19=>
 (ldL (.int .i64) a19 (fun x20=>
 (ifP s15.1
 (k18 (true,()) h8)
 (k18 ((x==x20),()) h8))) h8))))
 (T s15 h8)))
 (false,0,()) h0):=by
  have hll:=hl.len
  refine zcw (n:=xs.length) (by omega) (fun i b h'=>h'=h0∧b=decide (x∈xs.take i)) ⟨rfl,by simp⟩ ?_
  rintro i b h1 hi ⟨rfl,hb⟩ k hk2
  refine za0 (fun h2=>?_) (fun h2=>?_)
  · have hi':i<xs.length:=by simp only at h2; omega
    refine za5 (fun s h'=>h'=h1∧s.1=decide (x∈xs.take (i+1))) (fun s h' hs=>hk2 _ _ hi' hs) ?_
    refine hl.get i rfl hi' ?_
    have e:(x∈xs.take (i+1))↔x∈xs.take i∨x=xs[i]:=by rw [←List.take_append_getElem hi',List.mem_append,List.mem_singleton]
    refine za6 (fun h3=>⟨rfl,?_⟩) (fun h3=>⟨rfl,?_⟩)
    · simp only at h3
      rw [hb] at h3
      exact (decide_eq_true (e.2 (.inl (of_decide_eq_true h3)))).symm
    · simp only at h3
      rw [hb] at h3
      have hn:=of_decide_eq_false h3
      show (x==xs[i])=_
      rw [Bool.eq_iff_iff,beq_iff_eq,decide_eq_true_iff,e]
      exact ⟨fun hh=>.inr hh,fun hh=>hh.resolve_left hn⟩
  · have:i=xs.length:=by simp only at h2; omega
    subst this
    rw [List.take_length] at hb
    exact H _ hb
end
end Den
end

section
namespace Den
open Go Iv Lx Go.Proofs
open Go.ChangeShapes Go.WideShapes Go.ChangeAt Go.RowKit
section
variable {H : Type} {enc : TypeId × Value → H} {w : World} {cs : List Value}
theorem zabk {s:Sl} (h:Okt enc Tryz.prog w 32 [Lf.sl.up s]):(∃T,IL (hpW w) s T∧∀z∈T,-9223372036854775808≤z∧z≤9223372036854775807)∧True:=by
 obtain ⟨s',xs,hs,h1,h2⟩:=zu9 h
 have e:s=s':=by
  simp only [List.cons.injEq,and_true] at hs
  exact Lf.up_inj hs
 subst e
 exact ⟨⟨xs,h1,h2⟩,trivial⟩
end
end Den
end

section
namespace Den
open Go Iv Lx
def keepT (l:List Int) (item:Int) (T:List Int):Prop:=item∈l∧∀x∈l,x∈T
instance (l:List Int) (item:Int) (T:List Int):Decidable (keepT l item T):=by unfold keepT; infer_instance
def remTN (its:List (List Int)) (item:Int) (T:List Int):Nat→List Int
 | 0=>[]
 | k+1=>remTN its item T k++(if keepT (its.getD k []) item T then [(k:Int)] else [])
def remT (its:List (List Int)) (item:Int) (T:List Int):List Int:=remTN its item T its.length
def oddL (L:List PCon) (cs:List Int) (item:Int) (l:List Int):List Int:=l.filter fun i=>decide (¬suitP (L.getD i.toNat dC) cs item)
def prevT (S:PSk) (item:Int) (T:List Int):List Int:=
 if most item<wtL (allC S) (remT (its S) item T) then remT (its S) item T else oddL (allC S) (cens S) item (remT (its S) item T)
theorem zx2 {S:PSk} (hs:sSk S) (hv:VS S) {k:Nat} (hk:k<(its S).length) {x:Int} (hx:x∈(its S)[k]):x∈allS S:=by
 rw [zj0] at hk
 have hok:=(ziy hv hs _ (List.getElem_mem hk)).1
 have hx:x∈itemsC (allC S)[k] (cens S):=by simpa [its] using hx
 unfold itemsC at hx
 unfold allS
 rw [zmu]
 rcases List.mem_append.1 hx with hx | hx
 · exact .inl (hok.2.1.2 x hx)
 · obtain ⟨j,hj,hx⟩:=List.mem_flatMap.1 hx
   have hj2:=hok.2.2.1.2 j hj
   have h3:x=-1-j∨x=(cens S).getD j.toNat 0:=by
    unfold itK at hx
    split at hx
    · simpa using hx
    · exact .inl (by simpa using hx)
   rcases h3 with rfl | rfl
   · right; omega
   · left
     have hcl:=zky (S:=S)
     have h4:j.toNat<(cens S).length:=by omega
     rw [zbd h4]
     have h5:(cens S)[j.toNat]=(S.cir[j.toNat]'(by omega)).1:=by simp [cens]
     rw [h5]
     exact (hv.2.1 _ (List.getElem_mem _)).1
theorem za5c {S:PSk} (hs:sSk S) (hv:VS S) {item:Int} {T R:List Int} (hT:∀x∈allS S,x∈T↔x∉R):remT (its S) item T=remL (its S) item R:=by
 unfold remT remL
 suffices H:∀k,k≤(its S).length→remTN (its S) item T k=remN (its S) item R k from H _ (Nat.le_refl _)
 intro k
 induction k with
 | zero=>intro _; rfl
 | succ k ih=>
   intro hk
   unfold remTN remN
   rw [ih (by omega)]
   have hg:(its S).getD k []=(its S)[k]:=zbd hk
   have e:keepT ((its S).getD k []) item T↔keepP ((its S).getD k []) item R:=by
    rw [hg]
    unfold keepT keepP
    exact and_congr_right fun _=>⟨fun h x hx=>(hT x (zx2 hs hv hk hx)).1 (h x hx),fun h x hx=>(hT x (zx2 hs hv hk hx)).2 (h x hx)⟩
   by_cases h:keepP ((its S).getD k []) item R
   · rw [if_pos h,if_pos (e.2 h)]
   · rw [if_neg h,if_neg (fun hh=>h (e.1 hh))]
theorem zn0 {S:PSk} (hs:sSk S) (hv:VS S) {item:Int} {T R:List Int} (hT:∀x∈allS S,x∈T↔x∉R) (hi:item∉R):prevT S item T=[]↔canP (allC S) (cens S) R item:=by
 have e:(allC S).map (fun c=>itemsC c (cens S))=its S:=rfl
 unfold prevT canP
 rw [za5c hs hv hT,e]
 constructor
 · intro h
   split at h
   · rename_i h1
     rw [h] at h1
     simp [wtL] at h1
   · rename_i h1
     refine ⟨hi,by omega,fun i hi=>Classical.byContradiction fun hn=>?_⟩
     have:i∈oddL (allC S) (cens S) item (remL (its S) item R):=List.mem_filter.2 ⟨hi,by simpa using hn⟩
     rw [h] at this; cases this
 · rintro ⟨_,h1,h2⟩
   rw [if_neg (by omega)]
   unfold oddL
   rw [List.filter_eq_nil_iff]
   intro i hi
   simpa using h2 i hi
theorem zy5 {α:Type} {p:α→Bool} {i:α}:[i].filter p=if p i=true then [i] else []:=by
 cases h:p i<;>simp [List.filter,h]
section
variable {h : Hp} {s : TSketch} {S : PSk} {x : TConstraint} {c : PCon} {cs : List Int} {ce : Sl} {item : Int} {T : List Int} {ts : Sl} {Kb : Bool → Hp → Prop} {Ki : Int → Hp → Prop} {Ks : Sl → Hp → Prop} {K : (Sl × Sl) → Hp → Prop}
def coreS (S:PSk):List Int:=leftL (allS S) (peelS S (allS S))
theorem zrm {S:PSk} (hs:sSk S):(coreS S).length≤20:=Nat.le_trans (List.length_filter_le _ _) (zp7 hs)
def inAll (l T:List Int):Prop:=∀x∈l,x∈T
instance (l T:List Int):Decidable (inAll l T):=by unfold inAll; infer_instance
def wiN (its:List (List Int)) (T:List Int):Nat→List Int
 | 0=>[]
 | k+1=>wiN its T k++(if inAll (its.getD k []) T then [(k:Int)] else [])
def wiS (S:PSk) (T:List Int):List Int:=wiN (its S) T (its S).length
theorem zxf (its:List (List Int)) (T:List Int):∀k,(wiN its T k).length≤k
 | 0=>by simp [wiN]
 | k+1=>by
   unfold wiN
   have:=zxf its T k
   rw [List.length_append]
   split<;>simp<;>omega
def CORE (h:Hp) (S:PSk) (r:Sl×Sl):Prop:=(VS S∧coreS S≠[]∧IL h r.1 (coreS S)∧IL h r.2 (wiS S (coreS S)))∨((¬VS S∨coreS S=[])∧r=(nilS,nilS))
end
end Den
end

section
namespace Den
open Go Iv Lx
section
variable {h D : Hp} {s : TSketch} {S : PSk} {x : TConstraint} {c : PCon} {cs : List Int} {ce l rs : Sl} {item : Int} {R xs : List Int} {p1 p2 : Addr} {Kb : Bool → Hp → Prop} {Ki : Int → Hp → Prop} {Ks : Sl → Hp → Prop} {K : (Sl × Sl) → Hp → Prop}
theorem zwk (hx:SK h s S) (hs:sSk S) (hv:VS S) (hl:IL h l xs) (hlen:xs.length≤1000) (H:∀y h',h.le h'→IL h' y (wiS S xs)→Ks y h'):callP (F.zjh s l) Ks h:=by
 refine za1 (fun y h'=>IL h' y (wiS S xs)) (fun K' hk=>?_) fun b h' hl hb=>H b h' hl hb
 unfold F.zjh
 have hal:=zmh hs
 have hok:=ziy hv hs
 have hcl:=zky (S:=S)
 have s2:=hs.2.1
 refine zd1 fun p1 h1 hl1 c1=>?_
 refine zsc (hx.le hl1) hs fun r2 h2 hl2 hC=>?_
 have hle2:=Hp.le_trans hl1 hl2
 refine zzb (hx.le hle2) hv hs fun r3 h3 hl3 hL=>?_
 have hle3:=Hp.le_trans hle2 hl3
 have hLl:=hL.len zaw
 refine zcw (n:=(allC S).length) (by omega) (fun i y h'=>OI h3 h' y (wiN (its S) xs i)) OI.nil ?_
 intro i z h4 hi ho k hk2
 have hle:=Hp.le_trans hle3 ho.dle
 refine za0 (fun h5=>?_) (fun h5=>?_)
 · have hi':i<(allC S).length:=by simp only at h5; omega
   refine za5 (fun s h'=>OI h3 h' s.1 (wiN (its S) xs (i+1))) (fun s h' hs=>hk2 _ _ hi' hs) ?_
   refine (hL.le zaw ho.dle).get zaw i rfl hi' fun a x hxx hcx=>⟨_,hcx 0 _ rfl,_,hcx 1 _ rfl,_,hcx 2 _ rfl,_,hcx 3 _ rfl,_,hcx 4 _ rfl,?_⟩
   have hg:(its S).getD i []=itemsC (allC S)[i] (cens S):=by
    rw [zbd (by rw [zj0]; exact hi')]
    simp [its]
   have hstep:wiN (its S) xs (i+1)=wiN (its S) xs i++(if inAll (itemsC (allC S)[i] (cens S)) xs then [(i:Int)] else []):=by
    conv=>lhs; unfold wiN
    rw [hg]
   have hrl:=zxf (its S) xs i
   have hokc:=hok _ (List.getElem_mem hi')
   have hlen2:=zq9 (cs:=cens S) hokc.2
   refine zvn (x:=x) hxx (hC.il.le (Hp.le_trans hl3 ho.dle)) hokc.2 hokc.1.cirOk (by omega) fun r10 h6 hl6 ho6=>?_
   have hoz:=ho.le hl6
   have l16:h1.le h6:=Hp.le_trans hl2 (Hp.le_trans hl3 hoz.dle)
   refine za1 (fun b h'=>b=true↔∃x∈itemsC (allC S)[i] (cens S),x∉xs) (fun K2 hk3=>?_) fun b h7 hl7 hb=>?_
   · unfold F.zcg
     refine za1 (fun r h'=>Fnd (fun x=>x∉xs) (itemsC (allC S)[i] (cens S)) r) (fun K4 hk4=>?_) fun r h' hl hr=>hk3 _ _ hl (by rw [decide_eq_true_iff]; exact hr.iff)
     unfold F.zck
     refine zi7 ho6.il (by omega) (fun x _ h7 hl7 K5 hK5=>?_) fun r h' hl hr=>hk4 _ _ hl hr
     refine za1 (fun b h'=>b=true↔x∉xs) (fun K6 hk6=>?_) fun b h8 hl8 hb=>hK5 _ _ hl8 hb
     unfold F.zk8
     have l17:=Hp.le_trans l16 hl7
     refine ⟨_,Hp.cell_le l17 c1,?_⟩
     exact zcy (hl.le (Hp.le_trans hl1 l17)) (by omega) fun h8 hl8=>hk6 _ _ hl8 (by simp)
   · have ho7:=hoz.le hl7
     refine za6 (fun h8=>?_) (fun h8=>?_)
     · have hkp:inAll (itemsC (allC S)[i] (cens S)) xs:=fun x hx=>Classical.byContradiction fun hn=>by rw [hb.2 ⟨x,hx,hn⟩] at h8; cases h8
       refine ho7.app (by omega) fun z h11 ho11=>?_
       show OI _ _ _ _
       rw [hstep,if_pos hkp]; exact ho11
     · have hkp:¬inAll (itemsC (allC S)[i] (cens S)) xs:=fun hh=>by
        obtain ⟨x,hx,hn⟩:=hb.1 (by simpa using h8)
        exact hn (hh x hx)
       show OI _ _ _ _
       rw [hstep,if_neg hkp,List.append_nil]; exact ho7
 · have:i=(allC S).length:=by simp only at h5; omega
   subst this
   refine hk _ _ hle ?_
   unfold wiS
   rw [zj0]; exact ho.il
theorem zri (hx:SK h s S) (hs:sSk S) (ht:GT h) (H:∀r h',h.le h'→CORE h' S r→K r h'):callP (F.zjx s) K h:=by
 refine za1 (fun r h'=>CORE h' S r) (fun K' hk=>?_) fun y h' hl hb=>H y h' hl hb
 unfold F.zjx
 refine zho hx hs ht fun r h1 hl1 hr=>?_
 refine zcc (fun h2=>hk _ _ hl1 (.inr ⟨.inl fun hv=>h2 (hr.2 hv),rfl⟩)) (fun h2=>?_)
 have hv:=hr.1 h2
 refine zrk (hx.le hl1) hs (ht.le hl1) (fun _ _ hn=>absurd hv hn) fun a b h3 hl3 _ ha hb=>?_
 have hle3:=Hp.le_trans hl1 hl3
 have hb:IL h3 b (coreS S):=hb
 have hbl:=hb.len
 have hcl:=zrm hs
 refine zae (fun h4=>hk _ _ hle3 (.inr ⟨.inr (List.eq_nil_of_length_eq_zero (by simp only at h4; omega)),rfl⟩)) (fun h4=>?_)
 refine zwk (hx.le hle3) hs hv hb (by omega) fun y h5 hl5 hy=>hk _ _ (Hp.le_trans hle3 hl5) (.inl ⟨hv,fun hh=>h4 ?_,hb.le hl5,hy⟩)
 rw [hh] at hbl
 simp only
 rw [hbl]; rfl
theorem znh (hx:SK h s S) (hs:sSk S) (ht:GT h) (H:∀b h',h.le h'→(b=true↔VS S∧coreS S=[])→Kb b h'):callP (F.zeu s) Kb h:=by
 refine za1 (fun b h'=>b=true↔VS S∧coreS S=[]) (fun K' hk=>?_) fun y h' hl hb=>H y h' hl hb
 unfold F.zeu
 refine zho hx hs ht fun r h1 hl1 hr=>?_
 refine zcc (fun h2=>hk _ _ hl1 ⟨fun hh=>(by cases hh),fun hh=>absurd (hr.2 hh.1) h2⟩) (fun h2=>?_)
 have hv:=hr.1 h2
 refine zrk (hx.le hl1) hs (ht.le hl1) (fun _ _ hn=>absurd hv hn) fun a b h3 hl3 _ ha hb=>hk _ _ (Hp.le_trans hl1 hl3) ?_
 have hb:IL h3 b (coreS S):=hb
 have hbl:=hb.len
 rw [beq_iff_eq]
 simp only
 constructor
 · intro h4
   exact ⟨hv,List.eq_nil_of_length_eq_zero (by omega)⟩
 · rintro ⟨_,h4⟩
   rw [h4] at hbl
   rw [hbl]; rfl
end
end Den
end

section
namespace Den
open Go Iv Lx
theorem za56 {D h:Hp} {n b:Nat} {l:Sl} {cs:List Value} {bl:Blk} (ho:Own D h n l cs) (hb:h b=some bl) (hne:∀a,l.a=some a→a.block≠b):Own (D.ins b bl) h n l cs:=by
 obtain ⟨g1,g2,g3,g4⟩:=ho
 refine ⟨fun k x hk=>?_,g2,g3,?_⟩
 · by_cases hkb:k=b
   · subst hkb
     rw [Hp.ins_same] at hk
     rw [hb]; exact hk
   · rw [Hp.ins_ne hkb] at hk; exact g1 _ _ hk
 · cases ha:l.a with
   | none=>rw [ha] at g4; exact g4
   | some a=>
     rw [ha] at g4
     obtain ⟨k1,k2,k3,k4⟩:=g4
     exact ⟨k1,k2,by rw [Hp.ins_ne (hne a ha)]; exact k3,k4⟩
theorem zue {D h:Hp} {n:Nat} {l:Sl} {cs:List Value} (ho:Own D h n l cs) {a:Addr} (ha:l.a=some a):D a.block=none:=by
 obtain ⟨_,_,_,g4⟩:=ho
 rw [ha] at g4
 exact g4.2.2.1
theorem zqe {h:Hp} {b:Nat} {v:Value} (hm:MB h b [v]):h.cell ⟨b,0,none⟩=some v:=by
 have:=hm.ld 0 rfl
 rwa [zb7] at this
theorem zt0 {D h:Hp} {b:Nat} {y:Sl} {xs:List Int} {z:Int} {K:Hp→Prop} (hm:MB h b [Lf.sl.up y]) (ho:OI D h y xs) (hDb:D b=none) (hyb:∀a,y.a=some a→a.block≠b) (hlen:xs.length≤100000)
 (H:∀w h',MB h' b [Lf.sl.up w]→OI D h' w (xs++[z])→(∀a,w.a=some a→a.block≠b)→K h') :
 ldL .sl (⟨b,0,none⟩:Addr) (fun x10=>appP 1 8 [.int .i64 0] x10 1 [.int .i64 z] (fun w11 h6=>stP (⟨b,0,none⟩:Addr) [.slice w11.a w11.len w11.cap] K h6) h) h:=by
 refine ⟨y,zqe hm,?_⟩
 have hyl:=ho.il.len
 have hbb:h b≠none:=by obtain ⟨e,hm⟩:=hm; rw [hm]; simp
 refine zkv ho (n:=1) (new:=[ic z]) rfl rfl rfl (by omega) (by omega) fun w h6 hw _ hs6 hb6=>?_
 have hm6:MB h6 b [Lf.sl.up y]:=by
  obtain ⟨e,hm⟩:=hm
  exact ⟨e,by rw [hs6 b hbb fun a ha=>(hyb a ha).symm]; exact hm⟩
 have hwb:∀a,w.a=some a→a.block≠b:=fun a ha hh=>by
  rcases hb6 a ha with ⟨a',h8,h9⟩ | h8
  · exact hyb a' h8 (by rw [h9]; exact hh)
  · rw [hh] at h8; exact hbb h8
 have key:=hm6.st (j:=0) (v:=Lf.sl.up w) (K:=K) (by simp) rfl fun h8 hm8 hs8=>H w h8 hm8 ?_ hwb
 · rw [zb7] at key
   exact key
 · obtain ⟨e8,hm8'⟩:=hm8
   rw [znu hm8' hs8]
   have:OI D h6 w (xs++[z]):=by
    unfold OI
    rw [List.map_append]
    exact hw
   exact zl6 this hDb hwb
def befI (a b:Int):Prop:=if 0≤a then (if 0≤b then a<b else True) else (if 0≤b then False else b<a)
def certP (S:PSk) (xs:List Int):Prop:=xs≠[]∧(∀x∈xs,x∈allS S)∧(∀j (hj:j+1<xs.length),befI xs[j] xs[j+1])∧∀x∈xs,prevT S x xs≠[]
def posI (n:Nat) (x:Int):Int:=if 0≤x then x else (n:Int)+(-1-x)
theorem za73 {n m:Nat} {a b:Int} (ha:a∈allI n m) (hb:b∈allI n m):posI n a<posI n b↔befI a b:=by
 rw [zmu] at ha hb
 unfold posI befI
 by_cases h1:0≤a<;>by_cases h2:0≤b<;>simp only [h1,h2,if_true,if_false,iff_true,iff_false]<;>omega
theorem zsv {n m k:Nat} (hk:k<(allI n m).length):posI n (allI n m)[k]=k:=by
 have hl:=hk
 rw [zsw] at hl
 have e:(allI n m)[k]'hk=((List.range n).map (fun i:Nat=>(i:Int))++(List.range m).map (fun i:Nat=>-1-(i:Int)))[k]'(by simpa using hl):=rfl
 rw [e]
 rcases Nat.lt_or_ge k n with h1 | h1
 · rw [List.getElem_append_left (by simpa using h1)]
   simp [posI]
 · rw [List.getElem_append_right (by simpa using h1)]
   simp only [List.getElem_map,List.getElem_range,List.length_map,List.length_range]
   unfold posI
   rw [if_neg (by omega)]
   omega
section
variable {h D : Hp} {s : TSketch} {S : PSk} {l rs : Sl} {item a b : Int} {R xs : List Int} {p1 p2 : Addr} {Kb : Bool → Hp → Prop} {Ki : Int → Hp → Prop} {Ks : Sl → Hp → Prop}
theorem ztu (H:∀r,(r<0↔befI a b)→Ki r h):callP (F.zih a b) Ki h:=by
 refine zjw (fun r=>r<0↔befI a b) (fun K' hk=>?_) H
 unfold F.zih
 have key:∀x y:Int,((if x<y then (-1:Int) else if y<x then 1 else 0)<0↔x<y):=fun x y=>by
  split
  · rename_i h; exact ⟨fun _=>h,fun _=>by decide⟩
  · rename_i h; exact ⟨fun hh=>by split at hh<;>omega,fun hh=>absurd hh h⟩
 have bef:(befI a b↔if 0≤a then (if 0≤b then a<b else True) else (if 0≤b then False else b<a)):=Iff.rfl
 refine za6 (fun h1=>?_) (fun h1=>?_)
 · refine zf4 (hk _ ?_)
   rw [key,bef]
   have h1:¬(a<0↔b<0):=by simpa using h1
   by_cases h2:0≤a<;>by_cases h3:0≤b<;>simp only [h2,h3,if_true,if_false,iff_true,iff_false]<;>omega
 · have h1:(a<0↔b<0):=by simpa using h1
   refine za0 (fun h2=>?_) (fun h2=>?_)
   · refine zf4 (hk _ ?_)
     rw [key,bef,if_neg (show ¬0≤a by omega),if_neg (show ¬0≤b by omega)]
   · refine zf4 (hk _ ?_)
     rw [key,bef,if_pos (show 0≤a by omega),if_pos (show 0≤b by omega)]
theorem zt6 {x:Int} (hc:h.cell p2=some (Lf.sl.up rs)) (hr:IL h rs R) (hlen:R.length≤1000) (H:∀h',h.le h'→Kb (decide (x∈R)) h'):callP (F.zfc x (some p2)) Kb h:=by
 refine za1 (fun b h'=>b=decide (x∈R)) (fun K' hk=>?_) fun b h' hl hb=>by subst hb; exact H h' hl
 unfold F.zfc
 exact ⟨_,hc,zcy hr (by omega) fun h' hl=>hk _ _ hl rfl⟩
theorem zt8 (ho:OI D h l xs) (hxl:xs.length≤1000) (hc:D.cell p2=some (Lf.sl.up rs)) (hr:IL D rs R) (hlen:R.length≤1000) (H:∀y h',OI D h' y (xs.filter fun x=>decide (x∉R))→Ks y h'):callM (F.zbw l (some p2,())) Ks h:=by
 refine zfn ?_
 unfold F.zbw
 refine za1 (fun r h'=>Fnd (fun x=>x∈R) xs r) (fun K2 hk=>?_) fun r h1 hl1 hr1=>?_
 · unfold F.zcp
   refine zi7 ho.il (by omega) (fun x _ h5 hl5 K5 hK5=>?_) fun r h' hl hr=>hk _ _ hl hr
   have hD5:=Hp.le_trans ho.dle hl5
   exact zt6 (Hp.cell_le hD5 hc) (hr.le hD5) hlen fun h6 hl6=>hK5 _ _ hl6 (by rw [decide_eq_true_iff])
 · exact zrp (G:=fun x=>F.zfc x (some p2,()).1) (ho.le hl1) hxl (fun x h' hl' K' hK'=>zt6 (Hp.cell_le hl' hc) (hr.le hl') hlen hK') hr1 H
theorem za4r (hx:SK h s S) (hs:sSk S) (hv:VS S) (ht:GT h) (c1:SKC h p1 s) (c2:h.cell p2=some (Lf.sl.up rs)) (hr:IL h rs R) (hR:R.length≤1000) (hl:IL h l xs) (hlen:xs.length≤1000) (hin:∀x∈xs,x∈allS S)
 (H:∀b h',h.le h'→(b=true↔∃x∈xs,canP (allC S) (cens S) R x)→Kb b h'):callP (F.zba l (some p1,some p2,())) Kb h:=by
 refine za1 (fun b h'=>b=true↔∃x∈xs,canP (allC S) (cens S) R x) (fun K' hk=>?_) fun b h' hl hb=>H b h' hl hb
 unfold F.zba
 refine za1 (fun r h'=>Fnd (fun x=>canP (allC S) (cens S) R x) xs r) (fun K4 hk4=>?_) fun r h' hl hr=>hk _ _ hl (by rw [decide_eq_true_iff]; exact hr.iff)
 unfold F.zcq
 refine zi7 hl (by omega) (fun x hxm h7 hl7 K5 hK5=>?_) fun r h' hl hr=>hk4 _ _ hl hr
 refine za1 (fun b h'=>b=true↔canP (allC S) (cens S) R x) (fun K6 hk6=>?_) fun b h8 hl8 hb=>hK5 _ _ hl8 hb
 unfold F.zkz
 have c7:=c1.le hl7
 refine ⟨_,c7 0 _ rfl,_,c7 1 _ rfl,_,c7 2 _ rfl,_,c7 3 _ rfl,_,c7 4 _ rfl,_,c7 5 _ rfl,?_⟩
 refine ⟨_,Hp.cell_le hl7 c2,?_⟩
 have hsm:=zqx hs (hin x hxm)
 unfold smI at hsm
 refine zqh (s:=s) (hx.le hl7) hs (ht.le hl7) (hr.le hl7) (by omega) (by omega) fun b h8 hl8 hb=>hk6 _ _ hl8 ?_
 rw [hb]
 exact ⟨fun hh=>hh.2.2,fun hh=>⟨hv,hin x hxm,hh⟩⟩
theorem zn6 (hx:SK h s S) (hs:sSk S) (ht:GT h) (hl:IL h l xs) (hlen:xs.length≤1000) (H:∀b h',h.le h'→(b=true↔VS S∧certP S xs)→Kb b h'):callP (F.zif s l) Kb h:=by
 refine za1 (fun b h'=>b=true↔VS S∧certP S xs) (fun K' hk=>?_) fun b h' hl hb=>H b h' hl hb
 unfold F.zif
 have no:∀h',h.le h'→¬(VS S∧certP S xs)→K' false h':=fun h' hl hn=>hk _ _ hl ⟨fun hh=>(by cases hh),fun hh=>absurd hh hn⟩
 have hll:=hl.len
 refine zg5 fun p1 h1 hl1 hc1=>zd1 fun p2 h2 hl2 hc2=>?_
 have hle2:=Hp.le_trans hl1 hl2
 have c1:SKC h2 p1 s:=fun i v hv=>Hp.cell_le hl2 (hc1 i v hv)
 refine za5 (fun _ h'=>h2.le h'∧VS S∧xs≠[]) ?_ ?_
 · rintro _ h3 ⟨hl3,hv,hne⟩
   have hle3:=Hp.le_trans hle2 hl3
   have c13:=c1.le hl3
   have c23:=Hp.cell_le hl3 hc2
   have hx3:=hx.le hle3
   have s1:=hs.1
   have s2:=hs.2.1
   have n1:=hx.1.len zed
   have n2:=hx.2.1.len zee
   intro b e hbf
   have l34:h3.le (h3.ins b ⟨[.slice nilS.a nilS.len nilS.cap],e,(0,0)⟩):=Hp.le_ins hbf
   refine ⟨_,Hp.cell_le l34 (c13 0 _ rfl),?_⟩
   refine zaj (fun st h'=>∃(i:Nat) (y:Sl),st=(some ⟨b,0,none⟩,(i:Int),())∧i≤S.pts.length∧MB h' b [Lf.sl.up y]∧OI h3 h' y ((List.range i).map fun i:Nat=>(i:Int))∧∀a,y.a=some a→a.block≠b)
    (fun st=>(S.pts.length-st.2.1).toNat) ⟨0,nilS,rfl,by omega,⟨e,Hp.ins_same _ _ _⟩,Own.nil l34,fun a ha=>by cases ha⟩ ?_
   rintro _ h5 ⟨i,y,rfl,hi,hm,ho,hyb⟩
   have l35:=ho.dle
   refine za0 (fun h6=>?_) (fun h6=>?_)
   · have hi':i<S.pts.length:=by simp only at h6; omega
     refine zt0 hm ho hbf hyb (by simp; omega) fun w h7 hm7 ho7 hwb=>⟨⟨i+1,w,by (try simp only); rw [w64 (by omega)]; rfl,by omega,hm7,?_,hwb⟩,by (try simp only); rw [w64 (by omega)]; omega⟩
     rw [List.range_succ,List.map_append]
     exact ho7
   have:i=S.pts.length:=by simp only at h6; omega
   subst this
   refine ⟨_,Hp.cell_le l35 (c13 1 _ rfl),?_⟩
   refine zaj (fun st h'=>∃(i:Nat) (y:Sl),st=(some ⟨b,0,none⟩,(i:Int),())∧i≤S.cir.length∧MB h' b [Lf.sl.up y]∧OI h3 h' y ((List.range S.pts.length).map (fun i:Nat=>(i:Int))++(List.range i).map fun i:Nat=>-1-(i:Int))∧∀a,y.a=some a→a.block≠b)
    (fun st=>(S.cir.length-st.2.1).toNat) ⟨0,y,rfl,by omega,hm,by simpa using ho,hyb⟩ ?_
   clear hm ho hyb l35 h6 hi
   rintro _ h5 ⟨i,y,rfl,hi,hm,ho,hyb⟩
   have l35:=ho.dle
   refine za0 (fun h6=>?_) (fun h6=>?_)
   · have hi':i<S.cir.length:=by simp only at h6; omega
     refine zt0 (z:=IntKind.i64.wrap (-1-(i:Int))) hm ho hbf hyb (by simp; omega) fun w h7 hm7 ho7 hwb=>⟨⟨i+1,w,by (try simp only); rw [w64 (by omega)]; rfl,by omega,hm7,?_,hwb⟩,by (try simp only); rw [w64 (by omega)]; omega⟩
     rw [List.range_succ,List.map_append,←List.append_assoc]
     rw [show IntKind.i64.wrap (-1-(i:Int))=-1-(i:Int) from w64 (by omega)] at ho7
     exact ho7
   have:i=S.cir.length:=by simp only at h6; omega
   subst this
   have ho:OI h3 h5 y (allS S):=ho
   have hal:=zp7 hs
   refine ⟨_,Hp.cell_le l35 c23,?_⟩
   refine zcx (n:=xs.length) (by omega) (fun i h'=>h5.le h'∧(∀j (hj:j<xs.length),j<i→xs[j]∈allS S)∧∀j (hj:j+1<xs.length),j+1<i→befI xs[j] xs[j+1]) ⟨Hp.le_refl _,fun j _ hj=>by omega,fun j _ hj=>by omega⟩ ?_
   rintro i h7 hi7 ⟨hl7,hno,hbe⟩ k hk2
   have l37:=Hp.le_trans l35 hl7
   have hle7:=Hp.le_trans hle3 l37
   have hm7:=hm.le hl7
   have ho7:=ho.le hl7
   refine za0 (fun h8=>?_) (fun h8=>?_)
   · have hi':i<xs.length:=by simp only at h8; omega
     have nx:xs[i]∉allS S→¬(VS S∧certP S xs):=fun hn hh=>hn (hh.2.2.1 _ (List.getElem_mem hi'))
     refine za5 (fun _ h'=>h5.le h'∧xs[i]∈allS S∧(∀hj:0<i,befI (xs[i-1]'(by omega)) xs[i])) (fun _ h' hh=>hk2 _ hi' ⟨hh.1,upto (P:=fun x=>x∈allS S) hno hi' hh.2.1,fun j hj hji=>?_⟩) ?_
     · rcases Nat.lt_or_ge (j+1) i with h5 | h5
       · exact hbe j hj h5
       · have:i=j+1:=by omega
         subst this
         exact hh.2.2 (by omega)
     refine (hl.le hle7).get i rfl hi' ?_
     refine ⟨_,zqe hm7,?_⟩
     refine zcy ho7.il (by omega) fun h9 hl9=>?_
     have l79:=Hp.le_trans hl7 hl9
     have hle9:=Hp.le_trans hle7 hl9
     refine za6 (fun h10=>no _ hle9 (nx fun hm=>by rw [decide_eq_true hm] at h10; cases h10)) (fun h10=>?_)
     have hmx:xs[i]∈allS S:=by simpa using h10
     refine za0 (fun h11=>?_) (fun h11=>⟨l79,hmx,fun hj=>by simp only at h11; omega⟩)
     have hi0:0<i:=by simp only at h11; omega
     refine ⟨_,Hp.cell_le (Hp.le_trans l37 hl9) c23,?_⟩
     simp only
     rw [show IntKind.i64.wrap ((i:Int)-1)=((i-1:Nat):Int) from by rw [w64 (by omega)]; omega]
     refine (hl.le hle9).get (i-1) rfl (by omega) ?_
     refine ztu fun r hr=>?_
     refine za0 (fun h12=>no _ hle9 fun hh=>?_) (fun h12=>⟨l79,hmx,fun _=>hr.1 (by omega)⟩)
     have:=hh.2.2.2.1 (i-1) (by omega)
     have e:i-1+1=i:=by omega
     simp only [e] at this
     have:=hr.2 this
     omega
   · have hii:i=xs.length:=by simp only at h8; omega
     have hin:∀x∈xs,x∈allS S:=upall (P:=fun x=>x∈allS S) hno (by omega)
     refine ⟨_,zqe hm7,?_⟩
     obtain ⟨e7,hm7'⟩:=hm7
     have ho7':=za56 ho7 hm7' hyb
     have ho7':OI (h3.ins b ⟨[Lf.sl.up y],e7,(0,0)⟩) h7 y (allS S):=ho7'
     have hDD:h3.le (h3.ins b ⟨[Lf.sl.up y],e7,(0,0)⟩):=Hp.le_ins hbf
     refine zt8 (p2:=p2) (rs:=l) (R:=xs) ho7' (by omega) (Hp.cell_le hDD c23) (hl.le (Hp.le_trans hle3 hDD)) hlen fun z h9 hz=>?_
     have hm9:MB h9 b [Lf.sl.up y]:=⟨e7,hz.dle _ _ (Hp.ins_same _ _ _)⟩
     have hzb:∀a,z.a=some a→a.block≠b:=fun a ha hh=>by
      have:=zue hz ha
      rw [hh,Hp.ins_same] at this; cases this
     have hz3:OI h3 h9 z ((allS S).filter fun x=>decide (x∉xs)):=OI.base hz hDD
     have key:=hm9.st (j:=0) (v:=Lf.sl.up z) (K:=fun h16=>ldL (.sl) p2 (fun x38=>callP (F.zba x38 (some p1,some ⟨b,0,none⟩,())) (fun r39 h17=>K' (!r39) h17) h16) h16) (by simp) rfl fun h10 hm10 hs10=>?_
     · rw [zb7] at key
       exact key
     · have hz10:OI h3 h10 z ((allS S).filter fun x=>decide (x∉xs)):=by
        obtain ⟨e8,hm8'⟩:=hm10
        rw [znu hm8' hs10]
        exact zl6 hz3 hbf hzb
       have l310:=hz10.dle
       have hle10:=Hp.le_trans hle3 l310
       refine ⟨_,Hp.cell_le l310 c23,?_⟩
       have hfl:((allS S).filter fun x=>decide (x∉xs)).length≤(allS S).length:=List.length_filter_le _ _
       refine za4r (s:=s) (R:=(allS S).filter fun x=>decide (x∉xs)) (hx.le hle10) hs hv (ht.le hle10) (c13.le l310) (zqe hm10) hz10.il (by omega) (hl.le hle10) hlen hin fun b9 h11 hl11 hb11=>hk _ _ (Hp.le_trans hle10 hl11) ?_
       have hT:∀x∈allS S,x∈xs↔x∉(allS S).filter fun x=>decide (x∉xs):=fun x hx=>by simp [List.mem_filter,hx]
       rw [Bool.not_eq_true',←Bool.not_eq_true,hb11]
       constructor
       · intro hn
         refine ⟨hv,hne,hin,fun j hj=>hbe j hj (by omega),fun x hxm hp=>hn ⟨x,hxm,(zn0 hs hv hT ?_).1 hp⟩⟩
         simp [List.mem_filter,hxm]
       · rintro hc ⟨x,hxm,hcan⟩
         exact hc.2.2.2.2 x hxm ((zn0 hs hv hT hcan.1).2 hcan)
 · refine ⟨_,c1 0 _ rfl,_,c1 1 _ rfl,_,c1 2 _ rfl,_,c1 3 _ rfl,_,c1 4 _ rfl,_,c1 5 _ rfl,?_⟩
   refine zho (s:=s) (hx.le hle2) hs (ht.le hle2) fun r h3 hl3 hr=>?_
   have hle3:=Hp.le_trans hle2 hl3
   refine zcc (fun h4=>no _ hle3 fun hh=>h4 (hr.2 hh.1)) (fun h4=>?_)
   refine ⟨_,Hp.cell_le hl3 hc2,?_⟩
   refine zae (fun h5=>no _ hle3 fun hh=>hh.2.1 (List.eq_nil_of_length_eq_zero (by (try simp only at h5); omega))) (fun h5=>⟨hl3,hr.1 h4,fun hh=>h5 ?_⟩)
   rw [hh] at hll
   (try simp only)
   rw [hll]; rfl
end
end Den
end

section
namespace Den
open Go Iv Lx
def a2c (e:A2_Int):List Value:=[.int .i64 e.c0,.int .i64 e.c1]
def A2P (h:Hp) (x:A2_Int) (b:Int×Int):Prop:=x.c0=b.1∧x.c1=b.2
theorem zej:Rec a2c 2 A2P:=⟨fun _=>rfl,by decide,fun _=>rfl,fun hx _=>hx⟩
def befE (a b:Int×Int):Prop:=a.1<b.1∨a.1=b.1∧a.2<b.2
def GV (n:Int) (es:List (Int×Int)):Prop:=(0≤n∧n≤60)∧(∀e∈es,0≤e.1∧e.1<e.2∧e.2<n)∧∀j (hj:j+1<es.length),befE es[j] es[j+1]
def degL (es:List (Int×Int)) (T:List Int) (i:Int):Nat:=es.countP fun e=>decide (e.1∈T)&&decide (e.2∈T)&&(e.1==i||e.2==i)
theorem zro {es:List (Int×Int)} {C T:List Int} {i:Int} (h:∀x∈C,x∈T):degL es C i≤degL es T i:=by
 unfold degL
 refine List.countP_mono_left fun e _ he=>?_
 simp only [Bool.and_eq_true,decide_eq_true_iff] at he ⊢
 exact ⟨⟨h _ he.1.1,h _ he.1.2⟩,he.2⟩
def rngI (n:Nat):List Int:=(List.range n).map fun i:Nat=>(i:Int)
theorem zl5 {n:Nat} {x:Int}:x∈rngI n↔0≤x∧x<n:=by
 unfold rngI
 rw [List.mem_map]
 constructor
 · rintro ⟨a,ha,rfl⟩
   rw [List.mem_range] at ha; omega
 · rintro ⟨h1,h2⟩
   exact ⟨x.toNat,List.mem_range.2 (by omega),by omega⟩
structure IsCore (n:Nat) (es:List (Int×Int)) (T:List Int):Prop where
 sub:T=(rngI n).filter fun x=>decide (x∈T)
 deg:∀i∈T,3≤degL es T i
 great:∀C:List Int,(∀i∈C,0≤i∧i<n)→(∀i∈C,3≤degL es C i)→∀i∈C,i∈T
theorem IsCore.mem {n:Nat} {es:List (Int×Int)} {T:List Int} (h:IsCore n es T) {i:Int} (hi:i∈T):0≤i∧i<n:=by
 have h1:=h.sub
 rw [h1] at hi
 exact zl5.1 (List.mem_filter.1 hi).1
theorem IsCore.unique {n:Nat} {es:List (Int×Int)} {T Q:List Int} (h:IsCore n es T) (k:IsCore n es Q):T=Q:=by
 have h1:=h.great Q (fun i hi=>k.mem hi) k.deg
 have h2:=k.great T (fun i hi=>h.mem hi) h.deg
 rw [h.sub,k.sub]
 exact List.filter_congr fun x _=>by
  have:x∈T↔x∈Q:=⟨h2 x,h1 x⟩
  simp only [this]
theorem zru {es:List (Int×Int)} {C T:List Int} {x:Int} (hC:∀i∈C,3≤degL es C i) (hT:∀i∈C,i∈T) (hx:degL es T x≤2):x∉C:=fun hm=>by
 have h1:=hC x hm
 have h2:=zro (es:=es) (i:=x) hT
 omega
section
variable {h D : Hp} {g : TGraph} {es : List (Int × Int)} {Kb : Bool → Hp → Prop} {Ki : Int → Hp → Prop} {Ks : Sl → Hp → Prop}
theorem zsg {a b:A2_Int} (H:∀r h',h.le h'→(r<0↔befE (a.c0,a.c1) (b.c0,b.c1))→Ki r h'):callP (F.zhv a b) Ki h:=by
 refine za1 (fun r h'=>r<0↔befE (a.c0,a.c1) (b.c0,b.c1)) (fun K' hk=>?_) fun b h' hl hb=>H b h' hl hb
 unfold F.zhv
 refine zf4 (zf4 ?_)
 obtain ⟨r1,hr1⟩:∃r1:Int,r1=if a.c0<b.c0 then -1 else if b.c0<a.c0 then 1 else 0:=⟨_,rfl⟩
 obtain ⟨r2,hr2⟩:∃r2:Int,r2=if a.c1<b.c1 then -1 else if b.c1<a.c1 then 1 else 0:=⟨_,rfl⟩
 rw [←hr1,←hr2]
 refine zg5 fun p3 h3 hl3 c3=>?_
 have hi:IL h3 ⟨some p3,2,2⟩ [r1,r2]:=⟨zea (size:=1) (n:=2) c3 rfl,Nat.le_refl _⟩
 have q1:(r1<0↔a.c0<b.c0)∧(r1=0↔a.c0=b.c0):=by rw [hr1]; split<;>(try split)<;>constructor<;>constructor<;>intro _<;>omega
 have q2:r2<0↔a.c1<b.c1:=by rw [hr2]; split<;>(try split)<;>constructor<;>intro _<;>omega
 have key:∀r:Int,(r1≠0→r=r1)→(r1=0→r2≠0→r=r2)→(r1=0→r2=0→r=0)→(r<0↔befE (a.c0,a.c1) (b.c0,b.c1)):=by
  intro r k1 k2 k3
  unfold befE
  simp only
  rw [←q1.1,←q1.2,←q2]
  by_cases e1:r1=0
  · by_cases e2:r2=0
    · have:=k3 e1 e2; omega
    · have:=k2 e1 e2; omega
  · have:=k1 e1; omega
 refine za1 (fun r h'=>(r1≠0→r=r1)∧(r1=0→r2≠0→r=r2)∧(r1=0→r2=0→r=0)) (fun K2 hk2=>?_) fun r h' hl hr=>hk _ _ (Hp.le_trans hl3 hl) (key r hr.1 hr.2.1 hr.2.2)
 unfold F.zmm
 refine zcx (n:=2) (by omega) (fun i h'=>h'=h3∧(0<i→r1=0)∧(1<i→r2=0)) ⟨rfl,by omega,by omega⟩ ?_
 rintro i h4 hi2 ⟨rfl,z1,z2⟩ k hk4
 refine za0 (fun h5=>?_) (fun h5=>?_)
 · have hi':i<2:=by have:(i:Int)<((2:Nat):Int):=h5; omega
   rcases (by omega:i=0∨i=1) with rfl | rfl
   · refine hi.get 0 rfl (by simp) ?_
     simp only [List.getElem_cons_zero]
     refine zcc (fun h6=>hk2 _ _ (Hp.le_refl _) ⟨fun _=>rfl,fun hh=>absurd hh h6,fun hh=>absurd hh h6⟩) (fun h6=>hk4 _ hi' ⟨rfl,fun _=>h6,by omega⟩)
   · have z:=z1 (by omega)
     refine hi.get 1 rfl (by simp) ?_
     simp only [List.getElem_cons_succ,List.getElem_cons_zero]
     refine zcc (fun h6=>hk2 _ _ (Hp.le_refl _) ⟨fun hh=>absurd z hh,fun _ _=>rfl,fun _ hh=>absurd hh h6⟩) (fun h6=>hk4 _ hi' ⟨rfl,fun _=>z,fun _=>h6⟩)
 · have:i=2:=by have:¬(i:Int)<((2:Nat):Int):=h5; omega
   subst this
   exact hk2 _ _ (Hp.le_refl _) ⟨fun hh=>absurd (z1 (by omega)) hh,fun _ hh=>absurd (z2 (by omega)) hh,fun _ _=>rfl⟩
theorem zwv {n i:Int} (H:∀b,(b=true↔0≤i∧i<n)→Kb b h):callP (F.zjz n i) Kb h:=by
 refine zjw (fun b=>b=true↔0≤i∧i<n) (fun K' hk=>?_) H
 unfold F.zjz
 exact za0 (fun h1=>hk _ (by rw [decide_eq_true_iff]; omega)) (fun h1=>hk _ ⟨fun hh=>(by cases hh),fun hh=>by omega⟩)
theorem zw2 (hg:LR a2c 2 A2P h g.edges es) (hlen:es.length≤140737488355328) (H:∀b h',h.le h'→(b=true↔GV g.n es)→Kb b h'):callP (F.zjj g) Kb h:=by
 refine za1 (fun b h'=>b=true↔GV g.n es) (fun K' hk=>?_) fun b h' hl hb=>H b h' hl hb
 unfold F.zjj
 have no:∀h',h.le h'→¬GV g.n es→K' false h':=fun h' hl hn=>hk _ _ hl ⟨fun hh=>(by cases hh),fun hh=>absurd hh hn⟩
 have hl:=hg.len zej
 refine za5 (fun _ h'=>h'=h∧0≤g.n∧g.n≤60) ?_ ?_
 · rintro _ h0 ⟨rfl,n0,n1⟩
   refine zcx (n:=es.length) hlen (fun i h'=>h0.le h'∧(∀j (hj:j<es.length),j<i→0≤es[j].1∧es[j].1<es[j].2∧es[j].2<g.n)∧∀j (hj:j+1<es.length),j+1<i→befE es[j] es[j+1]) ⟨Hp.le_refl _,fun j _ hj=>by omega,fun j _ hj=>by omega⟩ ?_
   rintro i h2 hi ⟨hl2,hno,hbe⟩ k hk2
   refine za0 (fun h3=>?_) (fun h3=>?_)
   · have hi':i<es.length:=by simp only at h3; omega
     have nx:¬(0≤es[i].1∧es[i].1<es[i].2∧es[i].2<g.n)→¬GV g.n es:=fun hn hh=>hn (hh.2.1 _ (List.getElem_mem hi'))
     refine za5 (fun _ h'=>h0.le h'∧(0≤es[i].1∧es[i].1<es[i].2∧es[i].2<g.n)∧(∀hj:0<i,befE (es[i-1]'(by omega)) es[i])) (fun _ h' hh=>hk2 _ hi' ⟨hh.1,upto (P:=fun e:Int×Int=>0≤e.1∧e.1<e.2∧e.2<g.n) hno hi' hh.2.1,fun j hj hji=>?_⟩) ?_
     · rcases Nat.lt_or_ge (j+1) i with h5 | h5
       · exact hbe j hj h5
       · have:i=j+1:=by omega
         subst this
         exact hh.2.2 (by omega)
     refine (hg.le zej hl2).get zej i rfl hi' fun a x hxx hcx=>⟨_,hcx 0 _ rfl,_,hcx 1 _ rfl,?_⟩
     obtain ⟨x1,x2⟩:=hxx
     rw [x1,x2]
     refine zwv fun b hb=>za6 (fun h4=>no _ hl2 (nx fun hh=>by rw [hb.2 ⟨hh.1,by omega⟩] at h4; cases h4)) (fun h4=>?_)
     have b1:=hb.1 (by simpa using h4)
     refine zwv fun b2 hb2=>za6 (fun h5=>no _ hl2 (nx fun hh=>by rw [hb2.2 ⟨by omega,hh.2.2⟩] at h5; cases h5)) (fun h5=>?_)
     have b2':=hb2.1 (by simpa using h5)
     refine za0 (fun h6=>no _ hl2 (nx fun hh=>by have h6:es[i].1≥es[i].2:=h6; omega)) (fun h6=>?_)
     have h6:¬es[i].1≥es[i].2:=h6
     have ok:0≤es[i].1∧es[i].1<es[i].2∧es[i].2<g.n:=by omega
     refine za0 (fun h7=>?_) (fun h7=>⟨hl2,ok,fun hj=>by simp only at h7; omega⟩)
     have hi0:0<i:=by simp only at h7; omega
     simp only
     rw [show IntKind.i64.wrap ((i:Int)-1)=((i-1:Nat):Int) from by rw [w64 (by omega)]; omega]
     refine (hg.le zej hl2).get zej (i-1) rfl (by omega) fun a2 y hyy hcy=>⟨_,hcy 0 _ rfl,_,hcy 1 _ rfl,?_⟩
     obtain ⟨y1,y2⟩:=hyy
     refine zsg (a:=⟨y.c0,y.c1⟩) (b:=⟨es[i].1,es[i].2⟩) fun r h8 hl8 hr=>?_
     have hle8:=Hp.le_trans hl2 hl8
     simp only at hr
     rw [y1,y2] at hr
     refine za0 (fun h9=>no _ hle8 fun hh=>?_) (fun h9=>⟨hle8,ok,fun _=>hr.1 (by omega)⟩)
     have:=hh.2.2 (i-1) (by omega)
     have e:i-1+1=i:=by omega
     simp only [e] at this
     have:=hr.2 this
     omega
   · refine hk _ _ hl2 ⟨fun _=>⟨⟨n0,n1⟩,upall (P:=fun e:Int×Int=>0≤e.1∧e.1<e.2∧e.2<g.n) hno (by simp only at h3; omega),fun j hj=>hbe j hj (by simp only at h3; omega)⟩,fun _=>rfl⟩
 · refine za0 (fun h1=>no _ (Hp.le_refl _) fun hh=>by have:=hh.1.1; omega) (fun h1=>za0 (fun h2=>no _ (Hp.le_refl _) fun hh=>by have:=hh.1.2; omega) (fun h2=>⟨rfl,by omega,by omega⟩))
theorem znp {es:List (Int×Int)} {e:Int×Int} {T:List Int} {i:Int}:degL (es++[e]) T i=degL es T i+(if e.1∈T∧e.2∈T∧(e.1=i∨e.2=i) then 1 else 0):=by
 unfold degL
 rw [List.countP_append]
 congr 1
 rw [List.countP_singleton]
 by_cases h:e.1∈T∧e.2∈T∧(e.1=i∨e.2=i)
 · rw [if_pos h,if_pos (by simp [h.1,h.2.1]; exact h.2.2)]
 · rw [if_neg h,if_neg]
   intro hh
   simp only [Bool.and_eq_true,decide_eq_true_iff,Bool.or_eq_true,beq_iff_eq] at hh
   exact h ⟨hh.1.1,hh.1.2,hh.2⟩
theorem za6f {es:List (Int×Int)} {T:List Int} {i:Int}:degL es T i≤es.length:=List.countP_le_length
end
end Den
end

section
namespace Den
open Go Iv Lx Go.Proofs
open Go.ChangeShapes Go.WideShapes Go.ChangeAt Go.RowKit
section
variable {H : Type} {enc : TypeId × Value → H} {w : World} {cs : List Value}
end
end Den
end

section
namespace Den
open Go
noncomputable def bd (fn:Func):Code:=match fn.body with | some c=>c | none=>.skip
section
variable {α ρ : Type} {A : ArgT α} {R : Ty ρ} {F : α → (ρ → Hp → Prop) → Hp → Prop} {g : Nat} {fn : Func}
theorem eo (C:Cfg) (an:An) (hf:C.P.funcs[g]?=some fn) (hC:Tab C C.tab) (hBk:BackTab C.P C.backs:=by exact trivial)
 (hb:fn.body=some (bd fn):=by exact rfl) (hn:fn.ntmps=C.n:=by exact rfl) (hname:(fn.name == "runtime.NumGoroutine")=false:=by decide) (ha:∀a,Nat.ble (A.up a).length C.n=true:=by exact fun _=>rfl)
 (hF:∀a K D,denF C fn (bd fn) an (A.up a) (fun v h=>R.dn v fun r=>K r h) D=F a K D:=by intro a K D; kernel_rfl):Entry C.P g (mkE A R F) false:=za4t hC hBk hf hb hn hname ha hF
theorem eoM (C:Cfg) (an:An) (hf:C.P.funcs[g]?=some fn) (hC:Tab C C.tab) (hBk:BackTab C.P C.backs:=by exact trivial)
 (hb:fn.body=some (bd fn):=by exact rfl) (hn:fn.ntmps=C.n:=by exact rfl) (hname:(fn.name == "runtime.NumGoroutine")=false:=by decide) (ha:∀a,Nat.ble (A.up a).length C.n=true:=by exact fun _=>rfl)
 (hF:∀a K D,denF C fn (bd fn) an (A.up a) (fun v h=>R.dn v fun r=>K r h) D=F a K D:=by intro a K D; kernel_rfl):Entry C.P g (mkM A R F) true:=za2a hC hBk hf hb hn hname ha hF
end
end Den
end

section
namespace Den
open Go Go.RowKit Go.Shelf
open Go.Proofs
attribute [local go_sem] Oper.semAt_some
set_option maxRecDepth 100000 in
set_option maxHeartbeats 2000000 in
theorem zz8:BackFn Tryz.prog 257 (.leaf (.int .u32)):=by
 refine ⟨enters_of Tryz.func257 (by kernel_rfl) rfl,?_⟩
 rintro l ab ⟨xa,xl,xc⟩ J w hxl h0 hbox hround
 simp only at hxl h0 hbox hround
 have hb0:=hbox _ _ h0
 refine callsIn_of_wp Tryz.func257 rfl trivial ?_ rfl
 simp only [Tryz.ntmps257,List.size_toArray,List.length_cons,List.length_nil,Nat.reduceAdd,Nat.reduceSub,Array.replicate_succ,Array.replicate_zero,List.push_toArray,List.append_toArray,List.nil_append,List.cons_append]
 gi_wp2
 gi_loopw [3] (fun i wr=>∃k:Nat,k≤xl∧i=.int .i64 ((k:Int)-1)∧J k wr) (fun i _=>(intOf i+1).toNat)
 case atStart=>exact ⟨xl,Nat.le_refl _,rfl,h0⟩
 case round=>
  obtain ⟨k,hk,rfl,hJ⟩:=hrel
  have hbx:=hbox _ _ hJ
  cases k with
  | zero=>
    gi_wp2
    go_end0
    exact ⟨⟨_,rfl⟩,hJ⟩
  | succ j=>
    obtain ⟨ad,v,hxa,hcells,f,tmps1,asg,body,hy,hR⟩:=hround j wr (by omega) hJ
    subst hxa
    have hc0:wr.cell? (ad.add j)=some (.int .u32 v):=by
     have:=hcells 0 (.int .u32 v) rfl
     simpa [STy.size] using this
    have hkj:(((j+1:Nat):Int)-1)=(j:Int):=by omega
    rw [hkj]
    simp only [STy.val,Lf.up] at hy
    gi_wp2
    refine ⟨rfl,hR.mono ?_⟩
    rintro e W3 ⟨rfl,hJ3⟩
    gi_wp2
    go_roundw
    case rel=>exact ⟨j,by omega,by simp,hJ3⟩
    case measure=>simp [intOf]
end Den
end
