/-
  Part 5 of the tools and contracts from which the statement is proved.
-/
import Derived.Test.YtijmjfcnjfnpgaaGreatDoorPartr4
import Derived.Test.YtijmjfcnjfnpgaaGreatDoorChecked
import Derived.Test.YtijmjfcnjfnpgaaGreatDoorTie
import Derived.LaidMore
import Derived.MakeChecks
import Derived.SevenTiedAt
set_option linter.all false
open Go.IntKind
open Nat renaming le_refl→Ja,mul_le_mul_right→Jj,lt_or_ge→Jo,mul_one→J7,zero_add→Gi
open List renaming getElem?_eq_getElem→Jc,length_append→Je,getD_eq_getElem?_getD→Jf,getElem_mem→Jh,take_append_getElem→Jk,length_take→Jl,eq_nil_of_length_eq_zero→Jn,range→Jp,mem_append_left→Jq,mem_cons→Ju,take_length→Jw,take_append_of_le_length→Jx,all_eq_true→Jz,length_cons→J3,mem_singleton→J6,getElem_cons_zero→Ua,mem_append→Ub,map_append→Uf,getElem?_append_left→Uh,append_assoc→Uq,flatMap_cons→Ur,mem_cons_of_mem→Us,mem_range→Uv,getElem?_map→Uw,map_cons→U3,mem_iff_getElem→Gh,length_singleton→Gr,append_nil→Gt,getElem?_drop→Gy,flatMap_append→G5,mem_filter→Ta,getElem_append_right→Te,getElem_append_left→Tk,drop_drop→T7,filter_eq_self→P7
open Classical renaming byContradiction→Jy
open Option.some renaming inj→J9
open Bool renaming not_eq_true'→Gc,not_eq_true→Tr
open Go.Value renaming int→Ge
open Option renaming isSome_iff_exists→G8
open Array renaming getElem?_toList→Tl
open Go.DataW renaming trod→Pb
section
namespace Den
open Go Iv Lx
theorem zc1{h:Hp}{Ki:Int->Hp->Prop}{body:(Int×Unit)->((Int×Unit)->Hp->Prop)->Hp->Prop}{n:Nat}{g:Nat->Prop}(hn:n<=140737488355328)
 (hb:∀(i:Nat) h' (k:(Int×Unit)->Hp->Prop),h.le h'->i<n->(∀b h'',h'.le h''->(b=true↔g i)->ifP b (Ki (i:Int) h'') (k (i64.wrap ((i:Int)+1),()) h''))->body ((i:Int),()) k h')
 (he:∀h' (k:(Int×Unit)->Hp->Prop),Ki (-1) h'->body ((n:Int),()) k h')
 (H:∀r h',h.le h'->(0<=r↔∃i,i<n/\g i)->Ki r h'):zn body (0,()) h:=by
 refine yg hn (λi h'=>h.le h'/\∀j,j<i->¬g j) ⟨Hp.le_refl _,λj hj=>by omega⟩ ?_;rintro i h1 hi ⟨hl1,hno⟩ k hk2;by_cases hi':i<n
 . refine hb i h1 k hl1 hi' λb h2 hl2 hbg=>?_
   refine zi (λh3=>H _ _ (Hp.le_trans hl1 hl2) ⟨λ_=>⟨i,hi',hbg.1 h3⟩,λ_=>by omega⟩) (λh3=>hk2 _ hi' ⟨Hp.le_trans hl1 hl2,λj hj=>?_⟩);rcases Jo j i with h5 | h5
   . exact hno j h5
   . have:j=i:=by omega
     subst this;intro hg;rw[hbg.2 hg]at h3;cases h3
 . obtain rfl:i=n:=by omega
   exact he h1 k (H _ _ hl1 ⟨λhh=>by omega,λ⟨j,hj,hg⟩=>absurd hg (hno j hj)⟩)
def eqP{α:Type}(h:Hp)(x b:α):Prop:=x=b
def ptc(x:TPoint):List Value:=[.bool x.x.num.neg,Lf.sl.up x.x.num.mag,.bool x.x.den.neg,Lf.sl.up x.x.den.mag,.bool x.y.num.neg,Lf.sl.up x.y.num.mag,.bool x.y.den.neg,Lf.sl.up x.y.den.mag]
def rdc(x:TRound):List Value:=[.int .i64 x.center,.bool x.radius.num.neg,Lf.sl.up x.radius.num.mag,.bool x.radius.den.neg,Lf.sl.up x.radius.den.mag]
def sgc(x:TSegment):List Value:=[.int .i64 x.a,.int .i64 x.b]
def Zde(x:TArc):List Value:=[.int .i64 x.circle,.int .i64 x.a,.int .i64 x.b,.bool x.cw]
def pic(x:TPiece):List Value:=[.bool x.arc,.int .i64 x.index,.bool x.back]
def slc(x:Sl):List Value:=[Lf.sl.up x]
def PTT(h:Hp)(x:TPoint)(b:Option Rat×Option Rat):Prop:=OR h x.x b.1/\OR h x.y b.2
def RN(h:Hp)(x:TRound)(b:Int×Option Rat):Prop:=x.center=b.1/\OR h x.radius b.2
def CHN(h:Hp)(x:Sl)(ps:List TPiece):Prop:=LR pic 3 eqP h x ps
theorem z13:Rec ptc 8 PTT:=⟨λ_=>rfl,by decide,λ_=>rfl,λhx hl=>⟨hx.1.le hl,hx.2.le hl⟩⟩
theorem z31:Rec rdc 5 RN:=⟨λ_=>rfl,by decide,λ_=>rfl,λhx hl=>⟨hx.1,hx.2.le hl⟩⟩
theorem z6h:Rec sgc 2 eqP:=⟨λ_=>rfl,by decide,λ_=>rfl,λhx hl=>hx⟩
theorem z0o:Rec Zde 4 eqP:=⟨λ_=>rfl,by decide,λ_=>rfl,λhx hl=>hx⟩
theorem zch:Rec pic 3 eqP:=⟨λ_=>rfl,by decide,λ_=>rfl,λhx hl=>hx⟩
theorem z3j:Rec slc 1 CHN:=⟨λ_=>rfl,by decide,λ_=>rfl,λhx hl=>LR.le zch hx hl⟩
structure PSk where
 pts:List (Option Rat×Option Rat)
 cir:List (Int×Option Rat)
 seg:List TSegment
 arc:List TArc
 chn:List (List TPiece)
 con:List PCon
def SK(h:Hp)(s:TSketch)(S:PSk):Prop:=
 LR ptc 8 PTT h s.points S.pts/\LR rdc 5 RN h s.circles S.cir/\LR sgc 2 eqP h s.segments S.seg/\LR Zde 4 eqP h s.arcs S.arc/\LR slc 1 CHN h s.chains S.chn/\LR cc 5 CO h s.constraints S.con
theorem SK.le{h h':Hp}{s:TSketch}{S:PSk}(hx:SK h s S)(hl:h.le h'):SK h' s S:=
 ⟨hx.1.le z13 hl,hx.2.1.le z31 hl,hx.2.2.1.le z6h hl,hx.2.2.2.1.le z0o hl,hx.2.2.2.2.1.le z3j hl,hx.2.2.2.2.2.le yw hl⟩
def sSk(S:PSk):Prop:=S.pts.length<=10/\S.cir.length<=10/\S.seg.length<=10/\S.arc.length<=10/\S.chn.length<=10/\S.con.length<=20/\(∀c∈S.chn,c.length<=20)/\∀c∈S.con,sC c
def zbi(n:Nat)(i:Int):Prop:=0<=i/\i<n
def cen(S:PSk)(i:Int):Int:=(S.cir.getD i.toNat (0,none)).1
def z6k(S:PSk)(p:TPiece):Int×Int:=
 let q:=if p.arc=true then ((S.arc.getD p.index.toNat ⟨0,0,0,false⟩).a,(S.arc.getD p.index.toNat ⟨0,0,0,false⟩).b)else ((S.seg.getD p.index.toNat ⟨0,0⟩).a,(S.seg.getD p.index.toNat ⟨0,0⟩).b)
 if p.back=true then (q.2,q.1)else q
def okP(S:PSk)(p:TPiece):Prop:=zbi (if p.arc=true then S.arc.length else S.seg.length) p.index
def VCh(S:PSk)(c:List TPiece):Prop:=c≠[]/\(∀p∈c,okP S p)/\∀i (h:i+1<c.length),(z6k S c[i]).2=(z6k S c[i+1]).1
def VA(S:PSk)(a:TArc):Prop:=zbi S.cir.length a.circle/\zbi S.pts.length a.a/\zbi S.pts.length a.b/\a.a≠cen S a.circle/\a.b≠cen S a.circle
def VR(S:PSk)(c:Int×Option Rat):Prop:=zbi S.pts.length c.1/\∃q,c.2=some q/\0<q.num
def VG(S:PSk)(g:TSegment):Prop:=zbi S.pts.length g.a/\zbi S.pts.length g.b/\g.a≠g.b
def VP(p:Option Rat×Option Rat):Prop:=p.1.isSome=true/\p.2.isSome=true
def VS(S:PSk):Prop:=(∀p∈S.pts,VP p)/\(∀c∈S.cir,VR S c)/\(∀g∈S.seg,VG S g)/\(∀a∈S.arc,VA S a)/\(∀c∈S.chn,VCh S c)/\∀c∈S.con,VC c S.pts.length S.cir.length
theorem qf{α:Type}{l:List α}{i:Nat}{d:α}(h:i<l.length):l.getD i d=l[i]:=by rw[Jf,Jc h];rfl
theorem zh5{α:Type}{l:List α}{P:α->Prop}:(∃i,i<l.length/\∃h:i<l.length,¬P l[i])↔¬∀x∈l,P x:=by
 constructor
 . rintro⟨i,hi,h,hn⟩ hh;exact hn (hh _ (Jh h))
 . intro hh;apply Jy;intro hn;exact hh λx hx=>by
    obtain⟨i,hi,rfl⟩:=Gh.1 hx;exact Jy λhp=>hn ⟨i,hi,hi,hp⟩
section
variable {h : Hp} {s : TSketch} {S : PSk} {Kb : Bool → Hp → Prop} {Ki : Int → Hp → Prop} {l : Sl}
theorem z5s{n:Nat}{i:Int}(H:∀b,(b=true↔zbi n i)->Kb b h):zc (F.Vq (n:Int) i) Kb h:=by
 refine zd (λb h'=>h'=h/\(b=true↔zbi n i)) (λK' hk=>?_) λb h' _ hb=>by obtain⟨rfl,hb⟩:=hb;exact H b hb
 unfold F.Vq;refine ze (λh1=>hk _ _ (Hp.le_refl _) ⟨rfl,by rw[decide_eq_true_iff];exact⟨λhh=>⟨h1,hh⟩,λhh=>hh.2⟩⟩) (λh1=>hk _ _ (Hp.le_refl _) ⟨rfl,λhh=>(by cases hh),λhh=>absurd hh.1 h1⟩)
theorem z3c{n:Nat}{i:Int}(H:∀b,(b=true↔zbi n i)->Kb b h):zc (F.V1 (n:Int) i) Kb h:=z5s H
theorem zot(hx:SK h s S)(hs:sSk S)(H:∀h',h.le h'->Kb false h'):zc (F.z42 s) Kb h:=by
 refine zd (λb h'=>b=false) (λK' hk=>?_) λb h' hl hb=>by subst hb;exact H h' hl
 unfold F.z42;obtain⟨x1,x2,x3,x4,x5,x6⟩:=hx;obtain⟨s1,s2,s3,s4,s5,s6,s7,s8⟩:=hs;have l1:=x1.len z13;have l2:=x2.len z31;have l3:=x3.len z6h;have l4:=x4.len z0o;have l5:=x5.len z3j;have l6:=x6.len yw;refine zcf λa h1 hl1 hc=>?_
 have hr:IL h1 ⟨some a,6,6⟩ [(s.points.len:Int),s.circles.len,s.segments.len,s.arcs.len,s.chains.len,s.constraints.len]:=⟨z3w hc rfl,Ja _⟩;refine yg (n:=6) (by omega) (λi h'=>h'=h1) rfl ?_;rintro i h1 hi rfl k hk2;refine ze (λh2=>?_) (λh2=>?_)
 . have hi':i<6:=by have:(i:Int)<6:=h2;omega
   have hall:∀z∈([(s.points.len:Int),s.circles.len,s.segments.len,s.arcs.len,s.chains.len,s.constraints.len]:List Int),z<=20:=by
    simp only[Ju,List.not_mem_nil,or_false,forall_eq_or_imp,forall_eq];omega
   have h9:=hall _ (Jh (show i<([(s.points.len:Int),s.circles.len,s.segments.len,s.arcs.len,s.chains.len,s.constraints.len]:List Int).length from hi'));refine hr.get i rfl hi' (ze (λh3=>?_) (λh3=>hk2 _ hi' rfl));exfalso;have h3:_>(200:Int):=h3;omega
 . refine zd (λb h'=>b=false) (λK2 hk3=>?_) λb h' hl hb=>hk _ _ (Hp.le_trans hl1 hl) hb
   unfold F.ye;refine zd (λr h'=>¬0<=r) (λK4 hk4=>?_) λr h' hl hr=>hk3 _ _ hl (decide_eq_false hr)
   unfold F.yq;refine zc1 (n:=S.chn.length) (g:=λi=>False) (by omega) (λi h' k hl hi' hb=>?_) (λh' k hk=>ze (λhh=>by simp only at hh;omega) (λ_=>hk)) (λr h' hl hr=>hk4 _ _ hl (λhh=>by obtain⟨_,_,hf⟩:=hr.1 hh;exact hf));refine ze (λ_=>?_) (λhh=>by simp only at hh;omega);refine(x5.le z3j (Hp.le_trans hl1 hl)).get z3j i rfl hi' λb x hxx hcc=>?_
   have e0:=hcc 0 _ rfl;rw[Zw]at e0;refine⟨_,e0,?_⟩;have hxl:=LR.len zch hxx;have:=s7 _ (Jh hi');refine zx false (λK' hk=>?_) (hb false _ (Hp.le_refl _) (by simp));unfold F.z4v;rw[decide_eq_false (by omega)];exact hk
theorem Z1c(hx:SK h s S)(hs:sSk S)(H:∀h',h.le h'->Kb false h'):zc (F.zas s) Kb h:=by
 refine zd (λb h'=>b=false) (λK' hk=>?_) λb h' hl hb=>by subst hb;exact H h' hl
 unfold F.zas;obtain⟨x1,x2,x3,x4,x5,x6⟩:=hx;obtain⟨s1,s2,s3,s4,s5,s6,s7,s8⟩:=hs;have l1:=x1.len z13;have l2:=x2.len z31;have l3:=x3.len z6h;have l4:=x4.len z0o;have l5:=x5.len z3j;have l6:=x6.len yw;refine yg (n:=S.chn.length) (by omega) (λi h'=>h'=h) rfl ?_;rintro i h hi rfl k hk2;refine ze (λh2=>?_) (λh2=>?_)
 . have hi':i<S.chn.length:=by simp only at h2;omega
   refine x5.get z3j i rfl hi' λb x hxx hcc=>?_
   have e0:=hcc 0 _ rfl;rw[Zw]at e0;refine⟨_,e0,?_⟩;have hxl:=LR.len zch hxx;have:=s7 _ (Jh hi');exact ze (λhh=>by omega) (λ_=>hk2 _ hi' rfl)
 . refine ze (λhh=>by omega) λ_=>ze (λhh=>by omega) λ_=>ze (λhh=>by omega) λ_=>ze (λhh=>by omega) λ_=>ze (λhh=>by omega) λ_=>hk _ _ (Hp.le_refl _) (decide_eq_false (by omega))
theorem Zah{p:TPiece}{K:(Int×Int)->Hp->Prop}(hx:SK h s S)(hp:okP S p)(H:K (z6k S p) h):F.z65 s p K h:=by
 unfold F.z65;obtain⟨x1,x2,x3,x4,x5,x6⟩:=hx;unfold okP zbi at hp;unfold z6k at H;refine zh (λst h'=>h'=h/\(st.1,st.2.1)=(if p.arc=true then ((S.arc.getD p.index.toNat ⟨0,0,0,false⟩).a,(S.arc.getD p.index.toNat ⟨0,0,0,false⟩).b)else ((S.seg.getD p.index.toNat ⟨0,0⟩).a,(S.seg.getD p.index.toNat ⟨0,0⟩).b))) ?_ ?_
 . rintro⟨a,b,_⟩ h ⟨rfl,hab⟩;simp only at hab H;rw[<-hab]at H;refine zi (λh1=>?_) (λh1=>?_)
   . rw[if_pos h1]at H;exact H
   . rw[h1]at H;exact H
 . refine zi (λh1=>?_) (λh1=>?_)
   . rw[if_pos h1]at hp;have hk:p.index.toNat<S.arc.length:=by omega
     refine x4.get z0o p.index.toNat (by omega) hk λa x hxx hc=>⟨_,hc 1 _ rfl,x4.get z0o p.index.toNat (by omega) hk λb y hyy hc2=>⟨_,hc2 2 _ rfl,rfl,?_⟩⟩
     have e1:x=S.arc[p.index.toNat]:=hxx;have e2:y=S.arc[p.index.toNat]:=hyy;subst e1;rw[if_pos h1,qf hk,e2]
   . rw[h1]at hp;simp only[Bool.false_eq_true,if_false]at hp;have hk:p.index.toNat<S.seg.length:=by omega
     refine x3.get z6h p.index.toNat (by omega) hk λa x hxx hc=>⟨_,hc 0 _ rfl,x3.get z6h p.index.toNat (by omega) hk λb y hyy hc2=>⟨_,hc2 1 _ rfl,rfl,?_⟩⟩
     have e1:x=S.seg[p.index.toNat]:=hxx;have e2:y=S.seg[p.index.toNat]:=hyy;subst e1;rw[h1,qf hk,e2];rfl
theorem zls{p:TPiece}{K:(Int×Int)->Hp->Prop}(hx:SK h s S)(hp:okP S p)(H:K (z6k S p) h):zc (F.z65 s p) K h:=zx _ (λK' hk=>Zah hx hp hk) H
theorem zlc{p:TPiece}{K:(Int×Int)->Hp->Prop}(hx:SK h s S)(hp:okP S p)(H:K (z6k S p) h):zc (F.zar s p) K h:=zls hx hp H
end
end Den
end

section
namespace Den
open Go Iv Lx Go.Proofs
open Go.ChangeShapes Go.WideShapes Go.ChangeAt Go.RowKit
theorem Zpd:laidOutB Tryz.prog=true:=by kernel_rfl
theorem Zk4:mapsRowed Tryz.prog=true:=by kernel_rfl
theorem Zk6:zxi Tryz.prog=true:=by kernel_rfl
theorem Zi9:Tryz.prog.cellsOf 4=1:=by kernel_rfl
theorem zyp:Tryz.prog.cellsOf 3=1:=by kernel_rfl
section
variable {H : Type} {enc : TypeId × Value → H} {P : Program} {w : World}
theorem zzd{α β:Type}{c:α->List Value}{Q:α->β->Prop}{R:List Value->Prop}(hel:∀cs,R cs->∃x b,cs=c x/\Q x b):∀{css:List (List Value)},(∀d∈css,R d) ->
 ∃(xs:List α) (ps:List β),css.flatten=xs.flatMap c/\xs.length=ps.length/\css.length=xs.length/\∀k (h1:k<xs.length) (h2:k<ps.length),Q xs[k] ps[k]
 | [],_=>⟨[],[],rfl,rfl,rfl,λk h1 _=>by simp at h1⟩
 | d :: r,h=>by
   obtain⟨xs,ps,h1,h2,h3,h4⟩:=zzd hel (css:=r) λx hx=>h x (Us _ hx)
   obtain⟨x,b,hx,hq⟩:=hel d (h d (by simp));refine⟨x :: xs,b :: ps,?_,by simp[h2],by simp[h3],λk k1 k2=>?_⟩
   . rw[List.flatten_cons,h1,hx];rfl
   . cases k with
     | zero=>exact hq
     | succ k=>exact h4 k (by simpa using k1) (by simpa using k2)
theorem Wl{cs a r:List Value}{o k:Nat}(h1:(cs.drop o).take k=a)(h2:cs.drop (o+k)=r):cs.drop o=a++r:=by
 rw[<-h1,<-h2,<-T7,List.take_append_drop]
theorem zgv{cs:List Value}{n:Nat}(h:cs.length=n):cs.drop n=[]:=List.drop_of_length_le (by omega)
end
section
variable {H : Type} {enc : TypeId × Value → H} {w : World} {cs : List Value}
end
theorem Zsa{P:Program}{W:World}{r:Reach}{b:Nat}{t:TypeId}{v:Value}(h:Value.okWide P W r b t v)(hu:isAgg? P t=some true):∃c:List Value,v=.agg c.toArray/\v.cells.toList=c:=by
 unfold isAgg? at hu;unfold Value.okWide at h;split at h
 . obtain⟨cs,rfl,_⟩:=h;exact⟨cs.toList,by simp,by simp[Value.cells]⟩
 . obtain⟨cs,rfl,_⟩:=h;exact⟨cs.toList,by simp,by simp[Value.cells]⟩
 . rename_i h1 h2;split at hu
   . rename_i hh;exact absurd hh (h1 _)
   . rename_i hh;exact absurd hh (h2 _ _)
   . cases hu
   . cases hu
end Den
end

section
namespace Den
open Go Iv Lx Go.Proofs Go.Proofs.YtijmjfcnjfnpgaaGreatDoor
open Go.ChangeShapes Go.WideShapes Go.ChangeAt Go.RowKit
theorem z6t{P:Program}{w:World}:∀{l:List (String×DataW Unit)} {ps:List MemPlace},DataW.LaidVars P w l ps->∀{n:String} {d:DataW Unit},(n,d)∈l ->
 ∃g t cs fuel p,P.globalNamed n=some g/\(P.globals[g]?).map (·.type)=some t/\w.var? P n=some cs/\Pb (λ_=>()) P w 0 (λ_=>true) false fuel t cs.toList=some (d,p)
 | [],_,_,_,_,hm=>by simp at hm
 | (n0,d0) :: r,_,⟨g,t,cs,fuel,p,q,h1,h2,h3,h4,h5,_⟩,n,d,hm=>by
   rcases Ju.1 hm with e | hm
   . cases e;exact⟨g,t,cs,fuel,p,h1,h2,h3,h4⟩
   . exact z6t h5 hm
section
variable {H : Type} {enc : TypeId × Value → H} {P : Program} {w : World} {base : Nat} {sp : Nat → Bool} {held : Bool} {n : Nat} {t e : TypeId} {cs : List Value} {ps : List MemPlace}
theorem zfr{k:IntKind}{ns:List Int}{m:Nat}(ht:P.underlying t=some (.array m e))(he:P.underlying e=some (.int k))(hc:P.cellsOf e=1)
 (h:Pb enc P w base sp held n t cs=some (.agg (ns.map λz=>.lit (.int k z)),ps)):∀i,i<ns.length->cs[i]?=some (.int k (ns.getD i 0)):=by
 obtain⟨xs,q,_,hx,hl,hxl,hf⟩:=DataW.trod_array ht h;simp only[Prod.mk.injEq,DataW.agg.injEq]at hx;intro i hi;have hxs:xs.length=ns.length:=by have:=congrArg List.length hx.1;simpa using this.symm
 have h1:=hf i (by omega);rw[hc,J7,Jc (by omega)]at h1;have h2:xs[i].1=.lit (.int k ns[i]):=by
  have:=congrArg (λl:List (DataW H)=>l[i]?) hx.1;simp only[Uw]at this;rw[Jc hi,Jc (by omega)]at this;exact(J9 this).symm
 obtain⟨z,e1,e2,_⟩:=DataW.trod_int he h1;rw[e2]at h2;have hz:z=ns[i]:=by simpa using h2
 have h3:((cs.drop i).take 1)[0]?=some (.int k z):=by rw[e1];rfl
 rw[hz]at h3;have e4:ns.getD i 0=ns[i]:=by rw[Jf,Jc hi];rfl
 rw[e4];simpa [List.getElem?_take,Gy] using h3
theorem ztq{cs a:List Value}{o k j:Nat}{v:Value}(h:(cs.drop o).take k=a)(hv:a[j]?=some v):cs[o+j]?=some v:=by
 rw[<-h]at hv;rw[List.getElem?_take]at hv;split at hv
 . rw[Gy]at hv;exact hv
 . cases hv
theorem zdh{k:IntKind}{z:Int}(he:P.underlying t=some (.int k))(h:Pb enc P w base sp held n t cs=some (.lit (.int k z),ps)):cs=[.int k z]:=by
 obtain⟨y,e1,e2,_⟩:=DataW.trod_int he h;simp only[Prod.mk.injEq,DataW.lit.injEq,Lit.int.injEq]at e2;rw[e1,e2.1.2]
theorem zef{b:Bool}(he:P.underlying t=some .bool)(h:Pb enc P w base sp held n t cs=some (.lit (.bool b),ps)):cs=[.bool b]:=by
 obtain⟨y,e1,e2⟩:=DataW.trod_bool he h;simp only[Prod.mk.injEq,DataW.lit.injEq,Lit.bool.injEq]at e2;rw[e1,e2.1]
end
theorem zup(g i:Nat):(⟨g,0,none⟩:Addr).add i=⟨g,i,none⟩:=by
 have h1:=Yr (⟨g,0,none⟩:Addr) i;have h2:=X4 (⟨g,0,none⟩:Addr) i;have h3:=z0e (a:=(⟨g,0,none⟩:Addr)) rfl i;cases hh:(⟨g,0,none⟩:Addr).add i with
 | mk a b c=>
   rw[hh]at h1 h2 h3;simp only at h1 h2 h3;subst h1 h2 h3;simp
theorem Zse:Tryz.prog.globalNamed "internal/strconv.uint64pow10"=some 2:=by kernel_rfl
theorem Zsd:Tryz.prog.globalNamed "setsquare/formula.operands"=some 1:=by kernel_rfl
theorem Zsf:Tryz.prog.globalNamed "setsquare/constraint.table"=some 0:=by kernel_rfl
theorem Zso:(Tryz.prog.globals[2]?).map (·.type)=some 401:=by kernel_rfl
theorem Zsn:(Tryz.prog.globals[1]?).map (·.type)=some 309:=by kernel_rfl
theorem Zsp:(Tryz.prog.globals[0]?).map (·.type)=some 265:=by kernel_rfl
theorem Zpq:Tryz.prog.cellsOf 203=1:=by kernel_rfl
theorem Zpo:Tryz.prog.cellsOf 264=8:=by kernel_rfl
theorem Zf4:Tryz.prog.cellsOf 214=7:=by kernel_rfl
section
variable {W : World}
theorem Zji{H:Type}{enc:TypeId×Value->H}{n:Nat}{c:List Value}{nm:DataW H}{a b d e:Int}{f g k:Bool}{ps:List MemPlace}
 (h:Pb enc Tryz.prog W 0 (λ_=>true) false n 264 c=some (.agg [nm,.agg [.lit (.int .i64 a),.lit (.int .i64 b),.lit (.int .i64 d),.lit (.int .i64 e),.lit (.bool f),.lit (.bool g),.lit (.bool k)]],ps)) :
 ∀j v,([.int .i64 a,.int .i64 b,.int .i64 d,.int .i64 e,.bool f,.bool g,.bool k]:List Value)[j]?=some v->c[1+j]?=some v:=by
 obtain⟨xs,m,_,hx,hl,hxl,hf⟩:=DataW.trod_struct Tryz.underlying264 h;simp only[Prod.mk.injEq,DataW.agg.injEq]at hx;have h1:Pb enc Tryz.prog W 0 (λ_=>true) false m 214 ((c.drop 1).take (Tryz.prog.cellsOf 214))=xs[1]?:=hf 1 _ rfl;rw[Zf4]at h1
 match xs,hx with
 | [x0,x1],hx=>
   simp only[U3,List.map_nil,List.cons.injEq,and_true]at hx;obtain⟨⟨_,hx1⟩,_⟩:=hx;simp only[List.getElem?_cons_succ,List.getElem?_cons_zero]at h1;obtain⟨d1,p1⟩:=x1;simp only at hx1;subst hx1;obtain⟨ys,q,_,hy,hyl,hyl2,hg⟩:=DataW.trod_struct Tryz.underlying214 h1;simp only[Prod.mk.injEq,DataW.agg.injEq]at hy
   match ys,hy with
   | [y0,y1,y2,y3,y4,y5,y6],hy=>
     simp only[U3,List.map_nil,List.cons.injEq,and_true]at hy;obtain⟨⟨z0,z1,z2,z3,z4,z5,z6⟩,_⟩:=hy;have g0:Pb enc Tryz.prog W 0 (λ_=>true) false q 3 ((((c.drop 1).take 7).drop 0).take (Tryz.prog.cellsOf 3))=some y0:=hg 0 _ rfl;have g1:Pb enc Tryz.prog W 0 (λ_=>true) false q 3 ((((c.drop 1).take 7).drop 1).take (Tryz.prog.cellsOf 3))=some y1:=hg 1 _ rfl;have g2:Pb enc Tryz.prog W 0 (λ_=>true) false q 3 ((((c.drop 1).take 7).drop 2).take (Tryz.prog.cellsOf 3))=some y2:=hg 2 _ rfl;have g3:Pb enc Tryz.prog W 0 (λ_=>true) false q 3 ((((c.drop 1).take 7).drop 3).take (Tryz.prog.cellsOf 3))=some y3:=hg 3 _ rfl;have g4:Pb enc Tryz.prog W 0 (λ_=>true) false q 4 ((((c.drop 1).take 7).drop 4).take (Tryz.prog.cellsOf 4))=some y4:=hg 4 _ rfl;have g5:Pb enc Tryz.prog W 0 (λ_=>true) false q 4 ((((c.drop 1).take 7).drop 5).take (Tryz.prog.cellsOf 4))=some y5:=hg 5 _ rfl;have g6:Pb enc Tryz.prog W 0 (λ_=>true) false q 4 ((((c.drop 1).take 7).drop 6).take (Tryz.prog.cellsOf 4))=some y6:=hg 6 _ rfl;rw[zyp]at g0 g1 g2 g3;rw[Zi9]at g4 g5 g6;obtain⟨u0,w0⟩:=y0;obtain⟨u1,w1⟩:=y1;obtain⟨u2,w2⟩:=y2;obtain⟨u3,w3⟩:=y3;obtain⟨u4,w4⟩:=y4;obtain⟨u5,w5⟩:=y5;obtain⟨u6,w6⟩:=y6;simp only at z0 z1 z2 z3 z4 z5 z6;subst z0 z1 z2 z3 z4 z5 z6;have r0:=zdh Tryz.underlying3 g0;have r1:=zdh Tryz.underlying3 g1;have r2:=zdh Tryz.underlying3 g2;have r3:=zdh Tryz.underlying3 g3;have r4:=zef Tryz.underlying4 g4;have r5:=zef Tryz.underlying4 g5;have r6:=zef Tryz.underlying4 g6;have hall:(c.drop 1).take 7=[.int .i64 a,.int .i64 b,.int .i64 d,.int .i64 e,.bool f,.bool g,.bool k]:=by
      have hl7:((c.drop 1).take 7).length=7:=by rw[Zf4]at hyl;exact hyl
      exact Wl r0 (Wl r1 (Wl r2 (Wl r3 (Wl r4 (Wl r5 (Wl r6 (zgv hl7)))))))
     intro j v hv;exact ztq hall hv
def Zh3:List Int:=[1,10,100,1000,10000,100000,1000000,10000000,100000000,1000000000,10000000000,100000000000,1000000000000,10000000000000,100000000000000,1000000000000000,10000000000000000,100000000000000000,1000000000000000000,10000000000000000000]
theorem Za8:∀i:Fin 20,Zh3.getD i 0=((10 ^ (i:Nat):Nat):Int):=by decide
theorem Zsv{l:List (String×DataW Unit)}(h:laidMet Tryz.prog l W)(h1:("internal/strconv.uint64pow10",Rows.laid_internal_strconv_uint64pow10)∈l)
 (h2:("setsquare/formula.operands",Rows.laid_setsquare_formula_operands)∈l) (h3:("setsquare/constraint.table",Rows.laid_setsquare_constraint_table)∈l):GT (hpW W):=by
 obtain⟨ps,hv,_⟩:=h;refine⟨λi hi=>?_,λi hi=>?_,λk hk1 hk2=>?_⟩
 . obtain⟨g,t,cs,fuel,p,hg,ht,hvar,hd⟩:=z6t hv h1;obtain rfl:=J9 (Zse.symm.trans hg);obtain rfl:=J9 (Zso.symm.trans ht);have hd':Pb (λ_=>()) Tryz.prog W 0 (λ_=>true) false fuel 401 cs.toList=some (.agg (Zh3.map λz=>.lit (.int .u64 z)),p):=hd;have:=zfr Tryz.underlying401 Tryz.underlying203 Zpq hd' i hi;rw[zfo,zup,World.var?_cell hg hvar i,<-Tl,this];have e:=Za8 ⟨i,hi⟩;rw[<-e]
 . obtain⟨g,t,cs,fuel,p,hg,ht,hvar,hd⟩:=z6t hv h2;obtain rfl:=J9 (Zsd.symm.trans hg);obtain rfl:=J9 (Zsn.symm.trans ht);have hd':Pb (λ_=>()) Tryz.prog W 0 (λ_=>true) false fuel 309 cs.toList=some (.agg (([0,0,0,1,2,2,2,2]:List Int).map λz=>.lit (.int .i64 z)),p):=hd;have:=zfr Tryz.underlying309 Tryz.underlying3 zyp hd' i hi;rw[zfo,zup,World.var?_cell hg hvar i,<-Tl,this]
 . obtain⟨g,t,cs,fuel,p,hg,ht,hvar,hd⟩:=z6t hv h3;obtain rfl:=J9 (Zsf.symm.trans hg);obtain rfl:=J9 (Zsp.symm.trans ht);obtain⟨xs,q,_,hx,hl,hxl,hf⟩:=DataW.trod_array Tryz.underlying265 hd;simp only[Prod.mk.injEq]at hx;have hk:=hf k (by omega);rw[Zpo]at hk;rw[Jc (by omega)]at hk;have hx1:(xs.map (·.1))=(match (Rows.laid_setsquare_constraint_table:DataW Unit)with | .agg l=>l | _=>[]):=by rw[hx.1]
   have hxk:(xs[k]'(by omega)).1=((match (Rows.laid_setsquare_constraint_table:DataW Unit)with | .agg l=>l | _=>[]):List (DataW Unit)).getD k .nil:=by
    rw[<-hx1,Jf,Uw,Jc (by omega)];rfl
   have fin:∀(nm:DataW Unit) (a b d e:Int) (f g kk:Bool),(xs[k]'(by omega)).1=.agg [nm,.agg [.lit (.int .i64 a),.lit (.int .i64 b),.lit (.int .i64 d),.lit (.int .i64 e),.lit (.bool f),.lit (.bool g),.lit (.bool kk)]] ->
    ((shK k).1:Int)=a->((shK k).2.1:Int)=b->((shK k).2.2.1:Int)=d->((shK k).2.2.2.1:Int)=e->(shK k).2.2.2.2=f ->
    ∃ln ps:Bool,∀j v,([.int .i64 ((shK k).1:Int),.int .i64 ((shK k).2.1:Int),.int .i64 ((shK k).2.2.1:Int),.int .i64 ((shK k).2.2.2.1:Int),.bool (shK k).2.2.2.2,.bool ln,.bool ps]:List Value)[j]?=some v ->
     (hpW W).cell ((((⟨0,0,none⟩:Addr).add (k*8)).add 1).add j)=some v:=by
    intro nm a b d e f g kk he ea eb ed ee ef;refine⟨g,kk,λj v hv=>?_⟩;have hk':Pb (λ_=>()) Tryz.prog W 0 (λ_=>true) false q 264 ((cs.toList.drop (k*8)).take 8)=some (.agg [nm,.agg [.lit (.int .i64 a),.lit (.int .i64 b),.lit (.int .i64 d),.lit (.int .i64 e),.lit (.bool f),.lit (.bool g),.lit (.bool kk)]],(xs[k]'(by omega)).2):=by
     rw[hk];congr 1;exact Prod.ext he rfl
    rw[ea,eb,ed,ee,ef]at hv;have h5:=Zji hk' j v hv;have h6:cs.toList[k*8+(1+j)]?=some v:=ztq rfl h5;rw[zfo,W7,W7,zup,World.var?_cell hg hvar,<-Tl];exact h6
   clear hd hf hk hl hx hx1;rcases(by omega:k=1\/k=2\/k=3\/k=4\/k=5\/k=6\/k=7\/k=8\/k=9\/k=10\/k=11\/k=12\/k=13\/k=14\/k=15\/k=16\/k=17)with rfl | rfl | rfl | rfl | rfl | rfl | rfl | rfl | rfl | rfl | rfl | rfl | rfl | rfl | rfl | rfl | rfl <;>
    exact fin _ _ _ _ _ _ _ _ hxk rfl rfl rfl rfl rfl
end
end Den
end

section
namespace Den
open Go Iv Lx
section
variable {h : Hp} {s : TSketch} {S : PSk} {Kb : Bool → Hp → Prop} {Ki : Int → Hp → Prop} {l : Sl}
theorem zdl{b:Bool}{P:Prop}(h:b=true↔¬P):(!b)=true↔P:=by
 rw[Gc,<-Tr,h];exact⟨λhh=>Jy hh,λhh hn=>hn hh⟩
theorem zr2{ps:List (Option Rat×Option Rat)}(hx:LR ptc 8 PTT h l ps)(hlen:ps.length<=1000000)(H:∀b h',h.le h'->(b=true↔∀p∈ps,VP p)->Kb b h'):zc (F.Yy l) Kb h:=by
 refine zd (λb h'=>(b=true↔∀p∈ps,VP p)) (λK' hk=>?_) λb h' hl hb=>H b h' hl hb
 unfold F.Yy;refine Ww λa h1 hl1 hc1=>?_
 have hl:=hx.len z13;refine zd (λb h'=>(b=true↔¬∀p∈ps,VP p)) (λK2 hk2=>?_) λb h' hl hb=>hk _ _ (Hp.le_trans hl1 hl) (zdl hb)
 unfold F.Ze;refine zd (λr h'=>(0<=r↔¬∀p∈ps,VP p)) (λK3 hk3=>?_) λr h' hl hr=>hk2 _ _ hl (by rw[decide_eq_true_iff];exact hr)
 unfold F.Zk;refine zc1 (n:=ps.length) (g:=λi=>∃h:i<ps.length,¬VP ps[i]) (by omega) (λi h' k hl' hi' hb=>?_) (λh' k hk=>ze (λhh=>by simp only at hh;omega) (λ_=>hk)) (λr h' hl hr=>hk3 _ _ hl (by rw[hr,zh5]));refine ze (λ_=>?_) (λhh=>by simp only at hh;omega);refine(hx.le z13 (Hp.le_trans hl1 hl')).get z13 i rfl hi' λb x hxx hc=>?_
 refine⟨_,hc 0 _ rfl,_,hc 1 _ rfl,_,hc 2 _ rfl,_,hc 3 _ rfl,_,hc 4 _ rfl,_,hc 5 _ rfl,_,hc 6 _ rfl,_,hc 7 _ rfl,?_⟩;refine zd (λb h'=>(b=true↔¬VP ps[i])) (λK4 hk4=>?_) λb h'' hl'' hbb=>hb b h'' hl'' (by rw[hbb];exact⟨λhh=>⟨hi',hh⟩,λ⟨_,hh⟩=>hh⟩)
 unfold F.qo;refine⟨_,Hp.cell_le hl' hc1,rfl,?_⟩;refine zd (λb h'=>(b=true↔VP ps[i])) (λK5 hk5=>?_) λb h'' hl'' hbb=>hk4 _ _ hl'' (by rw[Gc,<-Tr,hbb])
 unfold F.z83;refine zj8 hxx.1 λh2 hl2=>?_
 refine zi (λh3=>zj8 (hxx.2.le hl2) λh4 hl4=>hk5 _ _ (Hp.le_trans hl2 hl4) ⟨λhh=>⟨h3,hh⟩,λhh=>hh.2⟩) (λh3=>hk5 _ _ hl2 ⟨λhh=>(by cases hh),λhh=>by rw[hh.1]at h3;cases h3⟩)
theorem Zjz{q:Rat}:q.num.sign>0↔0<q.num:=by
 constructor
 . intro hh;exact Int.sign_pos_iff.1 hh
 . intro hh;exact Int.sign_pos_iff.2 hh
theorem zsy{x:TRat}{q:Rat}(hx:NR h x q)(hl1:x.num.mag.len<=35184372087808)(H:Ki q.num.sign h):zc (F.Q0 x) Ki h:=
 zx _ (λK' hk=>zed hx.1 (zca hx.1 hl1) hk) H
theorem zq4{x:TRat}{q:Rat}(hx:NR h x q)(hl1:x.num.mag.len<=35184372087808)(H:Ki q.num.sign h):zc (F.z4r x) Ki h:=
 zx _ (λK' hk=>zcp hx.1 (zca hx.1 hl1) hk) H
theorem zr3{ps:List (Int×Option Rat)}{a0:Addr}(hx:LR rdc 5 RN h l ps)(hlen:ps.length<=1000000)(h0:h.cell a0=some (.int .i64 (S.pts.length:Int)))(H:∀b h',h.le h'->(b=true↔∀p∈ps,VR S p)->Kb b h'):zc (F.Yz l (some a0,())) Kb h:=by
 refine zd (λb h'=>(b=true↔∀p∈ps,VR S p)) (λK' hk=>?_) λb h' hl hb=>H b h' hl hb
 unfold F.Yz;refine Ww λa h1 hl1 hc1=>?_
 have hl:=hx.len z31;refine zd (λb h'=>(b=true↔¬∀p∈ps,VR S p)) (λK2 hk2=>?_) λb h' hl hb=>hk _ _ (Hp.le_trans hl1 hl) (zdl hb)
 unfold F.Zf;refine zd (λr h'=>(0<=r↔¬∀p∈ps,VR S p)) (λK3 hk3=>?_) λr h' hl hr=>hk2 _ _ hl (by rw[decide_eq_true_iff];exact hr)
 unfold F.Zl;refine zc1 (n:=ps.length) (g:=λi=>∃h:i<ps.length,¬VR S ps[i]) (by omega) (λi h' k hl' hi' hb=>?_) (λh' k hk=>ze (λhh=>by simp only at hh;omega) (λ_=>hk)) (λr h' hl hr=>hk3 _ _ hl (by rw[hr,zh5]));refine ze (λ_=>?_) (λhh=>by simp only at hh;omega);refine(hx.le z31 (Hp.le_trans hl1 hl')).get z31 i rfl hi' λb x hxx hc=>?_
 refine⟨_,hc 0 _ rfl,_,hc 1 _ rfl,_,hc 2 _ rfl,_,hc 3 _ rfl,_,hc 4 _ rfl,?_⟩;refine zd (λb h'=>(b=true↔¬VR S ps[i])) (λK4 hk4=>?_) λb h'' hl'' hbb=>hb b h'' hl'' (by rw[hbb];exact⟨λhh=>⟨hi',hh⟩,λ⟨_,hh⟩=>hh⟩)
 unfold F.qp;refine⟨_,Hp.cell_le hl' hc1,some a0,rfl,?_⟩;refine zd (λb h'=>(b=true↔VR S ps[i])) (λK5 hk5=>?_) λb h'' hl'' hbb=>hk4 _ _ hl'' (by rw[Gc,<-Tr,hbb])
 unfold F.z84;refine⟨_,Hp.cell_le (Hp.le_trans hl1 hl') h0,?_⟩;have hx1:=hxx.1;have hx2:=hxx.2;have no:∀h'',h'.le h''->¬VR S ps[i]->K5 false h'':=λh'' hl hn=>hk5 _ _ hl ⟨λhh=>(by cases hh),λhh=>absurd hh hn⟩
 simp only;rw[hx1];refine z5s λb hb=>?_
 refine zi (λh2=>?_) (λh2=>no _ (Hp.le_refl _) λhv=>by rw[hb.2 hv.1]at h2;cases h2);refine zj8 hx2 λh3 hl3=>?_
 refine zi (λh4=>?_) (λh4=>no _ hl3 λhv=>by obtain⟨q,hq,_⟩:=hv.2;rw[hq]at h4;cases h4);obtain⟨q,hq⟩:=G8.1 h4;rw[hq]at hx2;refine zsy (hx2.nr.le hl3) hx2.2.1 (hk5 _ _ hl3 ?_);rw[decide_eq_true_iff,Zjz];exact⟨λhh=>⟨hb.1 h2,q,hq,hh⟩,λhh=>by obtain⟨q',hq',h5⟩:=hh.2;rw[hq]at hq';cases hq';exact h5⟩
theorem zr5{ps:List TSegment}{a0:Addr}(hx:LR sgc 2 eqP h l ps)(hlen:ps.length<=1000000)(h0:h.cell a0=some (.int .i64 (S.pts.length:Int)))(H:∀b h',h.le h'->(b=true↔∀p∈ps,VG S p)->Kb b h'):zc (F.Yk l (some a0,())) Kb h:=by
 refine zd (λb h'=>(b=true↔∀p∈ps,VG S p)) (λK' hk=>?_) λb h' hl hb=>H b h' hl hb
 unfold F.Yk;refine Ww λa h1 hl1 hc1=>?_
 have hl:=hx.len z6h;refine zd (λb h'=>(b=true↔¬∀p∈ps,VG S p)) (λK2 hk2=>?_) λb h' hl hb=>hk _ _ (Hp.le_trans hl1 hl) (zdl hb)
 unfold F.Za;refine zd (λr h'=>(0<=r↔¬∀p∈ps,VG S p)) (λK3 hk3=>?_) λr h' hl hr=>hk2 _ _ hl (by rw[decide_eq_true_iff];exact hr)
 unfold F.Zb;refine zc1 (n:=ps.length) (g:=λi=>∃h:i<ps.length,¬VG S ps[i]) (by omega) (λi h' k hl' hi' hb=>?_) (λh' k hk=>ze (λhh=>by simp only at hh;omega) (λ_=>hk)) (λr h' hl hr=>hk3 _ _ hl (by rw[hr,zh5]));refine ze (λ_=>?_) (λhh=>by simp only at hh;omega);refine(hx.le z6h (Hp.le_trans hl1 hl')).get z6h i rfl hi' λb x hxx hc=>?_
 refine⟨_,hc 0 _ rfl,_,hc 1 _ rfl,?_⟩;have hxx:x=ps[i]:=hxx;subst hxx;refine zd (λb h'=>(b=true↔¬VG S ps[i])) (λK4 hk4=>?_) λb h'' hl'' hbb=>hb b h'' hl'' (by rw[hbb];exact⟨λhh=>⟨hi',hh⟩,λ⟨_,hh⟩=>hh⟩)
 unfold F.qd;refine⟨_,Hp.cell_le hl' hc1,some a0,rfl,?_⟩;refine zd (λb h'=>(b=true↔VG S ps[i])) (λK5 hk5=>?_) λb h'' hl'' hbb=>hk4 _ _ hl'' (by rw[Gc,<-Tr,hbb])
 unfold F.z85;have c0:=Hp.cell_le (Hp.le_trans hl1 hl') h0;have no:¬VG S ps[i]->K5 false h':=λhn=>hk5 _ _ (Hp.le_refl _) ⟨λhh=>(by cases hh),λhh=>absurd hh hn⟩
 refine⟨_,c0,?_⟩;refine z5s λb hb=>?_
 refine zi (λh2=>?_) (λh2=>no λhv=>by rw[hb.2 hv.1]at h2;cases h2);refine⟨_,c0,?_⟩;refine z5s λb3 hb3=>?_
 refine zi (λh4=>?_) (λh4=>no λhv=>by rw[hb3.2 hv.2.1]at h4;cases h4);refine hk5 _ _ (Hp.le_refl _) ?_;rw[bne_iff_ne];exact⟨λhh=>⟨hb.1 h2,hb3.1 h4,hh⟩,λhh=>hh.2.2⟩
theorem zoi{i:Int}{K:Int->Prop}(hx:SK h s S)(hi:zbi S.cir.length i)(H:K (cen S i)):zg s.circles i 5 λa=>ldL (.int .i64) (a.add 0) K h:=by
 obtain⟨h0,h1⟩:=hi;have hk:i.toNat<S.cir.length:=by omega
 refine hx.2.1.get z31 i.toNat (by omega) hk λa x hxx hc=>⟨_,hc 0 _ rfl,?_⟩
 rw[hxx.1];unfold cen at H;rw[Jf,Jc hk]at H;exact H
theorem zms{a:TArc}(hx:SK h s S)(H:∀b,(b=true↔VA S a)->Kb b h):zc (F.z2v s a) Kb h:=by
 refine zd (λb h'=>h'=h/\(b=true↔VA S a)) (λK' hk=>?_) λb h' _ hb=>by obtain⟨rfl,hb⟩:=hb;exact H b hb
 unfold F.z2v;have l1:=hx.1.len z13;have l2:=hx.2.1.len z31;have no:¬VA S a->K' false h:=λhn=>hk _ _ (Hp.le_refl _) ⟨rfl,λhh=>(by cases hh),λhh=>absurd hh hn⟩
 refine zh (λ_ h'=>h'=h/\zbi S.cir.length a.circle/\zbi S.pts.length a.a/\zbi S.pts.length a.b) ?_ ?_
 . rintro _ h ⟨rfl,g1,g2,g3⟩;refine zoi hx g1 ?_;refine Z2 (λh1=>hk _ _ (Hp.le_refl _) ⟨rfl,?_⟩) (λh1=>no λhv=>hv.2.2.2.1 h1);rw[bne_iff_ne];exact⟨λhh=>⟨g1,g2,g3,h1,hh⟩,λhh=>hh.2.2.2.2⟩
 . rw[l1,l2];refine z5s λb hb=>zi (λh2=>no λhv=>by rw[hb.2 hv.1]at h2;cases h2) λh2=>?_
   refine z5s λb3 hb3=>zi (λh4=>no λhv=>by rw[hb3.2 hv.2.1]at h4;cases h4) λh4=>?_
   refine z5s λb5 hb5=>zi (λh6=>no λhv=>by rw[hb5.2 hv.2.2.1]at h6;cases h6) λh6=>?_
   exact⟨rfl,hb.1 (by simpa using h2),hb3.1 (by simpa using h4),hb5.1 (by simpa using h6)⟩
def SKC(h:Hp)(a:Addr)(s:TSketch):Prop:=∀i v,([Lf.sl.up s.points,Lf.sl.up s.circles,Lf.sl.up s.segments,Lf.sl.up s.arcs,Lf.sl.up s.chains,Lf.sl.up s.constraints]:List Value)[i]?=some v->h.cell (a.add i)=some v
theorem SKC.le{h h':Hp}{a:Addr}{s:TSketch}(hx:SKC h a s)(hl:h.le h'):SKC h' a s:=λi v hv=>Hp.cell_le hl (hx i v hv)
theorem zqz{ps:List TArc}{a0:Addr}(hx:LR Zde 4 eqP h l ps)(hlen:ps.length<=1000000)(h0:SKC h a0 s)(hS:SK h s S)(H:∀b h',h.le h'->(b=true↔∀p∈ps,VA S p)->Kb b h'):zc (F.Y8 l (some a0,())) Kb h:=by
 refine zd (λb h'=>(b=true↔∀p∈ps,VA S p)) (λK' hk=>?_) λb h' hl hb=>H b h' hl hb
 unfold F.Y8;refine Ww λa h1 hl1 hc1=>?_
 have hl:=hx.len z0o;refine zd (λb h'=>(b=true↔¬∀p∈ps,VA S p)) (λK2 hk2=>?_) λb h' hl hb=>hk _ _ (Hp.le_trans hl1 hl) (zdl hb)
 unfold F.Zm;refine zd (λr h'=>(0<=r↔¬∀p∈ps,VA S p)) (λK3 hk3=>?_) λr h' hl hr=>hk2 _ _ hl (by rw[decide_eq_true_iff];exact hr)
 unfold F.Zq;refine zc1 (n:=ps.length) (g:=λi=>∃h:i<ps.length,¬VA S ps[i]) (by omega) (λi h' k hl' hi' hb=>?_) (λh' k hk=>ze (λhh=>by simp only at hh;omega) (λ_=>hk)) (λr h' hl hr=>hk3 _ _ hl (by rw[hr,zh5]));refine ze (λ_=>?_) (λhh=>by simp only at hh;omega);refine(hx.le z0o (Hp.le_trans hl1 hl')).get z0o i rfl hi' λb x hxx hc=>?_
 refine⟨_,hc 0 _ rfl,_,hc 1 _ rfl,_,hc 2 _ rfl,_,hc 3 _ rfl,?_⟩;have hxx:x=ps[i]:=hxx;subst hxx;refine zd (λb h'=>(b=true↔¬VA S ps[i])) (λK4 hk4=>?_) λb h'' hl'' hbb=>hb b h'' hl'' (by rw[hbb];exact⟨λhh=>⟨hi',hh⟩,λ⟨_,hh⟩=>hh⟩)
 unfold F.Qh;refine⟨_,Hp.cell_le hl' hc1,some a0,rfl,?_⟩;refine zd (λb h'=>(b=true↔VA S ps[i])) (λK5 hk5=>?_) λb h'' hl'' hbb=>hk4 _ _ hl'' (by rw[Gc,<-Tr,hbb])
 unfold F.z86;have c0:=h0.le (Hp.le_trans hl1 hl');refine⟨_,c0 0 _ rfl,_,c0 1 _ rfl,_,c0 2 _ rfl,_,c0 3 _ rfl,_,c0 4 _ rfl,_,c0 5 _ rfl,?_⟩;exact zms (s:=s) (hS.le (Hp.le_trans hl1 hl')) λb hb=>hk5 _ _ (Hp.le_refl _) hb
theorem zj0{ps:List TPiece}(hx:SK h s S)(hc:LR pic 3 eqP h l ps)(hlen:ps.length<=1000)(hs:sSk S)(H:∀b,(b=true↔VCh S ps)->Kb b h):zc (F.z0s s l) Kb h:=by
 refine zd (λb h'=>h'=h/\(b=true↔VCh S ps)) (λK' hk=>?_) λb h' _ hb=>by obtain⟨rfl,hb⟩:=hb;exact H b hb
 unfold F.z0s;have l3:=hx.2.2.1.len z6h;have l4:=hx.2.2.2.1.len z0o;have lc:=hc.len zch;have no:¬VCh S ps->K' false h:=λhn=>hk _ _ (Hp.le_refl _) ⟨rfl,λhh=>(by cases hh),λhh=>absurd hh hn⟩
 refine Yq (n:=ps.length) (by omega) (λi a h'=>h'=h/\(∀j (hj:j<ps.length),j<i->okP S ps[j])/\(∀j (hj:j+1<ps.length),j+1<i->(z6k S ps[j]).2=(z6k S ps[j+1]).1)/\∀j (hj:j<ps.length),j+1=i->a=(z6k S ps[j]).2) ⟨rfl,λj _ hj=>by omega,λj _ hj=>by omega,λj _ hj=>by omega⟩ ?_;rintro i a h hi ⟨rfl,g1,g2,g3⟩ k hk2;refine ze (λh2=>?_) (λh2=>?_)
 . have hi':i<ps.length:=by simp only at h2;omega
   refine zh (λst h'=>h'=h/\okP S ps[i]/\(∀j (hj:j<ps.length),j+1=i->(z6k S ps[j]).2=(z6k S ps[i]).1)/\st.1=(z6k S ps[i]).2) ?_ ?_
   . rintro⟨z,_⟩ h ⟨rfl,k1,k2,k3⟩;refine hk2 _ _ hi' ⟨rfl,λj hj hji=>?_,λj hj hji=>?_,λj hj hji=>?_⟩
     . rcases Jo j i with h5 | h5
       . exact g1 j hj h5
       . have:j=i:=by omega
         subst this;exact k1
     . rcases Jo (j+1) i with h5 | h5
       . exact g2 j hj h5
       . have:j+1=i:=by omega
         subst this;exact k2 j (by omega) rfl
     . have:j=i:=by omega
       subst this;exact k3
   . refine hc.get zch i rfl hi' λb x hxx hcc=>?_
     refine⟨_,hcc 0 _ rfl,_,hcc 1 _ rfl,_,hcc 2 _ rfl,?_⟩;have hxx:x=ps[i]:=hxx;rw[<-hxx];refine zh (λst h'=>h'=h/\st.1=(((if x.arc=true then S.arc.length else S.seg.length):Nat):Int)) ?_ ?_
     . rintro⟨z,_⟩ h ⟨rfl,hz⟩;simp only at hz;subst hz;refine z5s λb hb=>zi (λh4=>no λhv=>?_) λh4=>?_
       . have:=hv.2.1 _ (Jh hi');rw[<-hxx]at this;rw[hb.2 this]at h4;cases h4
       have hok:okP S x:=hb.1 (by simpa using h4);refine zls hx (p:=x) hok ?_;refine ze (λh5=>?_) (λh5=>⟨rfl,hok,λj hj hji=>by simp only at h5;omega,rfl⟩);simp only at h5;obtain⟨j,rfl⟩:∃j,i=j+1:=⟨i-1,by omega⟩;have ha:=g3 j (by omega) rfl;refine Z2 (λh6=>no λhv=>?_) (λh6=>⟨rfl,hok,λj' hj' hji=>?_,rfl⟩)
       . have:=hv.2.2 j hi';rw[<-hxx]at this;simp only at h6;rw[ha]at h6;exact h6 this.symm
       . have:j'=j:=by omega
         subst this;simp only at h6;rw[<-ha,h6]
     . refine zi (λh3=>⟨rfl,?_⟩) (λh3=>⟨rfl,?_⟩)
       . simp only;rw[if_pos h3,l4]
       . simp only;rw[h3,l3];rfl
 . have hi':i=ps.length:=by simp only at h2;omega
   subst hi';refine hk _ _ (Hp.le_refl _) ⟨rfl,?_⟩;rw[decide_eq_true_iff];constructor
   . intro hh;refine⟨λh0=>by rw[h0]at lc;simp at lc;omega,λp hp=>?_,λj hj=>g2 j hj (by omega)⟩;obtain⟨j,hj,rfl⟩:=Gh.1 hp;exact g1 j hj hj
   . intro hh;have:=List.length_pos_iff.2 hh.1;omega
theorem zr0{ps:List (List TPiece)}{a0:Addr}(hx:LR slc 1 CHN h l ps)(hlen:ps.length<=1000000)(hp20:∀c∈ps,c.length<=20)(h0:SKC h a0 s)(hS:SK h s S)(hs:sSk S)(H:∀b h',h.le h'->(b=true↔∀p∈ps,VCh S p)->Kb b h'):zc (F.Yx l (some a0,())) Kb h:=by
 refine zd (λb h'=>(b=true↔∀p∈ps,VCh S p)) (λK' hk=>?_) λb h' hl hb=>H b h' hl hb
 unfold F.Yx;refine Ww λa h1 hl1 hc1=>?_
 have hl:=hx.len z3j;refine zd (λb h'=>(b=true↔¬∀p∈ps,VCh S p)) (λK2 hk2=>?_) λb h' hl hb=>hk _ _ (Hp.le_trans hl1 hl) (zdl hb)
 unfold F.Zd;refine zd (λr h'=>(0<=r↔¬∀p∈ps,VCh S p)) (λK3 hk3=>?_) λr h' hl hr=>hk2 _ _ hl (by rw[decide_eq_true_iff];exact hr)
 unfold F.Zj;refine zc1 (n:=ps.length) (g:=λi=>∃h:i<ps.length,¬VCh S ps[i]) (by omega) (λi h' k hl' hi' hb=>?_) (λh' k hk=>ze (λhh=>by simp only at hh;omega) (λ_=>hk)) (λr h' hl hr=>hk3 _ _ hl (by rw[hr,zh5]));refine ze (λ_=>?_) (λhh=>by simp only at hh;omega);refine(hx.le z3j (Hp.le_trans hl1 hl')).get z3j i rfl hi' λb x hxx hc=>?_
 have e0:=hc 0 _ rfl;rw[Zw]at e0;refine⟨_,e0,?_⟩;refine zd (λb h'=>(b=true↔¬VCh S ps[i])) (λK4 hk4=>?_) λb h'' hl'' hbb=>hb b h'' hl'' (by rw[hbb];exact⟨λhh=>⟨hi',hh⟩,λ⟨_,hh⟩=>hh⟩)
 unfold F.qn;refine⟨_,Hp.cell_le hl' hc1,some a0,rfl,?_⟩;refine zd (λb h'=>(b=true↔VCh S ps[i])) (λK5 hk5=>?_) λb h'' hl'' hbb=>hk4 _ _ hl'' (by rw[Gc,<-Tr,hbb])
 unfold F.z87;have c0:=h0.le (Hp.le_trans hl1 hl');refine⟨_,c0 0 _ rfl,_,c0 1 _ rfl,_,c0 2 _ rfl,_,c0 3 _ rfl,_,c0 4 _ rfl,_,c0 5 _ rfl,?_⟩;exact zj0 (s:=s) (hS.le (Hp.le_trans hl1 hl')) hxx (by have:=hp20 _ (Jh hi');omega) hs λb hb=>hk5 _ _ (Hp.le_refl _) hb
theorem zr1{ps:List PCon}{a0 a1:Addr}{n m:Int}(hx:LR cc 5 CO h l ps)(hlen:ps.length<=1000000)(hps:∀c∈ps,sC c)(h0:h.cell a0=some (.int .i64 n))(h1:h.cell a1=some (.int .i64 m))(ht:GT h)(H:∀b h',h.le h'->(b=true↔∀p∈ps,VC p n m)->Kb b h'):zc (F.Yb l (some a0,some a1,())) Kb h:=by
 refine zd (λb h'=>(b=true↔∀p∈ps,VC p n m)) (λK' hk=>?_) λb h' hl hb=>H b h' hl hb
 unfold F.Yb;refine Ww λa h2 hl2 hc1=>?_
 have hl:=hx.len yw;refine zd (λb h'=>(b=true↔¬∀p∈ps,VC p n m)) (λK2 hk2=>?_) λb h' hl hb=>hk _ _ (Hp.le_trans hl2 hl) (zdl hb)
 unfold F.z7;refine zd (λr h'=>(0<=r↔¬∀p∈ps,VC p n m)) (λK3 hk3=>?_) λr h' hl hr=>hk2 _ _ hl (by rw[decide_eq_true_iff];exact hr)
 unfold F.z8;refine zc1 (n:=ps.length) (g:=λi=>∃h:i<ps.length,¬VC ps[i] n m) (by omega) (λi h' k hl' hi' hb=>?_) (λh' k hk=>ze (λhh=>by simp only at hh;omega) (λ_=>hk)) (λr h' hl hr=>hk3 _ _ hl (by rw[hr];exact zh5 (P:=λc=>VC c n m)));refine ze (λ_=>?_) (λhh=>by simp only at hh;omega);refine(hx.le yw (Hp.le_trans hl2 hl')).get yw i rfl hi' λb x hxx hc=>?_
 refine⟨_,hc 0 _ rfl,_,hc 1 _ rfl,_,hc 2 _ rfl,_,hc 3 _ rfl,_,hc 4 _ rfl,?_⟩;refine zd (λb h'=>(b=true↔¬VC ps[i] n m)) (λK4 hk4=>?_) λb h'' hl'' hbb=>hb b h'' hl'' (by rw[hbb];exact⟨λhh=>⟨hi',hh⟩,λ⟨_,hh⟩=>hh⟩)
 unfold F.Y5;refine⟨_,Hp.cell_le hl' hc1,some a0,some a1,rfl,?_⟩;refine zd (λb h'=>(b=true↔VC ps[i] n m)) (λK5 hk5=>?_) λb h'' hl'' hbb=>hk4 _ _ hl'' (by rw[Gc,<-Tr,hbb])
 unfold F.z88;have hle:=Hp.le_trans hl2 hl';refine⟨_,Hp.cell_le hle h0,_,Hp.cell_le hle h1,?_⟩;exact zrc hxx (hps _ (Jh hi')) (ht.le hle) λb h'' hl hb=>hk5 _ _ hl hb
theorem zq8(hx:SK h s S)(hs:sSk S)(ht:GT h)(H:∀r h',h.le h'->(r=0↔VS S)->(r=0\/r=1)->Ki r h'):zc (F.z09 s) Ki h:=by
 refine zd (λr h'=>(r=0↔VS S)/\(r=0\/r=1)) (λK' hk0=>?_) λb h' hl hb=>H b h' hl hb.1 hb.2
 have hk:∀v h',h.le h'->(v=0↔VS S)->(v=0\/v=1)->K' v h':=λv h' hl h1 h2=>hk0 v h' hl ⟨h1,h2⟩
 unfold F.z09;refine zcf λp1 h1 hl1 hc=>?_
 have c0:SKC h1 p1 s:=hc;have hx1:=hx.le hl1;refine⟨_,c0 0 _ rfl,_,c0 1 _ rfl,_,c0 2 _ rfl,_,c0 3 _ rfl,_,c0 4 _ rfl,_,c0 5 _ rfl,?_⟩;refine zot (s:=s) hx1 hs λh2 hl2=>zr rfl ?_
 have c2:=c0.le hl2;refine⟨_,c2 0 _ rfl,_,c2 1 _ rfl,?_⟩;refine Ww λp6 h3 hl3 e6=>Ww λp7 h4 hl4 e7=>?_
 have hle4:=Hp.le_trans hl1 (Hp.le_trans hl2 (Hp.le_trans hl3 hl4));have hx4:=hx.le hle4;have c4:=(c2.le hl3).le hl4;have l1:=hx.1.len z13;have l2:=hx.2.1.len z31;obtain⟨s1,s2,s3,s4,s5,s6,s7,s8⟩:=hs;have e64:h4.cell p6=some (.int .i64 (S.pts.length:Int)):=by have:=Hp.cell_le hl4 e6;rw[l1]at this;exact this
 have e74:h4.cell p7=some (.int .i64 (S.cir.length:Int)):=by rw[l2]at e7;exact e7
 refine zh (λst h'=>h.le h'/\(st.1=true↔VS S)) ?_ ?_
 . rintro⟨b,_⟩ h5 ⟨hl5,hb⟩;simp only at hb;refine zi (λh6=>hk _ _ hl5 ⟨λhh=>(by cases hh),λhh=>?_⟩ (.inr rfl)) (λh6=>hk _ _ hl5 ⟨λ_=>hb.1 (by simpa using h6),λ_=>rfl⟩ (.inl rfl));simp only at h6;rw[hb.2 hh]at h6;cases h6
 . have fl:∀(b:Bool) {P:Prop},(b=true↔P)->b=false->¬P:=λb P hb h0 hp=>by rw[hb.2 hp]at h0;cases h0
   refine⟨_,c4 0 _ rfl,?_⟩;refine zr2 hx4.1 (by omega) λb1 h5 hl5 hb1=>zi (λt1=>?_) (λt1=>⟨Hp.le_trans hle4 hl5,λhh=>(by cases hh),λhv=>absurd hv.1 (fl _ hb1 t1)⟩)
   refine⟨_,c4.le hl5 1 _ rfl,?_⟩;refine zr3 (S:=S) (hx4.le hl5).2.1 (by omega) (Hp.cell_le hl5 e64) λb2 h6 hl6 hb2=>zi (λt2=>?_) (λt2=>⟨Hp.le_trans hle4 (Hp.le_trans hl5 hl6),λhh=>(by cases hh),λhv=>absurd hv.2.1 (fl _ hb2 t2)⟩)
   have l56:=Hp.le_trans hl5 hl6;refine⟨_,c4.le l56 2 _ rfl,?_⟩;refine zr5 (S:=S) (hx4.le l56).2.2.1 (by omega) (Hp.cell_le l56 e64) λb3 h7 hl7 hb3=>zi (λt3=>?_) (λt3=>⟨Hp.le_trans hle4 (Hp.le_trans l56 hl7),λhh=>(by cases hh),λhv=>absurd hv.2.2.1 (fl _ hb3 t3)⟩)
   have l57:=Hp.le_trans l56 hl7;refine⟨_,c4.le l57 3 _ rfl,?_⟩;refine zqz (s:=s) (S:=S) (hx4.le l57).2.2.2.1 (by omega) (c4.le l57) (hx4.le l57) λb4 h8 hl8 hb4=>zi (λt4=>?_) (λt4=>⟨Hp.le_trans hle4 (Hp.le_trans l57 hl8),λhh=>(by cases hh),λhv=>absurd hv.2.2.2.1 (fl _ hb4 t4)⟩)
   have l58:=Hp.le_trans l57 hl8;refine⟨_,c4.le l58 4 _ rfl,?_⟩;refine zr0 (s:=s) (S:=S) (hx4.le l58).2.2.2.2.1 (by omega) s7 (c4.le l58) (hx4.le l58) ⟨s1,s2,s3,s4,s5,s6,s7,s8⟩ λb5 h9 hl9 hb5=>zi (λt5=>?_) (λt5=>⟨Hp.le_trans hle4 (Hp.le_trans l58 hl9),λhh=>(by cases hh),λhv=>absurd hv.2.2.2.2.1 (fl _ hb5 t5)⟩)
   have l59:=Hp.le_trans l58 hl9;refine⟨_,c4.le l59 5 _ rfl,?_⟩;refine zr1 (hx4.le l59).2.2.2.2.2 (by omega) s8 (Hp.cell_le l59 e64) (Hp.cell_le l59 e74) (ht.le (Hp.le_trans hle4 l59)) λb6 h10 hl10 hb6=>⟨Hp.le_trans hle4 (Hp.le_trans l59 hl10),?_⟩
   rw[hb6];exact⟨λhh=>⟨hb1.1 t1,hb2.1 t2,hb3.1 t3,hb4.1 t4,hb5.1 t5,hh⟩,λhh=>hh.2.2.2.2.2⟩
theorem zcx(hx:SK h s S)(hs:sSk S)(ht:GT h)(H:∀r h',h.le h'->(r=0↔VS S)->Ki r h'):zc (F.z09 s) Ki h:=zq8 hx hs ht λr h' h1 h2 _=>H r h' h1 h2
end
end Den
end

section
namespace Den
open Go Iv Lx
section
variable {h : Hp} {s : TSketch} {S : PSk} {Kb : Bool → Hp → Prop} {Ki : Int → Hp → Prop} {l : Sl}
theorem zt1{ps:List TPiece}(hx:SK h s S)(hc:LR pic 3 eqP h l ps)(hlen:ps.length<=1000)(hs:sSk S)(H:∀b,(b=true↔VCh S ps)->Kb b h):zc (F.z8w s l) Kb h:=by
 refine zd (λb h'=>h'=h/\(b=true↔VCh S ps)) (λK' hk=>?_) λb h' _ hb=>by obtain⟨rfl,hb⟩:=hb;exact H b hb
 unfold F.z8w;have l3:=hx.2.2.1.len z6h;have l4:=hx.2.2.2.1.len z0o;have lc:=hc.len zch;have no:¬VCh S ps->K' false h:=λhn=>hk _ _ (Hp.le_refl _) ⟨rfl,λhh=>(by cases hh),λhh=>absurd hh hn⟩
 refine yg (n:=ps.length) (by omega) (λi h'=>h'=h/\(∀j (hj:j<ps.length),j<i->okP S ps[j])/\(∀j (hj:j+1<ps.length),j+1<i->(z6k S ps[j]).2=(z6k S ps[j+1]).1)) ⟨rfl,λj _ hj=>by omega,λj _ hj=>by omega⟩ ?_;rintro i h hi ⟨rfl,g1,g2⟩ k hk2;refine ze (λh2=>?_) (λh2=>?_)
 . have hi':i<ps.length:=by simp only at h2;omega
   refine zh (λ_ h'=>h'=h/\okP S ps[i]/\(∀j (hj:j<ps.length),j+1=i->(z6k S ps[j]).2=(z6k S ps[i]).1)) ?_ ?_
   . rintro _ h ⟨rfl,k1,k2⟩;refine hk2 _ hi' ⟨rfl,λj hj hji=>?_,λj hj hji=>?_⟩
     . rcases Jo j i with h5 | h5
       . exact g1 j hj h5
       . have:j=i:=by omega
         subst this;exact k1
     . rcases Jo (j+1) i with h5 | h5
       . exact g2 j hj h5
       . have:j+1=i:=by omega
         subst this;exact k2 j (by omega) rfl
   . have gp:∀{K:Addr->Prop},(∀a,(∀j v,(pic ps[i])[j]?=some v->h.cell (a.add j)=some v)->K a)->zg l (i:Int) 3 K:=λ{K} H=>hc.get zch i rfl hi' λa x hxx hcc=>H a (by have hxx:x=ps[i]:=hxx;rw[<-hxx];exact hcc)
     refine zh (λ_ h'=>h'=h/\okP S ps[i]) ?_ ?_
     . rintro _ h ⟨rfl,hok⟩;refine ze (λh5=>?_) (λh5=>⟨rfl,hok,λj hj hji=>by simp only at h5;omega⟩);simp only at h5;obtain⟨j,rfl⟩:∃j,i=j+1:=⟨i-1,by omega⟩;have e1:i64.wrap (((j+1:Nat):Int)-1)=(j:Int):=by rw[w64 (by omega)];omega
       rw[e1];refine hc.get zch j rfl (by omega) λa x hxx hcc=>?_
       have hxx:x=ps[j]:=hxx;subst hxx;refine⟨_,hcc 0 _ rfl,_,hcc 1 _ rfl,_,hcc 2 _ rfl,?_⟩;refine zlc hx (p:=ps[j]) (g1 j (by omega) (by omega)) ?_;refine gp λa2 hc2=>⟨_,hc2 0 _ rfl,_,hc2 1 _ rfl,_,hc2 2 _ rfl,?_⟩
       refine zlc hx (p:=ps[j+1]) hok ?_;refine Z2 (λh6=>no λhv=>h6 (hv.2.2 j hi')) (λh6=>⟨rfl,hok,λj' hj' hji=>?_⟩);have:j'=j:=by omega
       subst this;exact h6
     . have noi:¬okP S ps[i]->K' false h:=λhn=>no λhv=>hn (hv.2.1 _ (Jh hi'))
       refine gp λa2 hc2=>⟨_,hc2 0 _ rfl,?_⟩
       refine zi (λh3=>?_) (λh3=>?_)
       . refine gp λa3 hc3=>⟨_,hc3 1 _ rfl,?_⟩
         rw[l4];refine z3c λb hb=>zi (λh4=>noi λhv=>?_) (λh4=>?_)
         . unfold okP at hv;rw[if_pos h3]at hv;rw[hb.2 hv]at h4;cases h4
         . refine gp λa5 hc5=>⟨_,hc5 0 _ rfl,?_⟩
           refine zi (λh6=>?_) (λh6=>⟨rfl,?_⟩)
           . try simp only at h3 h6
             rw[h3]at h6;cases h6
           . unfold okP;rw[if_pos h3];exact hb.1 (by simpa using h4)
       . refine gp λa5 hc5=>⟨_,hc5 0 _ rfl,?_⟩
         refine zi (λh6=>?_) (λh6=>?_)
         . refine gp λa3 hc3=>⟨_,hc3 1 _ rfl,?_⟩
           rw[l3];have e3:¬ps[i].arc=true:=by rw[h3];decide
           refine z3c λb hb=>zi (λh4=>noi λhv=>?_) (λh4=>⟨rfl,?_⟩)
           . unfold okP at hv;rw[if_neg e3]at hv;rw[hb.2 hv]at h4;cases h4
           . unfold okP;rw[if_neg e3];exact hb.1 (by simpa using h4)
         . try simp only at h3 h6
           rw[h3]at h6;cases h6
 . have hi':i=ps.length:=by simp only at h2;omega
   subst hi';refine hk _ _ (Hp.le_refl _) ⟨rfl,?_⟩;rw[decide_eq_true_iff];constructor
   . intro hh;refine⟨λh0=>by rw[h0]at lc;simp at lc;omega,λp hp=>?_,λj hj=>g2 j hj (by omega)⟩;obtain⟨j,hj,rfl⟩:=Gh.1 hp;exact g1 j hj hj
   . intro hh;have:=List.length_pos_iff.2 hh.1;omega
theorem zqp{α:Type}{l:List α}{P:α->Prop}{i:Nat}(h:∀j (hj:j<l.length),j<i->P l[j])(hi:i<l.length)(hp:P l[i]):∀j (hj:j<l.length),j<i+1->P l[j]:=λj hj hji=>by
 rcases Jo j i with h5 | h5
 . exact h j hj h5
 . have:j=i:=by omega
   subst this;exact hp
theorem zgg{α:Type}{l:List α}{P:α->Prop}{i:Nat}(h:∀j (hj:j<l.length),j<i->P l[j])(hi:l.length<=i):∀x∈l,P x:=λx hx=>by
 obtain⟨j,hj,rfl⟩:=Gh.1 hx;exact h j hj (by omega)
theorem zmo(hx:SK h s S)(hs:sSk S)(H:∀r h',h.le h'->(r=0↔VS S)->(r=0\/r=1)->Ki r h'):zc (F.z62 s) Ki h:=by
 refine zd (λr h'=>(r=0↔VS S)/\(r=0\/r=1)) (λK' hk0=>?_) λb h' hl hb=>H b h' hl hb.1 hb.2
 have hk:∀v h',h.le h'->(v=0↔VS S)->(v=0\/v=1)->K' v h':=λv h' hl h1 h2=>hk0 v h' hl ⟨h1,h2⟩
 unfold F.z62;have l1:=hx.1.len z13;have l2:=hx.2.1.len z31;have l3:=hx.2.2.1.len z6h;have l4:=hx.2.2.2.1.len z0o;have l5:=hx.2.2.2.2.1.len z3j;have l6:=hx.2.2.2.2.2.len yw;have hs':=hs;obtain⟨s1,s2,s3,s4,s5,s6,s7,s8⟩:=hs;have no:∀h',h.le h'->¬VS S->K' 1 h':=λh' hl hn=>hk _ _ hl ⟨λhh=>(by cases hh),λhh=>absurd hh hn⟩ (.inr rfl)
 refine Z1c hx hs' λh1 hl1=>zr rfl ?_
 refine yg (n:=S.pts.length) (by omega) (λi h'=>h.le h'/\∀j (hj:j<S.pts.length),j<i->VP S.pts[j]) ⟨hl1,λj _ hj=>by omega⟩ ?_;rintro i h2 hi ⟨hl2,hno⟩ k hk2;refine ze (λh3=>?_) (λh3=>?_)
 . have hi':i<S.pts.length:=by simp only at h3;omega
   refine zh (λ_ h'=>h.le h'/\VP S.pts[i]) (λ_ h' hh=>hk2 _ hi' ⟨hh.1,zqp hno hi' hh.2⟩) ?_;refine(hx.le hl2).1.get z13 i rfl hi' λa x hxx hc=>?_
   simp only[W7,Gi];refine⟨_,hc 0 _ rfl,_,hc 1 _ rfl,_,hc 2 _ rfl,_,hc 3 _ rfl,?_⟩;refine zg7 (x:=x.x) hxx.1 λh4 hl4=>?_
   have nop:¬VP S.pts[i]->¬VS S:=λhn hv=>hn (hv.1 _ (Jh hi'))
   refine zi (λh5=>no _ (Hp.le_trans hl2 hl4) (nop λhv=>by rw[hv.1]at h5;cases h5)) (λh5=>?_);refine(hx.le (Hp.le_trans hl2 hl4)).1.get z13 i rfl hi' λa2 x2 hxx2 hc2=>?_
   refine⟨_,hc2 4 _ rfl,_,hc2 5 _ rfl,_,hc2 6 _ rfl,_,hc2 7 _ rfl,?_⟩;refine zg7 (x:=x2.y) hxx2.2 λh6 hl6=>?_
   have hle:=Hp.le_trans hl2 (Hp.le_trans hl4 hl6);exact zi (λh7=>no _ hle (nop λhv=>by rw[hv.2]at h7;cases h7)) (λh7=>⟨hle,by simpa using h5,by simpa using h7⟩)
 . have v1:=zgg hno (by simp only at h3;omega);refine yg (n:=S.cir.length) (by omega) (λi h'=>h.le h'/\∀j (hj:j<S.cir.length),j<i->VR S S.cir[j]) ⟨hl2,λj _ hj=>by omega⟩ ?_;clear hno hk2 hi hl2 h3;rintro i h2 hi ⟨hl2,hno⟩ k hk2;refine ze (λh3=>?_) (λh3=>?_)
   . have hi':i<S.cir.length:=by simp only at h3;omega
     refine zh (λ_ h'=>h.le h'/\VR S S.cir[i]) (λ_ h' hh=>hk2 _ hi' ⟨hh.1,zqp hno hi' hh.2⟩) ?_;refine(hx.le hl2).2.1.get z31 i rfl hi' λa x hxx hc=>?_
     refine⟨_,hc 0 _ rfl,_,hc 1 _ rfl,_,hc 2 _ rfl,_,hc 3 _ rfl,_,hc 4 _ rfl,?_⟩;have nop:¬VR S S.cir[i]->¬VS S:=λhn hv=>hn (hv.2.1 _ (Jh hi'))
     obtain⟨x1,x2⟩:=hxx;rw[x1,l1];refine z3c λb hb=>zi (λh5=>no _ hl2 (nop λhv=>by rw[hb.2 hv.1]at h5;cases h5)) (λh5=>?_)
     refine zg7 (x:=x.radius) x2 λh6 hl6=>?_
     refine zi (λh7=>no _ (Hp.le_trans hl2 hl6) (nop λhv=>by obtain⟨q,hq,_⟩:=hv.2;rw[hq]at h7;cases h7)) (λh7=>?_);have h7':S.cir[i].2.isSome=true:=by simpa using h7
     obtain⟨q,hq⟩:=G8.1 h7';rw[hq]at x2;refine zq4 (x:=x.radius) (x2.nr.le hl6) x2.2.1 ?_;refine ze (λh8=>no _ (Hp.le_trans hl2 hl6) (nop λhv=>?_)) (λh8=>⟨Hp.le_trans hl2 hl6,hb.1 (by simpa using h5),q,hq,Zjz.1 (by omega)⟩);obtain⟨q',hq',h9⟩:=hv.2;rw[hq]at hq';cases hq';have:=Zjz.2 h9;omega
   . have v2:=zgg hno (by simp only at h3;omega);refine yg (n:=S.seg.length) (by omega) (λi h'=>h.le h'/\∀j (hj:j<S.seg.length),j<i->VG S S.seg[j]) ⟨hl2,λj _ hj=>by omega⟩ ?_;clear hno hk2 hi hl2 h3;rintro i h2 hi ⟨hl2,hno⟩ k hk2;refine ze (λh3=>?_) (λh3=>?_)
     . have hi':i<S.seg.length:=by simp only at h3;omega
       refine zh (λ_ h'=>h.le h'/\VG S S.seg[i]) (λ_ h' hh=>hk2 _ hi' ⟨hh.1,zqp hno hi' hh.2⟩) ?_;refine(hx.le hl2).2.2.1.get z6h i rfl hi' λa x hxx hc=>?_
       have hxx:x=S.seg[i]:=hxx;subst hxx;refine⟨_,hc 0 _ rfl,_,hc 1 _ rfl,?_⟩;have nop:¬VG S S.seg[i]->¬VS S:=λhn hv=>hn (hv.2.2.1 _ (Jh hi'))
       rw[l1];refine z3c λb hb=>zi (λh5=>no _ hl2 (nop λhv=>by rw[hb.2 hv.1]at h5;cases h5)) (λh5=>?_)
       refine z3c λb6 hb6=>zi (λh7=>no _ hl2 (nop λhv=>by rw[hb6.2 hv.2.1]at h7;cases h7)) (λh7=>?_)
       exact zu (λh8=>no _ hl2 (nop λhv=>hv.2.2 h8)) (λh8=>⟨hl2,hb.1 (by simpa using h5),hb6.1 (by simpa using h7),h8⟩)
     . have v3:=zgg hno (by simp only at h3;omega);refine yg (n:=S.arc.length) (by omega) (λi h'=>h.le h'/\∀j (hj:j<S.arc.length),j<i->VA S S.arc[j]) ⟨hl2,λj _ hj=>by omega⟩ ?_;clear hno hk2 hi hl2 h3;rintro i h2 hi ⟨hl2,hno⟩ k hk2;refine ze (λh3=>?_) (λh3=>?_)
       . have hi':i<S.arc.length:=by simp only at h3;omega
         refine zh (λ_ h'=>h.le h'/\VA S S.arc[i]) (λ_ h' hh=>hk2 _ hi' ⟨hh.1,zqp hno hi' hh.2⟩) ?_;refine(hx.le hl2).2.2.2.1.get z0o i rfl hi' λa x hxx hc=>?_
         have hxx:x=S.arc[i]:=hxx;subst hxx;refine⟨_,hc 0 _ rfl,_,hc 1 _ rfl,_,hc 2 _ rfl,_,hc 3 _ rfl,?_⟩;have nop:¬VA S S.arc[i]->¬VS S:=λhn hv=>hn (hv.2.2.2.1 _ (Jh hi'))
         rw[l1,l2];refine z3c λb hb=>zi (λh5=>no _ hl2 (nop λhv=>by rw[hb.2 hv.1]at h5;cases h5)) (λh5=>?_)
         refine z3c λb6 hb6=>zi (λh7=>no _ hl2 (nop λhv=>by rw[hb6.2 hv.2.1]at h7;cases h7)) (λh7=>?_)
         refine z3c λb8 hb8=>zi (λh9=>no _ hl2 (nop λhv=>by rw[hb8.2 hv.2.2.1]at h9;cases h9)) (λh9=>?_)
         have hc5:=hb.1 (by simpa using h5);refine zoi (hx.le hl2) hc5 (zu (λh10=>no _ hl2 (nop λhv=>hv.2.2.2.1 h10)) λh10=>?_);exact zoi (hx.le hl2) hc5 (zu (λh11=>no _ hl2 (nop λhv=>hv.2.2.2.2 h11)) λh11=>⟨hl2,hc5,hb6.1 (by simpa using h7),hb8.1 (by simpa using h9),h10,h11⟩)
       . have v4:=zgg hno (by simp only at h3;omega);refine yg (n:=S.chn.length) (by omega) (λi h'=>h.le h'/\∀j (hj:j<S.chn.length),j<i->VCh S S.chn[j]) ⟨hl2,λj _ hj=>by omega⟩ ?_;clear hno hk2 hi hl2 h3;rintro i h2 hi ⟨hl2,hno⟩ k hk2;refine ze (λh3=>?_) (λh3=>?_)
         . have hi':i<S.chn.length:=by simp only at h3;omega
           refine(hx.le hl2).2.2.2.2.1.get z3j i rfl hi' λa x hxx hc=>?_
           have e0:=hc 0 _ rfl;rw[Zw]at e0;refine⟨_,e0,?_⟩;have nop:¬VCh S S.chn[i]->¬VS S:=λhn hv=>hn (hv.2.2.2.2.1 _ (Jh hi'))
           refine zt1 (hx.le hl2) hxx (by have:=s7 _ (Jh hi');omega) hs' λb hb=>?_
           exact zi (λh5=>no _ hl2 (nop λhv=>by rw[hb.2 hv]at h5;cases h5)) (λh5=>hk2 _ hi' ⟨hl2,zqp hno hi' (hb.1 (by simpa using h5))⟩)
         . have v5:=zgg hno (by simp only at h3;omega);refine yg (n:=S.con.length) (by omega) (λi h'=>h.le h'/\∀j (hj:j<S.con.length),j<i->VC S.con[j] S.pts.length S.cir.length) ⟨hl2,λj _ hj=>by omega⟩ ?_;clear hno hk2 hi hl2 h3;rintro i h2 hi ⟨hl2,hno⟩ k hk2;refine ze (λh3=>?_) (λh3=>?_)
           . have hi':i<S.con.length:=by simp only at h3;omega
             refine(hx.le hl2).2.2.2.2.2.get yw i rfl hi' λa x hxx hc=>?_
             refine⟨_,hc 0 _ rfl,_,hc 1 _ rfl,_,hc 2 _ rfl,_,hc 3 _ rfl,_,hc 4 _ rfl,?_⟩;have nop:¬VC S.con[i] S.pts.length S.cir.length->¬VS S:=λhn hv=>hn (hv.2.2.2.2.2 _ (Jh hi'))
             rw[l1,l2];refine zpy (x:=x) hxx (s8 _ (Jh hi')) λb h4 hl4 hb=>?_
             have hle:=Hp.le_trans hl2 hl4;exact zi (λh5=>no _ hle (nop λhv=>by rw[hb.2 hv]at h5;cases h5)) (λh5=>hk2 _ hi' ⟨hle,zqp (P:=λc=>VC c S.pts.length S.cir.length) hno hi' (hb.1 (by simpa using h5))⟩)
           . have v6:=zgg (P:=λc=>VC c S.pts.length S.cir.length) hno (by simp only at h3;omega);exact hk _ _ hl2 ⟨λ_=>⟨v1,v2,v3,v4,v5,v6⟩,λ_=>rfl⟩ (.inl rfl)
theorem zq6(hx:SK h s S)(hs:sSk S)(H:∀r h',h.le h'->(r=0↔VS S)->Ki r h'):zc (F.z62 s) Ki h:=zmo hx hs λr h' h1 h2 _=>H r h' h1 h2
end
end Den
end

section
namespace Den
open Go Iv Lx
section
variable {D h h' : Hp} {n : Nat} {l : Sl} {cs : List Value}
theorem Own.newb{K:Addr->Hp->Prop}{cells:List Value}(ho:Own D h n l cs)(H:∀a D' h',D.le D'->h.le h'->Own D' h' n l cs->(∀i v,cells[i]?=Option.some v->D'.cell (a.add i)=Option.some v)->K a h'):Y2 cells K h:=by
 intro b e hb;obtain⟨g1,g2,g3,g4⟩:=ho;have hDb:D b=none:=by
  cases hd:D b with
  | none=>rfl
  | some x=>rw[g1 _ _ hd]at hb;cases hb
 refine H _ (D.ins b ⟨cells,e,(0,0)⟩) _ (Hp.le_ins hDb) (Hp.le_ins hb) ⟨?_,g2,g3,?_⟩ λi v hv=>?_
 . intro k x hk;by_cases hkb:k=b
   . subst hkb;rw[Hp.ins_same]at hk |-;exact hk
   . rw[Hp.ins_ne hkb]at hk |-;exact g1 _ _ hk
 . cases ha:l.a with
   | none=>rw[ha]at g4;exact g4
   | some a=>
     rw[ha]at g4;obtain⟨k1,k2,k3,x,k4,k5⟩:=g4;have hne:a.block≠b:=λhh=>by rw[hh,hb]at k4;cases k4
     exact⟨k1,k2,by rw[Hp.ins_ne hne];exact k3,x,by rw[Hp.ins_ne hne];exact k4,k5⟩
 . unfold Hp.cell;rw[Yr,z0e rfl,X4];simpa [Hp.ins_same] using hv
theorem Own.preN{x:Sl}{k:Nat}(ho:Own D h n x cs)(hk:k<=x.len):Own D h n (x.cut 0 k n) (cs.take (k*n)):=by
 have hc:=ho.2.2.1;obtain⟨g1,g2,g3,g4⟩:=ho;have hkl:k*n<=cs.length:=by rw[<-g2];exact Jj _ hk
 have el:(cs.take (k*n)).length=k*n:=by rw[Jl];omega
 refine⟨g1,?_,?_,?_⟩
 . show(k-0)*n=_;rw[el,Nat.sub_zero]
 . show k-0<=x.cap-0;omega
 . rw[zn3];cases ha:x.a with
   | none=>
     rw[ha]at g4;simp only at g4 |-
     show x.cap-0=0;omega
   | some a=>
     rw[ha]at g4;obtain⟨k1,k2,k3,b,k4,k5,k6,k7⟩:=g4;refine⟨k1,k2,k3,b,k4,k5,k6,?_⟩;rw[el];have:=congrArg (List.take (k*n)) k7;rw[List.take_take,Nat.min_eq_left (by omega)]at this;exact this
end
section
variable {α β : Type} {c : α → List Value} {n : Nat} {P : Hp → α → β → Prop} {D h h' : Hp} {l : Sl} {ps : List β}
theorem LO.newb{K:Addr->Hp->Prop}{cells:List Value}(hR:Rec c n P)(hx:LO c n P D h l ps)(H:∀a D' h',D.le D'->h.le h'->LO c n P D' h' l ps->(∀i v,cells[i]?=Option.some v->D'.cell (a.add i)=Option.some v)->K a h'):Y2 cells K h:=by
 obtain⟨xs,h1,h3,h4⟩:=hx;exact h1.newb λa D' h' g1 g2 g3 g4=>H a D' h' g1 g2 ⟨xs,g3,h3,λk k1 k2=>hR.mono (h4 k k1 k2) g1⟩ g4
theorem LO.le(hx:LO c n P D h l ps)(hl:h.le h'):LO c n P D h' l ps:=by
 obtain⟨xs,h1,h3,h4⟩:=hx;exact⟨xs,h1.le hl,h3,h4⟩
theorem LO.appAll{K:Sl->Hp->Prop}{m:Sl}{qs:List β}{bytes:Nat}{zero:List Value}(hR:Rec c n P)(hx:LO c n P D h l ps)(hm:LR c n P D m qs)(hz:zero.length=n)(hlen:(ps.length+qs.length)*bytes<=140737488355328)(hlen2:ps.length+qs.length<=140737488355328)
 (H:∀y h',LO c n P D h' y (ps++qs)->K y h'):rdO m.a (m.len*n) (λvs=>ql n bytes zero l m.len vs K h) h:=by
 have hl:=hx.len hR;have hml:=hm.len hR;obtain⟨ys,g1,g2,g3,g4⟩:=hm;obtain⟨xs,h1,h3,h4⟩:=hx;refine⟨ys.flatMap c,?_,?_⟩
 . have:=(g1.le h1.1).2
   rwa [<-g1.1]at this
 . refine z54 h1 (n:=m.len) (new:=ys.flatMap c) g1.1.symm hz ?_ (by rw[hl,hml];exact hlen) (by rw[hl,hml];exact hlen2) λy h' hy hyl=>H y h' ⟨xs++ys,by rw[G5];exact hy,by simp[h3,g3],λk k1 k2=>?_⟩
   . rw[List.all_flatMap,Jz];exact λx _=>hR.leaf x
   . rcases Jo k xs.length with h5 | h5
     . rw[Tk h5,Tk (by omega)];exact h4 k h5 (by omega)
     . rw[Te h5,Te (by omega)];have e:k-xs.length=k-ps.length:=by omega
       have k1':k-xs.length<ys.length:=by simp at k1;omega
       have:=g4 (k-xs.length) k1' (by omega);simp only[e]at this |-
       exact this
theorem Zjp{K:Addr->Hp->Prop}(H:∀a h',LO c n P h h' ⟨some a,0,0⟩ []->K a h'):Y2 [] K h:=by
 refine z3s (n:=0) (size:=n) (by simp) λb h' hb ho=>H _ _ ⟨[],?_,rfl,λk h1 _=>by simp at h1⟩
 exact ho
end
section
variable {D h h' : Hp} {l m : Sl} {xs ys : List Int} {K : Sl → Hp → Prop}
theorem OI.le(ho:OI D h l xs)(hl:h.le h'):OI D h' l xs:=Own.le ho hl
theorem OI.base{h0:Hp}(ho:OI D h l xs)(hl:h0.le D):OI h0 h l xs:=Own.base ho hl
end
theorem Zjq{z vs:List Value}{K:Addr->Hp->Prop}{h:Hp}(hlen:vs.length=z.length)(hleaf:vs.all Value.leaf=true)(H:Y2 vs K h):Y2 z (λa h'=>stP a vs (K a) h') h:=by
 intro b e hb;refine⟨_,Hp.ins_same _ _ _,rfl,rfl,by simp[hlen],hleaf,?_⟩;have e2:Zc z 0 vs=vs:=by unfold Zc;simp[hlen]
 simp only[e2];rw[Hp.ins_ins];exact H b e hb
def onC(c:PCon)(p k:Int):Prop:=c.kind=13/\c.pts=[p]/\c.cir=[k]
instance (c:PCon) (p k:Int):Decidable (onC c p k):=by unfold onC;infer_instance
def z1n(p k:Int):PCon:=⟨13,[p],[k],[],0⟩
def z4e(con out:List PCon)(p k:Int):List PCon:=if (∃c∈con++out,onC c p k)then out else out++[z1n p k]
def zji(con out:List PCon)(a:TArc):List PCon:=z4e con (z4e con out a.a a.circle) a.b a.circle
def zfq(con:List PCon)(l:List TArc):List PCon:=l.foldl (zji con) []
def imp(S:PSk):List PCon:=zfq S.con S.arc
def Yw(S:PSk):List PCon:=S.con++imp S
def qw(S:PSk):List Int:=S.cir.map (·.1)
theorem zh7{con:List PCon}{l:List TArc}{i:Nat}(hi:i<l.length):zfq con (l.take (i+1))=zji con (zfq con (l.take i)) l[i]:=by
 unfold zfq;rw[<-Jk hi,List.foldl_append];rfl
theorem zgs(con out:List PCon)(p k:Int):(z4e con out p k).length<=out.length+1:=by
 unfold z4e;split<;>simp
theorem zki(con:List PCon)(l:List TArc):∀i,i<=l.length->(zfq con (l.take i)).length<=2*i
 | 0,_=>by simp[zfq]
 | i+1,hi=>by
   rw[zh7 (by omega)];have:=zki con l i (by omega);unfold zji;have h1:=zgs con (z4e con (zfq con (l.take i)) l[i].a l[i].circle) l[i].b l[i].circle;have h2:=zgs con (zfq con (l.take i)) l[i].a l[i].circle;omega
theorem zpg(S:PSk):(imp S).length<=2*S.arc.length:=by
 have:=zki S.con S.arc S.arc.length (Ja _)
 rwa [Jw]at this
def VC1(c:PCon):Prop:=c.pts.length<=10/\c.cir.length<=10/\(c.kind=13->c.pts.length=1/\c.cir.length=1/\c.vals=[]/\c.side=0)
theorem VC.one{c:PCon}{n m:Int}(hv:VC c n m)(hs:sC c):VC1 c:=⟨hs.1,hs.2.1,λhk=>by
 obtain⟨_,h2,h3,h4,_,h6,_⟩:=hv;rw[hk]at h2 h3 h4 h6;exact⟨h2.1,h3.1,Jn h4,by simpa [shK,Zc1] using h6⟩⟩
theorem Zhp{n m:Nat}{p k:Int}(hp:zbi n p)(hk:zbi m k):VC (z1n p k) n m:=by
 unfold zbi at hp hk;refine⟨⟨by simp[z1n],by simp[z1n]⟩,⟨rfl,?_⟩,⟨rfl,?_⟩,rfl,by simp[z1n],by simp[z1n,shK,Zc1],?_⟩
 . intro x hx;have:x=p:=by simpa [z1n] using hx
   omega
 . intro x hx;have:x=k:=by simpa [z1n] using hx
   omega
 . rw[if_neg (show ¬z2d (z1n p k).kind by unfold z2d z1n;simp only;omega)];exact⟨by simp[z1n],by simp[z1n]⟩
theorem Zh4{p k:Int}:sC (z1n p k):=⟨by simp[z1n],by simp[z1n],by simp[z1n],by simp[z1n]⟩
theorem zgr{P:PCon->Prop}{con out:List PCon}{p k:Int}(ho:∀c∈out,P c)(hp:P (z1n p k)):∀c∈z4e con out p k,P c:=by
 unfold z4e;split
 . exact ho
 . intro c hc;rcases Ub.1 hc with hc | hc
   . exact ho c hc
   . rw[J6.1 hc];exact hp
theorem zkh{P:PCon->Prop}{con:List PCon}{l:List TArc}(hp:∀a∈l,P (z1n a.a a.circle)/\P (z1n a.b a.circle)):∀i,i<=l.length->∀c∈zfq con (l.take i),P c
 | 0,_=>by simp[zfq]
 | i+1,hi=>by
   rw[zh7 (by omega)];have h1:=zkh (con:=con) hp i (by omega);have h2:=hp _ (Jh (show i<l.length by omega));exact zgr (zgr h1 h2.1) h2.2
theorem Zdx{P:PCon->Prop}{S:PSk}(hp:∀a∈S.arc,P (z1n a.a a.circle)/\P (z1n a.b a.circle)):∀c∈imp S,P c:=by
 have:=zkh (con:=S.con) hp S.arc.length (Ja _)
 rwa [Jw]at this
theorem zd4{S:PSk}(hv:VS S)(hs:sSk S):∀c∈Yw S,VC c S.pts.length S.cir.length/\sC c:=by
 intro c hc;rcases Ub.1 hc with hc | hc
 . exact⟨hv.2.2.2.2.2 c hc,hs.2.2.2.2.2.2.2 c hc⟩
 . refine Zdx (P:=λc=>VC c S.pts.length S.cir.length/\sC c) (λa ha=>?_) c hc;have:=hv.2.2.2.1 a ha;exact⟨⟨Zhp this.2.1 this.1,Zh4⟩,⟨Zhp this.2.2.1 this.1,Zh4⟩⟩
theorem zf7{S:PSk}(hs:sSk S):(Yw S).length<=40:=by
 have h1:=zpg S;have h2:=hs.2.2.2.1;have h3:=hs.2.2.2.2.2.1;unfold Yw;rw[Je];omega
section
variable {h : Hp} {s : TSketch} {S : PSk} {Kb : Bool → Hp → Prop} {Ki : Int → Hp → Prop} {Ks : Sl → Hp → Prop} {l m : Sl} {xs ys : List Int}
theorem Z3g{s:Sl}{ps:List PCon}{g:PCon->Prop}{G:TConstraint->(Bool->Hp->Prop)->Hp->Prop}(hx:LR cc 5 CO h s ps)(hlen:ps.length<=1000000)
 (hG:∀x c h',h.le h'->CO h' x c->c∈ps->∀K:Bool->Hp->Prop,(∀b h'',h'.le h''->(b=true↔g c)->K b h'')->zc (G x) K h') (H:∀r h',h.le h'->(0<=r↔∃c∈ps,g c)->Ki r h') :
 (zn (S:=Int×Unit) (λs1 k2 h1=>
 (ifP (decide (s1.1<(s.len:Int)))
 (zg s s1.1 5 λa3=>
 (ldL (.int .i64) (a3.add 0) (λx4_0=>
 (ldL (.sl) (a3.add 1) (λx4_1=>
 (ldL (.sl) (a3.add 2) (λx4_2=>
 (ldL (.sl) (a3.add 3) (λx4_3=>
 (ldL (.int .i64) (a3.add 4) (λx4_4=>
 (zc (G (⟨x4_0,x4_1,x4_2,x4_3,x4_4⟩:TConstraint)) (λr5 h2=>
 (ifP r5
 (Ki s1.1 h2)
 (k2 ((i64.wrap (s1.1+1)),()) h2))) h1)) h1)) h1)) h1)) h1)) h1))
 (Ki (-1) h1)))
 (0,()) h):=by
  have hl:=hx.len yw;refine zc1 (n:=ps.length) (g:=λi=>∃h:i<ps.length,g ps[i]) (by omega) (λi h' k hl' hi' hb=>?_) (λh' k hk=>ze (λhh=>by simp only at hh;omega) (λ_=>hk)) (λr h' hl hr=>H _ _ hl (by
   rw[hr];constructor
   . rintro⟨i,hi,hi2,hg⟩;exact⟨_,Jh hi2,hg⟩
   . rintro⟨c,hc,hg⟩;obtain⟨i,hi,rfl⟩:=Gh.1 hc;exact⟨i,hi,hi,hg⟩))
  refine ze (λ_=>?_) (λhh=>by simp only at hh;omega);refine(hx.le yw hl').get yw i rfl hi' λa x hxx hc=>?_
  refine⟨_,hc 0 _ rfl,_,hc 1 _ rfl,_,hc 2 _ rfl,_,hc 3 _ rfl,_,hc 4 _ rfl,?_⟩;exact hG _ _ _ hl' hxx (Jh _) _ λb h3 hl3 hbb=>hb b h3 hl3 (by rw[hbb];exact⟨λhh=>⟨hi',hh⟩,λ⟨_,hh⟩=>hh⟩)
theorem zi6(hx:IL h l xs)(hy:IL h m ys)(hlen:xs.length<=1000000)(H:∀b h',h.le h'->(b=true↔xs=ys)->Kb b h'):zc (F.Xs l m) Kb h:=by
 refine zd (λb h'=>b=true↔xs=ys) (λK' hk=>?_) λb h' hl hb=>H b h' hl hb
 unfold F.Xs;have hl:=hx.len;have hm:=hy.len;refine Z2 (λh1=>hk _ _ (Hp.le_refl _) ⟨λhh=>(by cases hh),λhh=>?_⟩) (λh1=>?_)
 . exfalso;subst hh;omega
 have hl2:xs.length=ys.length:=by omega
 refine yg (n:=xs.length) (by omega) (λi h'=>h'=h/\xs.take i=ys.take i) ⟨rfl,by simp⟩ ?_;rintro i h hi ⟨rfl,heq⟩ k hk2;refine ze (λh2=>?_) (λh2=>?_)
 . have hi':i<xs.length:=by simp only at h2;omega
   refine hx.get i rfl hi' (hy.get i rfl (by omega) ?_);refine Z2 (λh3=>hk _ _ (Hp.le_refl _) ⟨λhh=>(by cases hh),λhh=>?_⟩) (λh3=>hk2 _ hi' ⟨rfl,?_⟩)
   . subst hh;exact absurd rfl h3
   . rw[<-Jk hi',<-Jk (show i<ys.length by omega),heq,h3]
 . have:i=xs.length:=by simp only at h2;omega
   subst this;refine hk _ _ (Hp.le_refl _) ⟨λ_=>?_,λ_=>rfl⟩;rw[Jw,hl2,Jw]at heq;exact heq
theorem zra{x y:TConstraint}{c:PCon}{p k:Int}(hx:CO h x (z1n p k))(hy:CO h y c)(hv:VC1 c)(H:∀b h',h.le h'->(b=true↔onC c p k)->Kb b h'):zc (F.z1d x y) Kb h:=by
 refine zd (λb h'=>b=true↔onC c p k) (λK' hk=>?_) λb h' hl hb=>H b h' hl hb
 unfold F.z1d;obtain⟨x1,x2,x3,x4,x5⟩:=hx;obtain⟨y1,y2,y3,y4,y5⟩:=hy;obtain⟨v1,v2,v3⟩:=hv;have no:∀h',h.le h'->¬onC c p k->K' false h':=λh' hl hn=>hk _ _ hl ⟨λhh=>(by cases hh),λhh=>absurd hh hn⟩
 rw[x1,x5,y1,y5];refine zu (λh1=>?_) (λh1=>no _ (Hp.le_refl _) λhv=>h1 hv.1.symm);have hk13:c.kind=13:=h1.symm;obtain⟨w1,w2,w3,w4⟩:=v3 hk13;refine zu (λh2=>?_) (λh2=>absurd (show(z1n p k).side=c.side by rw[w4];rfl) h2);refine zi6 x2 y2 (by simp[z1n]) λb h3 hl3 hb=>?_
 refine zi (λh4=>?_) (λh4=>no _ hl3 λhv=>by rw[hb.2 hv.2.1.symm]at h4;cases h4);refine zi6 (x3.le hl3) (y3.le hl3) (by simp[z1n]) λb5 h5 hl5 hb5=>?_
 have hle:=Hp.le_trans hl3 hl5;refine zi (λh6=>?_) (λh6=>no _ hle λhv=>by rw[hb5.2 hv.2.2.symm]at h6;cases h6);refine zd (λb h'=>b=true) (λK2 hk2=>?_) λb h7 hl7 hb7=>hk _ _ (Hp.le_trans hle hl7) ⟨λ_=>⟨hk13,(hb.1 h4).symm,(hb5.1 h6).symm⟩,λ_=>hb7⟩
 unfold F.Zu;refine⟨1,?_⟩;unfold F.zp;have e1:=x4.len Vx;have e2:=y4.len Vx;rw[w3]at e2;have e3:x.values.len=0:=e1;have e4:y.values.len=0:=e2;refine Z2 (λh8=>by rw[e3,e4]at h8;exact absurd rfl h8) (λ_=>?_);refine Zp (λst h'=>h'=h5/\st=(0,())) (λ_=>0) ⟨rfl,rfl⟩ ?_;rintro st h5 ⟨rfl,rfl⟩;refine ze (λh8=>by rw[e3]at h8;exact absurd h8 (by decide)) (λ_=>hk2 _ _ (Hp.le_refl _) rfl)
def CKC(h:Hp)(a:Addr)(x:TConstraint):Prop:=∀i v,(cc x)[i]?=some v->h.cell (a.add i)=some v
theorem ze8{s:Sl}{ps:List PCon}{a:Addr}{x:TConstraint}{p k:Int}(hx:LR cc 5 CO h s ps)(hlen:ps.length<=1000000)(hv:∀c∈ps,VC1 c)(ha:CKC h a x)(hc:CO h x (z1n p k))(H:∀b h',h.le h'->(b=true↔∃c∈ps,onC c p k)->Kb b h') :
 zc (F.zq s (some a,())) Kb h:=by
 refine zd (λb h'=>(b=true↔∃c∈ps,onC c p k)) (λK2 hk2=>?_) λb h' hl hb=>H _ _ hl hb
 unfold F.zq;refine zd (λr h'=>(0<=r↔∃c∈ps,onC c p k)) (λK3 hk3=>?_) λr h' hl hr=>hk2 _ _ hl (by rw[decide_eq_true_iff];exact hr)
 unfold F.Zz;refine Z3g (g:=λc=>onC c p k) (G:=λx=>F.z1t x (some a,()).1) hx hlen (λy c h' hl' hy hm K hK=>?_) λr h' hl hr=>hk3 _ _ hl hr
 refine zd (λb h'=>(b=true↔onC c p k)) (λK4 hk4=>?_) λb h'' hl'' hbb=>hK b h'' hl'' hbb
 unfold F.z1t;have c0:CKC h' a x:=λi v hv=>Hp.cell_le hl' (ha i v hv)
 refine⟨_,c0 0 _ rfl,_,c0 1 _ rfl,_,c0 2 _ rfl,_,c0 3 _ rfl,_,c0 4 _ rfl,?_⟩;exact zra (x:=x) (hc.le hl') hy (hv c hm) λb h'' hl hb=>hk4 _ _ hl hb
theorem Z9c{a:Addr}{z:Int}{c:Nat}(hc:h.cell a=some (.int .i64 z))(hcap:1<=c):IL h ⟨some a,1,c⟩ [z]:=by
 refine⟨z3w (cells:=[ic z]) (λi v hv=>?_) rfl,hcap⟩;cases i with
 | zero=>
   rw[Zw,hc];simpa [ic] using hv
 | succ i=>simp at hv
theorem VS.one{c:PCon}(hv:VS S)(hs:sSk S)(hc:c∈S.con):VC1 c:=(hv.2.2.2.2.2 c hc).one (hs.2.2.2.2.2.2.2 c hc)
theorem zwu{p k:Int}:VC1 (z1n p k):=⟨by simp[z1n],by simp[z1n],λ_=>⟨rfl,rfl,rfl,rfl⟩⟩
theorem Zdy:∀i,i<=S.arc.length->∀c∈zfq S.con (S.arc.take i),VC1 c:=zkh λa _=>⟨zwu,zwu⟩
end
end Den
end

section
namespace Den
open Go Iv Lx
def itK(c:PCon)(cs:List Int)(k:Int):List Int:=if c.kind=13\/c.kind=16\/c.kind=17 then [-1-k,cs.getD k.toNat 0]else [-1-k]
def Qq(c:PCon)(cs:List Int):List Int:=c.pts++c.cir.flatMap (itK c cs)
theorem zza(c:PCon)(cs:List Int)(k:Int):(itK c cs k).length<=2:=by unfold itK;split<;>simp
theorem zkl{c:PCon}{cs:List Int}(hs:sC c):(Qq c cs).length<=30:=by
 unfold Qq;have:∀l:List Int,(l.flatMap (itK c cs)).length<=2*l.length:=by
  intro l;induction l with
  | nil=>simp
  | cons a r ih=>
    have:=zza c cs a;simp only[Ur,Je,J3];omega
 have h1:=this c.cir;have h2:=hs.1;have h3:=hs.2.1;rw[Je];omega
section
variable {h : Hp} {s : TSketch} {S : PSk} {Kb : Bool → Hp → Prop} {Ki : Int → Hp → Prop} {Ks : Sl → Hp → Prop} {l m : Sl} {xs ys : List Int}
theorem Zpt{a b:Addr}{p k:Int}{va vs:Sl}(ha:h.cell a=some (.int .i64 p))(hb:h.cell b=some (.int .i64 k)):CO h ⟨13,⟨some a,1,1⟩,⟨some b,1,1⟩,zf,0⟩ (z1n p k):=
 ⟨rfl,Z9c ha (by decide),Z9c hb (by decide),LR.nil,rfl⟩
theorem Zdd{i:Int}{K:Addr->Prop}(hx:SK h s S)(k:Nat)(hi:i=k)(hk:k<S.arc.length)(H:∀a,(∀j v,(Zde S.arc[k])[j]?=some v->h.cell (a.add j)=some v)->K a):zg s.arcs i 4 K:=
 hx.2.2.2.1.get z0o k hi hk λa x hxx hc=>H a (by have hxx:x=S.arc[k]:=hxx;rw[<-hxx];exact hc)
theorem zs7{A:TArc}{out:List PCon}{p:Int}{y:Sl}{D:Hp}{K:Sl×Unit->Hp->Prop}(hv:VS S)(hs:sSk S)(hlen:out.length<=100)(hone:∀c∈out,VC1 c)(hS:SK D s S)(ho:LO cc 5 CO D h y out)
 (hK:∀y' D' h',D.le D'->LO cc 5 CO D' h' y' (z4e S.con out p A.circle)->K (y',()) h') :
 Y2 [.int .i64 p] (λp12 h5=>
 (Y2 [.int .i64 A.circle] (λp13 h6=>
 (Y2 [.int .i64 0,.slice zf.a zf.len zf.cap,.slice zf.a zf.len zf.cap,.slice zf.a zf.len zf.cap,.int .i64 0] (λp14 h7=>
 (stP p14 [.int .i64 13,.slice (⟨some p12,1,1⟩:Sl).a (⟨some p12,1,1⟩:Sl).len (⟨some p12,1,1⟩:Sl).cap,.slice (⟨some p13,1,1⟩:Sl).a (⟨some p13,1,1⟩:Sl).len (⟨some p13,1,1⟩:Sl).cap,.slice zf.a zf.len zf.cap,.int .i64 0] (λh8=>
 (zc (F.zq s.constraints ((some p14),())) (λr15 h9=>
 (ifP (!r15)
 (zc (F.zq y ((some p14),())) (λr16 h10=>
 (ifP (!r16)
 (ldL (.int .i64) (p14.add 0) (λx17_0=>
 (ldL (.sl) (p14.add 1) (λx17_1=>
 (ldL (.sl) (p14.add 2) (λx17_2=>
 (ldL (.sl) (p14.add 3) (λx17_3=>
 (ldL (.int .i64) (p14.add 4) (λx17_4=>
 (ql 5 88 [.int .i64 0,.slice zf.a zf.len zf.cap,.slice zf.a zf.len zf.cap,.slice zf.a zf.len zf.cap,.int .i64 0] y 1 [.int .i64 x17_0,.slice x17_1.a x17_1.len x17_1.cap,.slice x17_2.a x17_2.len x17_2.cap,.slice x17_3.a x17_3.len x17_3.cap,.int .i64 x17_4] (λw18 h11=>
 (K (w18,()) h11)) h10)) h10)) h10)) h10)) h10)) h10)
 (K (y,()) h10))) h9)
 (K (y,()) h9))) h8)) h7)) h6)) h5)) h:=by
  refine ho.newb yw λp12 D3 h4 d3 l4 ho4 c12=>ho4.newb yw λp13 D4 h5 d4 l5 ho5 c13=>?_
  refine Zjq (vs:=[.int .i64 13,.slice (⟨some p12,1,1⟩:Sl).a (⟨some p12,1,1⟩:Sl).len (⟨some p12,1,1⟩:Sl).cap,.slice (⟨some p13,1,1⟩:Sl).a (⟨some p13,1,1⟩:Sl).len (⟨some p13,1,1⟩:Sl).cap,.slice zf.a zf.len zf.cap,.int .i64 0]) rfl rfl ?_;refine ho5.newb yw λp14 D5 h6 d5 l6 ho6 c14=>?_
  have e12:D5.cell p12=some (.int .i64 p):=by
   have:=c12 0 _ rfl;rw[Zw]at this;exact Hp.cell_le (Hp.le_trans d4 d5) this
  have e13:D5.cell p13=some (.int .i64 A.circle):=by
   have:=c13 0 _ rfl;rw[Zw]at this;exact Hp.cell_le d5 this
  have hDD:D.le D5:=Hp.le_trans d3 (Hp.le_trans d4 d5);have hco:CO D5 ⟨13,⟨some p12,1,1⟩,⟨some p13,1,1⟩,zf,0⟩ (z1n p A.circle):=Zpt (va:=zf) (vs:=zf) e12 e13;have hck:CKC D5 p14 ⟨13,⟨some p12,1,1⟩,⟨some p13,1,1⟩,zf,0⟩:=c14;refine ho6.call yw (K1:=λb h'=>(b=true↔∃c∈S.con,onC c p A.circle)) ?_ λb D6 h7 d6 ho7 hb=>?_
  . exact ze8 (hS.le hDD).2.2.2.2.2 (by have:=hs.2.2.2.2.2.1;omega) (λc hc=>hv.one hs hc) hck hco λb h' hl hb=>hb
  have hck6:CKC D6 p14 ⟨13,⟨some p12,1,1⟩,⟨some p13,1,1⟩,zf,0⟩:=λi v hv=>Hp.cell_le d6 (hck i v hv)
  refine zi (λh8=>?_) (λh8=>?_)
  . have hb':¬∃c∈S.con,onC c p A.circle:=λhh=>by rw[hb.2 hh]at h8;cases h8
    refine ze8 (ho7.lr yw) (by omega) hone (λi v hv=>Hp.cell_le ho7.dle (hck6 i v hv)) ((hco.le d6).le ho7.dle) λb9 h9 hl9 hb9=>?_
    have ho9:=ho7.le hl9;refine zi (λh10=>?_) (λh10=>?_)
    . have hb9':¬∃c∈out,onC c p A.circle:=λhh=>by rw[hb9.2 hh]at h10;cases h10
      have c9:∀i v,(cc ⟨13,⟨some p12,1,1⟩,⟨some p13,1,1⟩,zf,0⟩)[i]?=some v->h9.cell (p14.add i)=some v:=λi v hv=>Hp.cell_le ho9.dle (hck6 i v hv)
      refine⟨_,c9 0 _ rfl,_,c9 1 _ rfl,_,c9 2 _ rfl,_,c9 3 _ rfl,_,c9 4 _ rfl,?_⟩;refine ho9.app yw (bytes:=88) (zero:=[.int .i64 0,.slice zf.a zf.len zf.cap,.slice zf.a zf.len zf.cap,.slice zf.a zf.len zf.cap,.int .i64 0]) (x:=⟨13,⟨some p12,1,1⟩,⟨some p13,1,1⟩,zf,0⟩) (b:=z1n p A.circle) (by rfl) (by omega) (by omega) (hco.le d6) λy' h11 ho11=>?_
      refine hK y' D6 h11 (Hp.le_trans hDD d6) ?_
      . have:z4e S.con out p A.circle=out++[z1n p A.circle]:=by
         unfold z4e;rw[if_neg];rintro⟨c,hc,hon⟩;rcases Ub.1 hc with hc | hc
         . exact hb' ⟨c,hc,hon⟩
         . exact hb9' ⟨c,hc,hon⟩
        rw[this];exact ho11
    . have hb9':∃c∈out,onC c p A.circle:=hb9.1 (by simpa using h10);refine hK y D6 h9 (Hp.le_trans hDD d6) ?_
      . have:z4e S.con out p A.circle=out:=by
         unfold z4e;rw[if_pos];obtain⟨c,hc,hon⟩:=hb9';exact⟨c,List.mem_append_right _ hc,hon⟩
        rw[this];exact ho9
  . have hb':∃c∈S.con,onC c p A.circle:=hb.1 (by simpa using h8);refine hK y D6 h7 (Hp.le_trans hDD d6) ?_
    . have:z4e S.con out p A.circle=out:=by
       unfold z4e;rw[if_pos];obtain⟨c,hc,hon⟩:=hb';exact⟨c,Jq _ hc,hon⟩
      rw[this];exact ho7
theorem zf5(hx:SK h s S)(hv:VS S)(hs:sSk S)(H:∀y h',h.le h'->LR cc 5 CO h' y (imp S)->Ks y h'):zc (F.z17 s) Ks h:=by
 refine zd (λy h'=>LR cc 5 CO h' y (imp S)) (λK' hk=>?_) λb h' hl hb=>H b h' hl hb
 unfold F.z17;have l4:=hx.2.2.2.1.len z0o;have s4:=hs.2.2.2.1;refine Yq (n:=S.arc.length) (by omega) (λi y h'=>∃D,h.le D/\LO cc 5 CO D h' y (zfq S.con (S.arc.take i))) ⟨h,Hp.le_refl _,LO.nil⟩ ?_;rintro i y h1 hi ⟨D,hD,ho⟩ k hk2;refine ze (λh2=>?_) (λh2=>?_)
 . have hi':i<S.arc.length:=by simp only at h2;omega
   have hlen:=zki S.con S.arc i hi;refine Zdd (hx.le (Hp.le_trans hD ho.dle)) i rfl hi' λa hc=>⟨_,hc 0 _ rfl,_,hc 1 _ rfl,_,hc 2 _ rfl,_,hc 3 _ rfl,?_⟩
   refine ho.newb yw λp5 D2 h3 d2 l3 ho3 c5=>?_
   have hD2:=Hp.le_trans hD d2;obtain⟨A,hA⟩:∃A,A=S.arc[i]:=⟨_,rfl⟩;rw[<-hA]at c5 |-
   obtain⟨out,hout⟩:∃out,out=zfq S.con (S.arc.take i):=⟨_,rfl⟩;rw[<-hout]at ho3 hlen;have hone:∀c∈out,VC1 c:=by rw[hout];exact Zdy i hi
   obtain⟨st,hst⟩:∃st:Nat->List PCon,st=λj=>if j=0 then out else if j=1 then z4e S.con out A.a A.circle else zji S.con out A:=⟨_,rfl⟩
   have st0:st 0=out:=by rw[hst];rfl
   have st1:st 1=z4e S.con out A.a A.circle:=by rw[hst];rfl
   have st2:st 2=zji S.con out A:=by rw[hst];rfl
   have a1:=zgs S.con out A.a A.circle;have hl5:IL D2 ⟨some p5,2,2⟩ [A.a,A.b]:=⟨z3w c5 rfl,Ja _⟩;refine Yq (n:=2) (by omega) (λj y h'=>∃D,D2.le D/\LO cc 5 CO D h' y (st j)) ⟨D2,Hp.le_refl _,by rw[st0];exact ho3⟩ ?_;rintro j z h4 hj ⟨D3,d3,ho4⟩ k2 hk3;refine ze (λh5=>?_) (λh5=>?_)
   . have hj':j<2:=by have:(j:Int)<((2:Nat):Int):=h5;omega
     refine zh (λs h'=>∃D,D2.le D/\LO cc 5 CO D h' s.1 (st (j+1))) (λs h' hs=>hk3 _ _ hj' hs) ?_;refine(hl5.le (Hp.le_trans d3 ho4.dle)).get j rfl hj' ?_;have fin:∀(p:Int),st (j+1)=z4e S.con (st j) p A.circle->∀y' D' h',D3.le D'->LO cc 5 CO D' h' y' (z4e S.con (st j) p A.circle)->(λ(s:Sl×Unit) h'=>∃D,D2.le D/\LO cc 5 CO D h' s.1 (st (j+1))) (y',()) h':=
      λp hp y' D' h' hd hl=>⟨D',Hp.le_trans d3 hd,by rw[hp];exact hl⟩
     have hS3:SK D3 s S:=hx.le (Hp.le_trans hD2 d3);rcases(by omega:j=0\/j=1)with rfl | rfl
     . exact zs7 (A:=A) (K:=λ(s:Sl×Unit) h'=>∃D,D2.le D/\LO cc 5 CO D h' s.1 (st (0+1))) hv hs (by rw[st0];omega) (by rw[st0];exact hone) hS3 ho4 (fin A.a (by rw[st1,st0]))
     . exact zs7 (A:=A) (K:=λ(s:Sl×Unit) h'=>∃D,D2.le D/\LO cc 5 CO D h' s.1 (st (1+1))) hv hs (by rw[st1];omega) (by rw[st1];exact zgr hone zwu) hS3 ho4 (fin A.b (by rw[st2,st1];rfl))
   . have:j=2:=by have:¬(j:Int)<((2:Nat):Int):=h5;omega
     subst this;refine hk2 _ _ hi' ⟨D3,Hp.le_trans hD2 d3,?_⟩;rw[zh7 hi',<-hout,<-hA,<-st2];exact ho4
 . have:i=S.arc.length:=by simp only at h2;omega
   subst this;rw[Jw]at ho;exact hk _ _ (Hp.le_trans hD ho.dle) (ho.lr yw)
end
end Den
end

section
namespace Den
open Go Iv Lx
def zC:List Value:=[.int .i64 0,.slice zf.a zf.len zf.cap,.slice zf.a zf.len zf.cap,.slice zf.a zf.len zf.cap,.int .i64 0]
section
variable {h : Hp} {s : TSketch} {S : PSk} {Kb : Bool → Hp → Prop} {Ki : Int → Hp → Prop} {Ks : Sl → Hp → Prop} {l m : Sl} {xs ys : List Int}
theorem zyw{i:Int}{K:Addr->Prop}(hx:SK h s S)(k:Nat)(hi:i=k)(hk:k<S.cir.length)(H:∀a (x:TRound),x.center=(qw S)[k]'(by unfold qw;simpa using hk)->(∀j v,(rdc x)[j]?=some v->h.cell (a.add j)=some v)->K a):zg s.circles i 5 K:=
 hx.2.1.get z31 k hi hk λa x hxx hc=>H a x (by rw[hxx.1];simp[qw]) hc
theorem zfc:(qw S).length=S.cir.length:=by simp[qw]
theorem zm9(hx:SK h s S)(hs:sSk S)(H:∀y h',h.le h'->OI h h' y (qw S)->Ks y h'):zc (F.z6q s) Ks h:=by
 refine zd (λy h'=>OI h h' y (qw S)) (λK' hk=>?_) λb h' hl hb=>H b h' hl hb
 unfold F.z6q;have l2:=hx.2.1.len z31;have s2:=hs.2.1;have cl:=zfc (S:=S);refine Yq (n:=S.cir.length) (by omega) (λi y h'=>OI h h' y ((qw S).take i)) (by simpa using OI.nil) ?_;intro i y h1 hi ho k hk2;refine ze (λh2=>?_) (λh2=>?_)
 . have hi':i<S.cir.length:=by simp only at h2;omega
   refine zyw (hx.le ho.dle) i rfl hi' λa x hxx hc=>⟨_,hc 0 _ rfl,_,hc 1 _ rfl,_,hc 2 _ rfl,_,hc 3 _ rfl,_,hc 4 _ rfl,?_⟩
   refine ho.app (by rw[Jl];omega) λz h3 ho3=>hk2 _ _ hi' ?_
   rw[hxx,Jk]at ho3;exact ho3
 . have:i=S.cir.length:=by simp only at h2;omega
   subst this;rw[<-cl,Jw]at ho;exact hk _ _ ho.dle ho
end
end Den
end

section
namespace Den
open Go Iv Lx
def zbr(c:PCon)(cs:List Int):Prop:=∀k∈c.cir,0<=k/\k<cs.length
theorem VC.cirOk{c:PCon}{n:Int}{S:PSk}(hv:VC c n S.cir.length):zbr c (qw S):=λk hk=>by
 have:=hv.2.2.1.2 k hk;rw[zfc];exact this
def zbf(c:PCon):Prop:=c.kind=13\/c.kind=16\/c.kind=17
instance (c:PCon):Decidable (zbf c):=by unfold zbf;infer_instance
theorem zzc{c:PCon}{cs:List Int}{k:Int}(h:zbf c):itK c cs k=[-1-k,cs.getD k.toNat 0]:=by unfold itK;exact if_pos h
theorem zzb{c:PCon}{cs:List Int}{k:Int}(h:¬zbf c):itK c cs k=[-1-k]:=by unfold itK;exact if_neg h
theorem zc2{c:PCon}{cs:List Int}:∀l:List Int,(l.flatMap (itK c cs)).length<=2*l.length:=by
 intro l;induction l with
 | nil=>simp
 | cons a r ih=>
   have:=zza c cs a;simp only[Ur,Je,J3];omega
theorem z6r{c:PCon}{cs:List Int}{l:List Int}{i:Nat}(hi:i<l.length):(l.take (i+1)).flatMap (itK c cs)=(l.take i).flatMap (itK c cs)++itK c cs l[i]:=by
 rw[<-Jk hi,G5];simp
section
variable {h : Hp} {x : TConstraint} {c : PCon} {cs : List Int} {ce : Sl} {Kb : Bool → Hp → Prop} {Ki : Int → Hp → Prop} {Ks : Sl → Hp → Prop}
theorem zsl{k:Int}{n:Nat}(h0:0<=k)(h1:k<n)(h2:n<=1000000):i64.wrap (-1-k)=-1-k:=w64 (by omega)
theorem zrb(hx:CO h x c)(hc:IL h ce cs)(hs:sC c)(hok:zbr c cs)(hcl:cs.length<=1000)(H:∀y h',h.le h'->OI h h' y (Qq c cs)->Ks y h'):zc (F.za9 x ce) Ks h:=by
 refine zd (λy h'=>OI h h' y (Qq c cs)) (λK' hk=>?_) λb h' hl hb=>H b h' hl hb
 unfold F.za9;obtain⟨x1,x2,x3,x4,x5⟩:=hx;obtain⟨s1,s2,s3,s4⟩:=hs;rw[x1];have cl:=x3.len;refine zi7 x2 (by omega) λw3 h2 ho2=>?_
 refine Yq (n:=c.cir.length) (by omega) (λi y h'=>OI h h' y (c.pts++(c.cir.take i).flatMap (itK c cs))) (by simpa using ho2) ?_;intro i y h3 hi ho k hk2;have hfl:=zc2 (c:=c) (cs:=cs) (c.cir.take i);rw[Jl]at hfl;refine ze (λh4=>?_) (λh4=>?_)
 . have hi':i<c.cir.length:=by simp only at h4;omega
   have hkk:=hok _ (Jh hi');refine zh (λs h'=>OI h h' s.1 (c.pts++(c.cir.take (i+1)).flatMap (itK c cs))) (λs h' hs=>hk2 _ _ hi' hs) ?_;refine(x3.le ho.dle).get i rfl hi' ?_;rw[zsl hkk.1 hkk.2 (by omega)];refine ho.app (by rw[Je];omega) λw h5 ho5=>?_
   refine zh (λs h'=>h'=h5/\s.1=decide (zbf c)) ?_ ?_
   . rintro⟨b,_⟩ h5 ⟨rfl,hb⟩;simp only at hb;subst hb;refine ze (λhw=>?_) (λhw=>?_)
     . refine(hc.le ho5.dle).get c.cir[i].toNat (by omega) (by omega) ?_;refine ho5.app (by rw[Je,Je,Gr];omega) λw2 h6 ho6=>?_
       show OI _ _ _ _;rw[z6r hi',zzc hw,qf (by omega)];simpa [Uq] using ho6
     . show OI _ _ _ _;rw[z6r hi',zzb hw,<-Uq];exact ho5
   . refine zu (λh6=>⟨rfl,?_⟩) (λh6=>zu (λh7=>⟨rfl,?_⟩) (λh7=>⟨rfl,?_⟩))
     . simp only;rw[decide_eq_true (show zbf c from .inl h6),h6];rfl
     . simp only;rw[decide_eq_true (show zbf c from .inr (.inl h7)),h7];rfl
     . simp only;by_cases h8:c.kind=17
       . rw[decide_eq_true (show zbf c from .inr (.inr h8)),h8];rfl
       . rw[decide_eq_false (show ¬zbf c by unfold zbf;omega),beq_eq_false_iff_ne];exact h8
 . have:i=c.cir.length:=by simp only at h4;omega
   subst this;rw[Jw]at ho;exact hk _ _ ho.dle ho
end
section
variable {h : Hp} {s : TSketch} {S : PSk} {Kb : Bool → Hp → Prop} {Ki : Int → Hp → Prop} {Ks : Sl → Hp → Prop} {l m : Sl} {xs ys : List Int}
theorem zrg{ps:List PCon}(hx:LR cc 5 CO h l ps)(hlen:ps.length<=1000000)(H:∀y h',h.le h'->LO cc 5 CO h h' y ps->Ks y h'):zc (F.yu l) Ks h:=by
 refine zd (λy h'=>LO cc 5 CO h h' y ps) (λK' hk=>?_) λb h' hl hb=>H b h' hl hb
 unfold F.yu;cases ha:l.a with
 | none=>
   refine Z4 rfl ?_;obtain⟨ys,h1,h2,h3,h4⟩:=hx;have h5:=h1.2;rw[ha]at h5;simp only[yc]at h5;split at h5
   . rename_i h6;rw[Xc yw.len]at h6;have:ys=[]:=Jn (by omega);subst this;have:ps=[]:=Jn (by simpa using h3.symm);subst this;exact hk _ _ (Hp.le_refl _) LO.nil
   . cases h5
 | some a=>
   refine zr rfl ?_;refine Zjp (c:=cc) (n:=5) (P:=CO) λp1 h1 ho1=>?_
   have key:=ho1.appAll yw (K:=K') (bytes:=88) (zero:=zC) hx rfl (by simp;omega) (by simp;omega) λw3 h2 ho2=>hk _ _ ho2.dle (by simpa using ho2)
   rw[ha]at key;exact key
theorem Z0c(hx:SK h s S)(hv:VS S)(hs:sSk S)(H:∀y h',h.le h'->LR cc 5 CO h' y (Yw S)->Ks y h'):zc (F.zfi s) Ks h:=by
 refine zd (λy h'=>LR cc 5 CO h' y (Yw S)) (λK' hk=>?_) λb h' hl hb=>H b h' hl hb
 unfold F.zfi;have s6:=hs.2.2.2.2.2.1;have hi:=zpg S;have s4:=hs.2.2.2.1;refine zrg hx.2.2.2.2.2 (by omega) λw3 h2 _ ho2=>?_
 refine ho2.call yw (K1:=λy h'=>LR cc 5 CO h' y (imp S)) (zf5 hx hv hs λy h' _ hy=>hy) λr4 D h3 d1 ho3 h4=>?_
 exact ho3.appAll yw (bytes:=88) (zero:=zC) h4 rfl (by omega) (by omega) λw6 h5 ho5=>hk _ _ (Hp.le_trans d1 ho5.dle) (ho5.lr yw)
theorem Z06{n:Nat}(hn:n<=1000000)(H:∀y h',h.le h'->LO cc 5 CO h h' y []->Ks y h'):zc (F.y8 zf (n:Int)) Ks h:=by
 refine zd (λy h'=>LO cc 5 CO h h' y []) (λK' hk=>?_) λb h' hl hb=>H b h' hl hb
 unfold F.y8;have e0:i64.wrap (((zf.cap:Nat):Int)-(zf.len:Int))=0:=by rw[show((zf.cap:Nat):Int)-(zf.len:Int)=0 from rfl];exact w64 (by omega)
 have e1:i64.wrap ((n:Int)-0)=(n:Int):=by rw[Int.sub_zero];exact w64 (by omega)
 refine zh (λ_ h'=>h'=h) ?_ (ze (λh1=>by omega) (λ_=>rfl));rintro _ h rfl;rw[e0,e1];refine ze (λh1=>?_) (λh1=>hk _ _ (Hp.le_refl _) LO.nil);refine⟨by omega,by decide,by decide,by omega,?_⟩;have hown:Own h h 5 (zf.cut 0 0 5) ([]:List Value):=⟨Hp.le_refl _,rfl,Ja _,rfl⟩;have ez:yn n zC=(List.replicate n (⟨0,zf,zf,zf,0⟩:TConstraint)).flatMap cc:=by
  unfold yn;rw[List.flatMap_replicate];rfl
 have key:ql 5 88 zC (zf.cut 0 0 5) n (yn n zC) (λw4 h2=>slP w4 0 ((zf.len:Nat):Int) 5 λc5=>K' c5 h2) h:=by
  refine z54 hown (n:=n) ?_ rfl ?_ (by show(0+n)*88<=_;omega) (by show 0+n<=_;omega) λy h' hy hyl=>?_
  . rw[z40];rfl
  . rw[ez,List.all_flatMap,Jz];exact λx _=>rfl
  . have hcap:=hy.2.2.1;have e9:zf.len=0:=rfl;refine⟨by decide,by decide,by omega,hk _ _ hy.1 ?_⟩;have hp:=hy.preN (k:=0) (by omega);refine⟨[],?_,rfl,λk h1 _=>by simp at h1⟩;rw[Nat.zero_mul,List.take_zero]at hp;exact hp
 exact key
theorem zqu{qs rs:List PCon}{p:Addr}(hl:LR cc 5 CO h l qs)(hm:LR cc 5 CO h m rs)(hlen:qs.length+rs.length<=1000)(hp:Rd h 1 ⟨some p,2,2⟩ [Lf.sl.up l,Lf.sl.up m])(H:∀y h',h.le h'->LR cc 5 CO h' y (qs++rs)->Ks y h') :
 zc (F.ym ⟨some p,2,2⟩) Ks h:=by
 refine zd (λy h'=>LR cc 5 CO h' y (qs++rs)) (λK' hk=>?_) λb h' hl hb=>H b h' hl hb
 unfold F.ym;have ll:=hl.len yw;have ml:=hm.len yw;have g0:∀{h':Hp} {K:Sl->Prop},h.le h'->K l->zg (⟨some p,2,2⟩:Sl) ((0:Nat):Int) 1 λa=>ldL .sl a K h':=λ{h'} {K} hle hK=>zlf 0 (hp.le hle) rfl rfl λa ha=>⟨l,ha,hK⟩
 have g1:∀{h':Hp} {K:Sl->Prop},h.le h'->K m->zg (⟨some p,2,2⟩:Sl) ((1:Nat):Int) 1 λa=>ldL .sl a K h':=λ{h'} {K} hle hK=>zlf 1 (hp.le hle) rfl rfl λa ha=>⟨m,ha,hK⟩
 refine Yq (n:=2) (by omega) (λi a h'=>h'=h/\a=if i=0 then 0 else if i=1 then (qs.length:Int)else ((qs.length+rs.length:Nat):Int)) ⟨rfl,rfl⟩ ?_;rintro i a h hi ⟨rfl,ha⟩ k hk2;refine ze (λh1=>?_) (λh1=>?_)
 . have hi':i<2:=by have:(i:Int)<((2:Nat):Int):=h1;omega
   refine zh (λs h'=>h'=h/\s.1=if i+1=0 then 0 else if i+1=1 then (qs.length:Int)else ((qs.length+rs.length:Nat):Int)) (λs h' hs=>hk2 _ _ hi' hs) ?_;rcases(by omega:i=0\/i=1)with rfl | rfl
   . refine g0 (Hp.le_refl _) ?_;have ha:a=0:=ha;have e:i64.wrap (a+(l.len:Int))=(qs.length:Int):=by rw[ha,ll,Int.zero_add];exact w64 (by omega)
     simp only;rw[e];refine ze (λh2=>by omega) (λ_=>⟨by trivial,by trivial⟩)
   . refine g1 (Hp.le_refl _) ?_;have ha:a=(qs.length:Int):=ha;have e:i64.wrap (a+(m.len:Int))=((qs.length+rs.length:Nat):Int):=by rw[ha,ml];rw[w64 (by omega)];omega
     simp only;rw[e];refine ze (λh2=>by omega) (λ_=>⟨by trivial,by trivial⟩)
 . have hi':i=2:=by have:¬(i:Int)<((2:Nat):Int):=h1;omega
   subst hi';have ha:a=((qs.length+rs.length:Nat):Int):=ha;simp only;rw[ha];refine Z06 (by omega) λr7 h3 hl3 ho3=>?_
   refine Yq (n:=2) (by omega) (λi y h'=>LO cc 5 CO h h' y (if i=0 then []else if i=1 then qs else qs++rs)) ho3 ?_;intro i y h4 hi ho4 k hk3;refine ze (λh5=>?_) (λh5=>?_)
   . have hi':i<2:=by have:(i:Int)<((2:Nat):Int):=h5;omega
     rcases(by omega:i=0\/i=1)with rfl | rfl
     . refine g0 ho4.dle ?_;have ho4:LO cc 5 CO h h4 y []:=ho4;exact ho4.appAll yw (bytes:=88) (zero:=zC) hl rfl (by simp;omega) (by simp;omega) λw h6 ho6=>hk3 _ _ (by decide) ho6
     . refine g1 ho4.dle ?_;have ho4:LO cc 5 CO h h4 y qs:=ho4;exact ho4.appAll yw (bytes:=88) (zero:=zC) hm rfl (by omega) (by omega) λw h6 ho6=>hk3 _ _ (by decide) ho6
   . have hi':i=2:=by have:¬(i:Int)<((2:Nat):Int):=h5;omega
     subst hi';have ho4:LO cc 5 CO h h4 y (qs++rs):=ho4;exact hk _ _ ho4.dle (ho4.lr yw)
end
end Den
end

section
namespace Den
open Go Iv Lx
def ILP(h:Hp)(x:Sl)(xs:List Int):Prop:=IL h x xs
theorem zab:Rec slc 1 ILP:=⟨λ_=>rfl,by decide,λ_=>rfl,λhx hl=>IL.le hx hl⟩
def zen(s:TSketch)(lS itS ceS:Sl):List Value:=[Lf.sl.up s.points,Lf.sl.up s.circles,Lf.sl.up s.segments,Lf.sl.up s.arcs,Lf.sl.up s.chains,Lf.sl.up s.constraints,Lf.sl.up lS,Lf.sl.up itS,Lf.sl.up ceS]
def MB(h:Hp)(b:Nat)(cs:List Value):Prop:=∃e,h b=some ⟨cs,e,(0,0)⟩
theorem MB.ld{h:Hp}{b:Nat}{cs:List Value}(hb:MB h b cs)(j:Nat){v:Value}(hv:cs[j]?=some v):h.cell ((⟨b,0,none⟩:Addr).add j)=some v:=by
 obtain⟨e,hb⟩:=hb;unfold Hp.cell;rw[Yr,z0e rfl,X4];simpa [hb] using hv
theorem MB.le{h h':Hp}{b:Nat}{cs:List Value}(hb:MB h b cs)(hl:h.le h'):MB h' b cs:=by
 obtain⟨e,hb⟩:=hb;exact⟨e,hl _ _ hb⟩
theorem MB.st{h:Hp}{b j:Nat}{cs:List Value}{v:Value}{K:Hp->Prop}(hb:MB h b cs)(hj:j<cs.length)(hv:Value.leaf v=true)
 (H:∀h',MB h' b (cs.set j v)->(∀i,i≠b->h' i=h i)->K h'):stP ((⟨b,0,none⟩:Addr).add j) [v] K h:=by
 obtain⟨e,hb⟩:=hb;refine⟨_,by rw[Yr];exact hb,z0e rfl _,rfl,?_,by simp[hv],?_⟩
 . rw[X4];simp;omega
 . rw[Yr,X4];refine H _ ⟨e,?_⟩ λi hi=>Hp.ins_ne hi
   rw[Hp.ins_same];simp only[Gi];rw[z4w,List.set_eq_take_append_cons_drop,if_pos hj]
theorem zwk{h h':Hp}{b:Nat}{bl:Blk}(hb:h' b=some bl)(hs:∀i,i≠b->h' i=h i):h'=h.ins b bl:=by
 funext i;by_cases hi:i=b
 . subst hi;rw[Hp.ins_same,hb]
 . rw[Hp.ins_ne hi,hs i hi]
theorem zl0{h0 h:Hp}{x:Sl}{cs:List Value}{n m:Nat}{bl:Blk}(ho:Own h0 h m x cs)(hn:h0 n=none)(hne:∀a,x.a=some a->a.block≠n):Own h0 (h.ins n bl) m x cs:=by
 obtain⟨h1,h2,h3,h4⟩:=ho;refine⟨λk b hk=>?_,h2,h3,?_⟩
 . have:k≠n:=λhh=>by subst hh;rw[hn]at hk;cases hk
   rw[Hp.ins_ne this];exact h1 k b hk
 . cases ha:x.a with
   | none=>rw[ha]at h4;exact h4
   | some a=>
     rw[ha]at h4;obtain⟨g1,g2,g3,b,g4,g5⟩:=h4;exact⟨g1,g2,g3,b,by rw[Hp.ins_ne (hne a ha)];exact g4,g5⟩
theorem zsr{h0 h D:Hp}{x:Sl}{cs:List Value}{m:Nat}(ho:Own h0 h m x cs)(hD:∀a,x.a=some a->D a.block=h a.block):Rd D m x cs:=by
 have hr:=ho.rd;obtain⟨h1,h2,h3,h4⟩:=ho;refine⟨hr.1,?_⟩;cases ha:x.a with
 | none=>have:=hr.2;rw[ha]at this;exact this
 | some a=>
   rw[ha]at h4;obtain⟨g1,g2,g3,b,g4,g5,g6,g7⟩:=h4;have hle:cs.length<=b.cells.length:=by rw[g6,<-h2];exact Jj _ h3
   simp only[yc];rw[z96 (by rw[hD a ha];exact g4) g2 (by omega),g1];simp[g7]
def PR(h:Hp)(p:Addr)(S:PSk):Prop:=∃s lS itS ceS,SK h s S/\(∀j v,(zen s lS itS ceS)[j]?=some v->h.cell (p.add j)=some v)/\LR cc 5 CO h lS (Yw S)/\LR slc 1 ILP h itS ((Yw S).map λc=>Qq c (qw S))/\IL h ceS (qw S)
theorem PR.le{h h':Hp}{p:Addr}{S:PSk}(hp:PR h p S)(hl:h.le h'):PR h' p S:=by
 obtain⟨s,lS,itS,ceS,h1,h2,h3,h4,h5⟩:=hp;exact⟨s,lS,itS,ceS,h1.le hl,λj v hv=>Hp.cell_le hl (h2 j v hv),h3.le yw hl,h4.le zab hl,h5.le hl⟩
section
variable {h : Hp} {s : TSketch} {S : PSk} {Kp : Option Addr → Hp → Prop}
theorem zps(hx:SK h s S)(hv:VS S)(hs:sSk S)(H:∀p h',h.le h'->PR h' p S->Kp (some p) h'):zc (F.z0r s) Kp h:=by
 refine zd (λy h'=>∃p,y=some p/\PR h' p S) (λK' hk=>?_) λb h' hl ⟨p,hp,hb⟩=>by subst hp;exact H p h' hl hb
 unfold F.z0r;have hal:=zf7 hs;have hok:=zd4 hv hs;have s6:=hs.2.2.2.2.2.1;have hi:=zpg S;have s4:=hs.2.2.2.1;have s2:=hs.2.1;have cl:=zfc (S:=S);refine zf5 hx hv hs λr1 h1 hl1 hr1=>?_
 refine zce (cells:=[Lf.sl.up s.constraints,Lf.sl.up r1]) 1 2 rfl λp2 h2 hl2 hp2=>?_
 refine zqu ((hx.le (Hp.le_trans hl1 hl2)).2.2.2.2.2) (hr1.le yw hl2) (by omega) hp2 λlS h3 hl3 hL=>?_
 have hle3:=Hp.le_trans hl1 (Hp.le_trans hl2 hl3);have hx3:=hx.le hle3;have hL:LR cc 5 CO h3 lS (Yw S):=hL;intro b e hbf;have l2:=hx.2.1.len z31;have lL:=hL.len yw;refine yg (n:=S.cir.length) (by omega) (λi h'=>∃y,MB h' b (zen s lS zf y)/\OI h3 h' y ((qw S).take i)/\∀a,y.a=some a->a.block≠b) ⟨zf,⟨e,Hp.ins_same _ _ _⟩,by rw[List.take_zero];exact Own.nil (Hp.le_ins hbf),λa ha=>by cases ha⟩ ?_;rintro i h5 hi ⟨y,hm,ho,hab⟩ k hk2;have h3b:h3 b=none:=hbf;refine ze (λh6=>?_) (λh6=>?_)
 . have hi':i<S.cir.length:=by simp only at h6;omega
   refine zyw (hx3.le ho.dle) i rfl hi' λa x hxx hc=>⟨_,hc 0 _ rfl,_,hc 1 _ rfl,_,hc 2 _ rfl,_,hc 3 _ rfl,_,hc 4 _ rfl,_,hm.ld 8 rfl,?_⟩
   have hyl:=ho.il.len;rw[Jl]at hyl;refine zf9 ho (n:=1) (new:=[ic x.center]) rfl rfl rfl (by omega) (by omega) λz h7 hz _ hs7 hb7=>?_
   have hbb:h5 b≠none:=by obtain⟨e,hm⟩:=hm;rw[hm];simp
   have hm7:MB h7 b (zen s lS zf y):=by
    obtain⟨e,hm⟩:=hm;exact⟨e,by rw[hs7 b hbb λa ha=>(hab a ha).symm];exact hm⟩
   have hzb:∀a,z.a=some a->a.block≠b:=λa ha hh=>by
    rcases hb7 a ha with ⟨a',h8,h9⟩ | h8
    . exact hab a' h8 (by rw[h9];exact hh)
    . rw[hh]at h8;exact hbb h8
   refine hm7.st (j:=8) (v:=Lf.sl.up z) (by simp[zen]) rfl λh8 hm8 hs8=>hk2 _ hi' ⟨z,hm8,?_,hzb⟩
   obtain⟨e8,hm8'⟩:=hm8;rw[zwk hm8' hs8];have:OI h3 h7 z ((qw S).take (i+1)):=by
    unfold OI;rw[<-Jk (show i<(qw S).length by omega),Uf,<-hxx];exact hz
   exact zl0 this h3b hzb
 . have hi':i=S.cir.length:=by simp only at h6;omega
   subst hi';rw[<-cl,Jw]at ho;obtain⟨D0,hD0⟩:∃D0,D0=h5.del b:=⟨_,rfl⟩;have hD0le:D0.le h5:=by rw[hD0];exact Hp.del_le _ _
   have h3D:h3.le D0:=λj bl hj=>by
    rw[hD0];unfold Hp.del;rw[if_neg (λhh=>by subst hh;rw[h3b]at hj;cases hj)];exact ho.dle _ _ hj
   have hce:IL D0 y (qw S):=⟨zsr ho λa ha=>by rw[hD0];unfold Hp.del;rw[if_neg (hab a ha)],ho.2.2.1⟩;refine⟨_,hm.ld 6 rfl,?_⟩;have hLD:=hL.le yw h3D;refine yg (n:=(Yw S).length) (by omega) (λi h'=>∃z D,MB h' b (zen s lS z y)/\D0.le D/\D b=none/\LO slc 1 ILP D h' z (((Yw S).map λc=>Qq c (qw S)).take i)/\∀a,z.a=some a->a.block≠b)
    ⟨zf,D0,hm,Hp.le_refl _,by rw[hD0];exact Hp.del_same _ _,⟨[],Own.nil hD0le,by simp,λk k1 _=>by simp at k1⟩,λa ha=>by cases ha⟩ ?_
   clear hk2;rintro i h8 hi ⟨z,D,hm8,hD,hDb,hz,hzb⟩ k hk2;refine ze (λh9=>?_) (λh9=>?_)
   . have hi':i<(Yw S).length:=by simp only at h9;omega
     have hD8:=hz.dle;refine(hLD.le yw (Hp.le_trans hD hD8)).get yw i rfl hi' λa x hxx hc=>?_
     refine⟨_,hc 0 _ rfl,_,hc 1 _ rfl,_,hc 2 _ rfl,_,hc 3 _ rfl,_,hc 4 _ rfl,?_⟩;obtain⟨c,hcc⟩:∃c,c=(Yw S)[i]:=⟨_,rfl⟩;rw[<-hcc]at hxx;have hcok:=hok c (by rw[hcc];exact Jh _);have hcir:zbr c (qw S):=hcok.1.cirOk;have hsc:=hcok.2;obtain⟨x1,x2,x3,x4,x5⟩:=hxx;obtain⟨c1,c2,c3,c4⟩:=hsc;have cll:=x3.len;refine zi7 x2 (by omega) λr16 h10 ho10=>?_
     rw[x1];refine Yq (n:=c.cir.length) (by omega) (λj w h'=>OI h8 h' w (c.pts++(c.cir.take j).flatMap (itK c (qw S)))) (by simpa using ho10) ?_;intro j w h11 hj ho11 k11 hk11;have hfl:=zc2 (c:=c) (cs:=qw S) (c.cir.take j);rw[Jl]at hfl;refine ze (λh12=>?_) (λh12=>?_)
     . have hj':j<c.cir.length:=by simp only at h12;omega
       have hkk:=hcir _ (Jh hj');refine zh (λs h'=>OI h8 h' s.1 (c.pts++(c.cir.take (j+1)).flatMap (itK c (qw S)))) (λs h' hs=>hk11 _ _ hj' hs) ?_;refine(x3.le ho11.dle).get j rfl hj' ?_;rw[zsl hkk.1 hkk.2 (by omega)];refine ho11.app (by rw[Je];omega) λw2 h13 ho13=>?_
       have two:zbf c->ldL .sl ((⟨b,0,none⟩:Addr).add 8) (λx24=>zg x24 c.cir[j] 1 λa25=>ldL (.int .i64) a25 (λx26=>ql 1 8 [.int .i64 0] w2 1 [.int .i64 x26] (λw27 h13=>OI h8 h13 w27 (c.pts++(c.cir.take (j+1)).flatMap (itK c (qw S)))) h13) h13) h13:=by
        intro hw;refine⟨_,(hm8.le ho13.dle).ld 8 rfl,?_⟩;refine(hce.le (Hp.le_trans hD (Hp.le_trans hD8 ho13.dle))).get c.cir[j].toNat (by omega) (by omega) ?_;refine ho13.app (by rw[Je,Je,Gr];omega) λw3 h14 ho14=>?_
        rw[z6r hj',zzc hw,qf (by omega)];simpa [Uq] using ho14
       refine zu (λh6=>two (.inl h6)) (λh6=>zu (λh7=>two (.inr (.inl h7))) (λh7=>zu (λh8=>two (.inr (.inr h8))) (λh8=>?_)));show OI _ _ _ _;rw[z6r hj',zzb (by unfold zbf;omega),<-Uq];exact ho13
     . have hj':j=c.cir.length:=by simp only at h12;omega
       subst hj';rw[Jw]at ho11;have ho11:OI h8 h11 w (Qq c (qw S)):=ho11;have hm11:=hm8.le ho11.dle;refine⟨_,hm11.ld 7 rfl,?_⟩;have hz11:=hz.le ho11.dle;have hbb:h11 b≠none:=by obtain⟨e,hm⟩:=hm11;rw[hm];simp
       have hwb:∀a,w.a=some a->h8 a.block=none:=λa ha=>by
        obtain⟨_,_,_,g4⟩:=ho11;rw[ha]at g4;exact g4.2.2.1
       have h8b:h8 b≠none:=by obtain⟨e,hm⟩:=hm8;rw[hm];simp
       obtain⟨zs,q1,q2,q3⟩:=hz11;have hz8:∀a,z.a=some a->h8 a.block≠none:=λa ha=>by
        obtain⟨ys,g1,_,_⟩:=hz;obtain⟨_,_,_,g4⟩:=g1;rw[ha]at g4;obtain⟨_,_,_,bl,g5,_⟩:=g4;rw[g5];simp
       have hzD:∀a,z.a=some a->D a.block=none:=λa ha=>by
        obtain⟨_,_,_,g4⟩:=q1;rw[ha]at g4;exact g4.2.2.1
       obtain⟨D1,hD1⟩:∃D1:Hp,D1=λj=>if j=b\/(∃a,z.a=some a/\j=a.block)then none else h11 j:=⟨_,rfl⟩
       have hD1h:D1.le h11:=λj bl hj=>by
        rw[hD1]at hj;simp only at hj;split at hj
        . cases hj
        . exact hj
       have hDD1:D.le D1:=λj bl hj=>by
        rw[hD1];simp only;rw[if_neg]
        . exact Hp.le_trans hD8 ho11.dle _ _ hj
        . rintro(rfl | ⟨a,ha,rfl⟩)
          . rw[hDb]at hj;cases hj
          . rw[hzD a ha]at hj;cases hj
       have hD1b:D1 b=none:=by rw[hD1];simp
       have hw1:IL D1 w (Qq c (qw S)):=⟨zsr ho11 λa ha=>by
        rw[hD1];simp only;rw[if_neg];rintro(hh | ⟨a',ha',hh⟩)
        . exact h8b (by rw[<-hh];exact hwb a ha)
        . exact hz8 a' ha' (by rw[<-hh];exact hwb a ha),ho11.2.2.1⟩
       have hz1:Own D1 h11 1 z (zs.flatMap slc):=by
        obtain⟨g1,g2,g3,g4⟩:=q1;refine⟨hD1h,g2,g3,?_⟩;cases ha:z.a with
        | none=>rw[ha]at g4;exact g4
        | some a=>
          rw[ha]at g4;obtain⟨k1,k2,k3,k4⟩:=g4;exact⟨k1,k2,by rw[hD1];simp only;rw[if_pos (.inr ⟨a,ha,rfl⟩)],k4⟩
       have hzl:=hz.len zab;rw[Jl,List.length_map]at hzl;refine zf9 hz1 (n:=1) (new:=slc w) rfl rfl rfl (by omega) (by omega) λz2 h15 hz2 _ hs15 hb15=>?_
       have hm15:MB h15 b (zen s lS z y):=by
        obtain⟨e,hm⟩:=hm11;exact⟨e,by rw[hs15 b hbb λa ha=>(hzb a ha).symm];exact hm⟩
       have hz2b:∀a,z2.a=some a->a.block≠b:=λa ha hh=>by
        rcases hb15 a ha with ⟨a',h8,h9⟩ | h8
        . exact hzb a' h8 (by rw[h9];exact hh)
        . rw[hh]at h8;exact hbb h8
       refine hm15.st (j:=7) (v:=Lf.sl.up z2) (by simp[zen]) rfl λh16 hm16 hs16=>hk2 _ hi' ⟨z2,D1,hm16,Hp.le_trans hD hDD1,hD1b,⟨zs++[w],?_,?_,λj j1 j2=>?_⟩,hz2b⟩
       . obtain⟨e8,hm8'⟩:=hm16;rw[zwk hm8' hs16];refine zl0 ?_ hD1b hz2b;rw[G5];simpa using hz2
       . rw[Je,q2,Jl,Jl];simp;omega
       . have hlz:zs.length=i:=by rw[q2];simp;omega
         rcases Jo j i with h5 | h5
         . rw[Tk (by omega),List.getElem_take];have:=q3 j (by omega) (by simp;omega);rw[List.getElem_take]at this;exact zab.mono this hDD1
         . have h6:j=i:=by simp at j1;omega
           subst h6;rw[Te (by omega),List.getElem_take];simp only[hlz,Nat.sub_self,Ua,List.getElem_map];rw[<-hcc];exact hw1
   . have hi':i=(Yw S).length:=by simp only at h9;omega
     subst hi';have hfull:((Yw S).map λc=>Qq c (qw S)).take (Yw S).length=(Yw S).map λc=>Qq c (qw S):=List.take_of_length_le (by simp)
     rw[hfull]at hz;have hD8:=hz.dle;have h38:h3.le h8:=Hp.le_trans h3D (Hp.le_trans hD hD8);refine hk _ _ (Hp.le_trans hle3 h38) ⟨⟨b,0,none⟩,rfl,s,lS,z,y,hx3.le h38,λj v hv=>hm8.ld j hv,hL.le yw h38,hz.lr zab,hce.le (Hp.le_trans hD hD8)⟩
end
end Den
end

section
namespace Den
open Go Iv Lx
def cAt(cs:List Int)(c:PCon)(i:Nat):Int:=cs.getD (c.cir.getD i 0).toNat 0
def cnt(l:List Int)(t:Int):Nat:=(l.filter (·==t)).length
def zc9(c:PCon)(cs:List Int)(t:Int):Int:=
 if c.kind=13 then (if (t∈c.pts)↔cAt cs c 0=t then 0 else 2)
 else if c.kind=16 then (if cAt cs c 0=t/\t∉c.pts then 1 else 0)
 else if c.kind=17 then (if cAt cs c 0=t↔cAt cs c 1=t then 0 else 2)
 else if t∉c.pts then 0
 else if c.kind=1\/c.kind=9 then 3
 else if c.kind=2 then 2
 else if c.kind=3\/c.kind=6\/c.kind=11\/c.kind=12 then 1
 else if c.kind=4 then (if c.pts[0]?=some t then 1 else 0)
 else if c.kind=10 then (if c.pts[0]?=some t\/c.pts[1]?=some t then 3 else 0)
 else if c.kind=5\/c.kind=7 then (if cnt c.pts t=2 then 2 else 1)
 else if c.kind=8 then (if cnt c.pts t=2 then 1 else 2)
 else 0
def zey(c:PCon)(cs:List Int)(k:Int):Prop:=
 k∈c.cir/\(if c.kind=13\/c.kind=16 then cs.getD k.toNat 0∉c.pts else if c.kind=17 then c.side=1/\cAt cs c 0≠cAt cs c 1 else True)
instance (c:PCon) (cs:List Int) (k:Int):Decidable (zey c cs k):=by unfold zey;infer_instance
def z8z(c:PCon)(cs:List Int)(item:Int):Prop:=
 if item<0 then zey c cs (-1-item)else if eqK c.kind=2 then zc9 c cs item=3 else zc9 c cs item=1\/zc9 c cs item=2
instance (c:PCon) (cs:List Int) (k:Int):Decidable (z8z c cs k):=by unfold z8z;infer_instance
def zc8(l:List Int)(item:Int)(R:List Int):Prop:=item∈l/\∀x∈l,x∉R
instance (l:List Int) (item:Int) (R:List Int):Decidable (zc8 l item R):=by unfold zc8;infer_instance
def zbk(its:List (List Int))(item:Int)(R:List Int):Nat->List Int
 | 0=>[]
 | k+1=>zbk its item R k++(if zc8 (its.getD k []) item R then [(k:Int)]else [])
def zat(its:List (List Int))(item:Int)(R:List Int):List Int:=zbk its item R its.length
theorem zli{its:List (List Int)}{item:Int}{R:List Int}:∀{k:Nat} {j:Int},j∈zbk its item R k↔∃i:Nat,i<k/\j=i/\zc8 (its.getD i []) item R
 | 0,j=>by simp[zbk]
 | k+1,j=>by
   unfold zbk;rw[Ub,zli];constructor
   . rintro(⟨i,hi,h1,h2⟩ | h)
     . exact⟨i,by omega,h1,h2⟩
     . split at h
       . rename_i h3;exact⟨k,by omega,J6.1 h,h3⟩
       . cases h
   . rintro⟨i,hi,h1,h2⟩;rcases Jo i k with h3 | h3
     . exact .inl ⟨i,h3,h1,h2⟩
     . have:i=k:=by omega
       subst this;right;rw[if_pos h2];exact J6.2 h1
theorem zlh(its:List (List Int))(item:Int)(R:List Int):∀k,(zbk its item R k).length<=k
 | 0=>by simp[zbk]
 | k+1=>by
   unfold zbk;have:=zlh its item R k;rw[Je];split<;>simp<;>omega
def dC:PCon:=⟨0,[],[],[],0⟩
def wtL(L:List PCon)(l:List Int):Nat:=(l.map λi=>eqK (L.getD i.toNat dC).kind).sum
def zae(item:Int):Nat:=if item<0 then 1 else 2
def zfb(L:List PCon)(cs:List Int)(R:List Int)(item:Int):Prop:=
 item∉R/\wtL L (zat (L.map λc=>Qq c cs) item R)<=zae item/\∀i∈zat (L.map λc=>Qq c cs) item R,z8z (L.getD i.toNat dC) cs item
instance (L:List PCon) (cs:List Int) (R:List Int) (item:Int):Decidable (zfb L cs R item):=by unfold zfb;infer_instance
def zjj(n m:Nat):List Int:=(Jp n).map (λi:Nat=>(i:Int))++(Jp m).map (λi:Nat=>-1-(i:Int))
theorem Z9l{n m:Nat}{x:Int}:x∈zjj n m↔(0<=x/\x<n)\/(x<0/\-1-x<m):=by
 unfold zjj;rw[Ub,List.mem_map,List.mem_map];constructor
 . rintro(⟨a,ha,rfl⟩ | ⟨a,ha,rfl⟩)
   . rw[Uv]at ha;omega
   . rw[Uv]at ha;omega
 . rintro(⟨h1,h2⟩ | ⟨h1,h2⟩)
   . exact .inl ⟨x.toNat,Uv.2 (by omega),by omega⟩
   . exact .inr ⟨(-1-x).toNat,Uv.2 (by omega),by omega⟩
theorem Z2y{n m:Nat}:(zjj n m).length=n+m:=by simp[zjj]
def z5y(can:List Int->Int->Bool)(pref:List Int):Nat->List Int->List Int
 | 0,R=>R
 | f+1,R=>match pref.find? (can R)with
   | none=>R
   | some i=>z5y can pref f (R++[i])
def Zh2(can:List Int->Int->Bool)(pref:List Int):List Int:=z5y can pref pref.length []
def Xp(pref R:List Int):List Int:=pref.filter λx=>decide (x∉R)
def zeg(L:List PCon)(cs:List Int)(R:List Int)(item:Int):Bool:=decide (zfb L cs R item)
theorem zwl{pref R:List Int}{i:Int}(hi:i∈pref)(hR:i∉R):(Xp pref (R++[i])).length<(Xp pref R).length:=by
 have e:Xp pref (R++[i])=(Xp pref R).filter λx=>decide (x≠i):=by
  unfold Xp;rw[List.filter_filter];congr 1;funext x;simp only[Ub,J6,not_or];by_cases h1:x∈R<;>by_cases h2:x=i<;>simp[h1,h2]
 rw[e];refine List.length_filter_lt_length_iff_exists.2 ⟨i,?_,by simp⟩;unfold Xp;exact Ta.2 ⟨hi,by simpa using hR⟩
def zwm(c:PCon):Prop:=c.pts.length=(shK c.kind).1/\c.cir.length=(shK c.kind).2.1/\1<=c.kind/\c.kind<=17/\(z2d c.kind->z95 c.pts)/\(¬z2d c.kind->c.pts.Nodup)
theorem VC.lenC{c:PCon}{n m:Int}(hv:VC c n m):zwm c:=by
 obtain⟨h1,h2,h3,h4,h5,h6,h7⟩:=hv;refine⟨h2.1,h3.1,h1.1,h1.2,λh=>?_,λh=>?_⟩
 . rw[if_pos h]at h7;exact h7
 . rw[if_neg h]at h7;exact h7.1
section
variable {h : Hp} {x : TConstraint} {c : PCon} {cs : List Int} {ce : Sl} {t : Int} {Kb : Bool → Hp → Prop} {Ki : Int → Hp → Prop} {Ks : Sl → Hp → Prop}
def z6d(l:List Int)(t:Int):Nat->List Int
 | 0=>[]
 | k+1=>z6d l t k++(if l[k]?=some t then [(k:Int)]else [])
theorem zsw(l:List Int)(t:Int):∀k,k<=l.length->(z6d l t k).length=cnt (l.take k) t
 | 0,_=>by simp[z6d,cnt]
 | k+1,hk=>by
   unfold z6d;rw[Je,zsw l t k (by omega)];unfold cnt;rw[<-Jk (show k<l.length by omega),List.filter_append,Je];congr 1;rw[Jc (by omega)];by_cases h:l[k]=t<;>simp[h]
theorem zzn(l:List Int)(t:Int):∀k,(z6d l t k).length<=k
 | 0=>by simp[z6d]
 | k+1=>by
   unfold z6d;have:=zzn l t k;rw[Je];split<;>simp<;>omega
theorem zns{l:List Int}{t:Int}:∀{k:Nat} (hne:z6d l t k≠[]),∃i:Nat,(z6d l t k)[0]?=some (i:Int)/\l[i]?=some t/\∀j,j<i->l[j]?≠some t
 | 0,h=>absurd rfl h
 | k+1,h=>by
   unfold z6d at h |-
   by_cases h0:z6d l t k=[]
   . rw[h0,List.nil_append]at h |-
     split at h
     . rename_i h3;rw[if_pos h3];refine⟨k,rfl,h3,λj hj hh=>?_⟩;have:(j:Int)∈z6d l t k:=by
        have key:∀m,j<m->(j:Int)∈z6d l t m:=by
         intro m;induction m with
         | zero=>intro hm;omega
         | succ m ih=>
           intro hm;unfold z6d;rcases Jo j m with h4 | h4
           . exact Jq _ (ih h4)
           . have:j=m:=by omega
             subst this;rw[if_pos hh];simp
        exact key k hj
       rw[h0]at this;cases this
     . exact absurd rfl h
   . obtain⟨i,h1,h2⟩:=zns h0;refine⟨i,?_,h2⟩;have:0<(z6d l t k).length:=List.length_pos_iff.2 h0;rw[Uh this];exact h1
theorem Zdk{l:List Int}{t:Int}:cnt l t≠0↔t∈l:=by
 unfold cnt;rw[<-Nat.pos_iff_ne_zero,List.length_pos_iff_exists_mem];constructor
 . rintro⟨a,ha⟩;have:=Ta.1 ha;rw[beq_iff_eq]at this;rw[<-this.2];exact this.1
 . intro h;exact⟨t,Ta.2 ⟨h,by simp⟩⟩
theorem zsv(hx:CO h x c)(hs:sC c)(H:∀y h',h.le h'->IL h' y (z6d c.pts t c.pts.length)->Ks y h'):zc (F.z6v x t) Ks h:=by
 refine zd (λy h'=>IL h' y (z6d c.pts t c.pts.length)) (λK' hk=>?_) λb h' hl hb=>H b h' hl hb
 unfold F.z6v;have hp:=hx.2.1;have hl:=hp.len;have s1:=hs.1;refine Yq (n:=c.pts.length) (by omega) (λi y h'=>OI h h' y (z6d c.pts t i)) OI.nil ?_;intro i y h1 hi ho k hk2;refine ze (λh2=>?_) (λh2=>?_)
 . have hi':i<c.pts.length:=by simp only at h2;omega
   refine zh (λs h'=>OI h h' s.1 (z6d c.pts t (i+1))) (λs h' hs=>hk2 _ _ hi' hs) ?_;refine(hp.le ho.dle).get i rfl hi' ?_;have hle:=zzn c.pts t i;refine zu (λh3=>?_) (λh3=>?_)
   . refine ho.app (by omega) λz h4 ho4=>?_
     show OI _ _ _ _;unfold z6d;rw[Jc hi',h3,if_pos rfl];exact ho4
   . show OI _ _ _ _;unfold z6d;rw[Jc hi',if_neg (λhh=>h3 (J9 hh)),Gt];exact ho
 . have:i=c.pts.length:=by simp only at h2;omega
   subst this;exact hk _ _ ho.dle ho.il
theorem zoj{K:Int->Prop}{i:Nat}(hx:CO h x c)(hc:IL h ce cs)(hok:zbr c cs)(hi:i<c.cir.length)(H:K (cAt cs c i)):zg x.circles (i:Int) 1 λa5=>ldL (.int .i64) a5 (λx6=>zg ce x6 1 λa7=>ldL (.int .i64) a7 K h) h:=by
 refine hx.2.2.1.get i rfl hi ?_;have hkk:=hok _ (Jh hi);refine hc.get c.cir[i].toNat (by omega) (by omega) ?_;unfold cAt at H;rw[qf hi,qf (by omega)]at H;exact H
theorem Z08(hx:CO h x c)(hc:IL h ce cs)(hs:sC c)(hok:zbr c cs)(hv:zwm c)(H:∀h',h.le h'->Ki (zc9 c cs t) h'):zc (F.zac x ce t) Ki h:=by
 refine zd (λr h'=>r=zc9 c cs t) (λK' hk=>?_) λb h' hl hb=>by subst hb;exact H h' hl
 unfold F.zac;obtain⟨v1,v2,v3,v4,v5,v6⟩:=hv;have x1:=hx.1;have s1:=hs.1;refine zcf λp1 h1 hl1 c1=>Ww λp2 h2 hl2 c2=>Ww λp3 h3 hl3 c3=>?_
 have hle:h.le h3:=Hp.le_trans hl1 (Hp.le_trans hl2 hl3);have k1:CKC h3 p1 x:=λi v hv=>Hp.cell_le (Hp.le_trans hl2 hl3) (c1 i v hv)
 refine⟨_,k1 0 _ rfl,_,k1 1 _ rfl,_,k1 2 _ rfl,_,k1 3 _ rfl,_,k1 4 _ rfl,_,c3,?_⟩;refine zsv (x:=x) (hx.le hle) hs λr6 h4 hl4 hr6=>?_
 have hle4:=Hp.le_trans hle hl4;have k4:CKC h4 p1 x:=λi v hv=>Hp.cell_le hl4 (k1 i v hv)
 have hr:=hr6.len;have hpl:=zsw c.pts t c.pts.length (Ja _);rw[Jw]at hpl;have hat:(z6d c.pts t c.pts.length).length≠0↔t∈c.pts:=by rw[hpl];exact Zdk
 have cen:∀i h' (K:Bool->Hp->Prop),i<c.cir.length->h4.le h'->K (decide (cAt cs c i=t)) h'->zc (F.z04 (i:Int) (some p2) (some p1) (some p3)) K h':=by
  intro i h' K hi hl' hK;refine zx _ (λK'' hk''=>?_) hK;unfold F.z04;have hl3':=Hp.le_trans hl4 hl';refine⟨_,Hp.cell_le (Hp.le_trans hl3 hl3') c2,_,Hp.cell_le hl' (k4 2 _ rfl),?_⟩;refine zoj (x:=x) (ce:=ce) (hx.le (Hp.le_trans hle4 hl')) (hc.le (Hp.le_trans hle4 hl')) hok hi ?_;refine⟨_,Hp.cell_le hl3' c3,?_⟩;have:(cAt cs c i==t)=decide (cAt cs c i=t):=by
   by_cases hh:cAt cs c i=t
   . rw[decide_eq_true hh,hh];simp
   . rw[decide_eq_false hh,beq_eq_false_iff_ne];exact hh
  show K'' (cAt cs c i==t) h';rw[this];exact hk''
 refine⟨_,k4 0 _ rfl,?_⟩;rw[x1];have hk':∀r,r=zc9 c cs t->K' r h4:=λr hr=>hk _ _ hle4 hr
 unfold zc9 at hk';refine zu (λe13=>?_) (λe13=>?_)
 . refine cen 0 h4 _ (by rw[v2,e13];decide) (Hp.le_refl _) ?_;rw[if_pos e13]at hk';have ha:decide ((r6.len:Int)>0)=decide (t∈c.pts):=decide_eq_decide.2 (by rw[<-hat];omega);rw[ha];refine zi (λh5=>hk' _ ?_) (λh5=>hk' _ ?_)
   . rw[if_neg];intro hh;by_cases g:t∈c.pts
     . rw[decide_eq_true g,decide_eq_true (hh.1 g)]at h5;cases h5
     . rw[decide_eq_false g,decide_eq_false (λz=>g (hh.2 z))]at h5;cases h5
   . rw[if_pos];by_cases g:t∈c.pts
     . rw[decide_eq_true g]at h5;exact⟨λ_=>by simpa using h5,λ_=>g⟩
     . rw[decide_eq_false g]at h5;exact⟨λz=>absurd z g,λz=>by rw[decide_eq_true z]at h5;cases h5⟩
 rw[if_neg e13]at hk';refine zu (λe16=>?_) (λe16=>?_)
 . refine cen 0 h4 _ (by rw[v2,e16];decide) (Hp.le_refl _) ?_;rw[if_pos e16]at hk';refine ze (λh5=>zu (λh6=>hk' _ ?_) (λh6=>hk' _ ?_)) (λh5=>hk' _ ?_)
   . rw[if_pos ⟨h5,λhh=>absurd (hat.2 hh) (by omega)⟩]
   . rw[if_neg (λhh=>hh.2 (hat.1 (by omega)))]
   . rw[if_neg (λhh=>h5 hh.1)]
 rw[if_neg e16]at hk';refine zu (λe17=>?_) (λe17=>?_)
 . refine cen 0 h4 _ (by rw[v2,e17];decide) (Hp.le_refl _) (cen 1 h4 _ (by rw[v2,e17];decide) (Hp.le_refl _) ?_);rw[if_pos e17]at hk';refine zi (λh5=>hk' _ ?_) (λh5=>hk' _ ?_)
   . rw[if_neg];intro hh;have e:decide (cAt cs c 0=t)=decide (cAt cs c 1=t):=decide_eq_decide.2 hh;rw[e]at h5;simp at h5
   . rw[if_pos];have h6:decide (cAt cs c 0=t)=decide (cAt cs c 1=t):=by simpa using h5
     exact decide_eq_decide.1 h6
 rw[if_neg e17]at hk';refine zu (λe0=>?_) (λe0=>?_)
 . refine hk' _ ?_;rw[if_pos (λhh=>absurd (hat.2 hh) (by omega))]
 have hin:t∈c.pts:=hat.1 (by omega);rw[if_neg (λhh=>hh hin)]at hk';have hne:z6d c.pts t c.pts.length≠[]:=λhh=>by rw[hh]at hr;simp at hr;omega
 obtain⟨i0,hi0,hi1,hi2⟩:=zns hne;have hlen0:0<(z6d c.pts t c.pts.length).length:=List.length_pos_iff.2 hne;have hget0:(z6d c.pts t c.pts.length)[0]=(i0:Int):=by rw[Jc hlen0]at hi0;exact J9 hi0
 refine⟨_,k4 0 _ rfl,?_⟩;rw[x1];have dk:∀(n:Int),(c.kind==n)=decide (c.kind=n):=λn=>by
  by_cases hh:c.kind=n
  . rw[decide_eq_true hh,hh];simp
  . rw[decide_eq_false hh,beq_eq_false_iff_ne];exact hh
 refine zh (λs h'=>h'=h4/\s.1=decide (c.kind=1\/c.kind=9)) ?_ ?_
 . rintro⟨b,_⟩ h4 ⟨rfl,hb⟩;simp only at hb;subst hb;refine ze (λe=>?_) (λe1=>?_)
   . rw[if_pos e]at hk';exact hk' _ rfl
   rw[if_neg e1]at hk';refine zu (λe=>?_) (λe2=>?_)
   . rw[if_pos e]at hk';exact hk' _ rfl
   rw[if_neg e2]at hk';refine zh (λs h'=>h'=h4/\s.1=decide (c.kind=3\/c.kind=6\/c.kind=11\/c.kind=12)) ?_ ?_
   . rintro⟨b,_⟩ h4 ⟨rfl,hb⟩;simp only at hb;subst hb;refine ze (λe=>?_) (λe3=>?_)
     . rw[if_pos e]at hk';exact hk' _ rfl
     rw[if_neg e3]at hk';refine zu (λe=>?_) (λe4=>?_)
     . rw[if_pos e]at hk';refine hr6.get 0 rfl hlen0 ?_;rw[hget0];refine zu (λh5=>hk' _ ?_) (λh5=>hk' _ ?_)
       . have:i0=0:=by omega
         subst this;rw[if_pos hi1]
       . rw[if_neg (hi2 0 (by omega))]
     rw[if_neg e4]at hk';refine zu (λe=>?_) (λe5=>?_)
     . rw[if_pos e]at hk';refine hr6.get 0 rfl hlen0 ?_;rw[hget0];refine ze (λh5=>hk' _ ?_) (λh5=>hk' _ ?_)
       . have h5:(i0:Int)<2:=h5;rcases(by omega:i0=0\/i0=1)with rfl | rfl
         . rw[if_pos (.inl hi1)]
         . rw[if_pos (.inr hi1)]
       . have h5:¬(i0:Int)<2:=h5;rw[if_neg];rintro(hh | hh)
         . exact hi2 0 (by omega) hh
         . exact hi2 1 (by omega) hh
     rw[if_neg e5]at hk';have hc2:((r6.len:Int)==2)=decide (cnt c.pts t=2):=by
      rw[hr,hpl];by_cases hh:cnt c.pts t=2
      . rw[decide_eq_true hh,hh];rfl
      . rw[decide_eq_false hh,beq_eq_false_iff_ne];omega
     rw[hc2];refine zh (λs h'=>h'=h4/\s.1=decide (c.kind=5\/c.kind=7)) ?_ ?_
     . rintro⟨b,_⟩ h4 ⟨rfl,hb⟩;simp only at hb;subst hb;refine ze (λe=>?_) (λe6=>?_)
       . rw[if_pos e]at hk';exact ze (λh5=>hk' _ (by rw[if_pos h5])) (λh5=>hk' _ (by rw[if_neg h5]))
       rw[if_neg e6]at hk';refine zu (λe=>?_) (λe7=>?_)
       . rw[if_pos e]at hk';exact ze (λh5=>hk' _ (by rw[if_pos h5])) (λh5=>hk' _ (by rw[if_neg h5]))
       rw[if_neg e7]at hk';exact hk' _ rfl
     . rw[dk 5,dk 7];refine ze (λe=>⟨rfl,?_⟩) (λe=>⟨rfl,?_⟩)
       . rw[decide_eq_true e,decide_eq_true (Or.inl e)]
       . exact decide_eq_decide.2 (by omega)
   . rw[dk 3,dk 6,dk 11,dk 12];refine ze (λe=>⟨rfl,?_⟩) (λe=>ze (λe2=>⟨rfl,?_⟩) (λe2=>ze (λe3=>⟨rfl,?_⟩) (λe3=>⟨rfl,?_⟩)));all_goals exact decide_eq_decide.2 (by omega)
 . rw[dk 1,dk 9];refine ze (λe=>⟨rfl,?_⟩) (λe=>⟨rfl,?_⟩);all_goals exact decide_eq_decide.2 (by omega)
end
end Den
end

section
namespace Den
open Go Iv Lx
section
variable {h : Hp} {x : TConstraint} {c : PCon} {cs : List Int} {ce : Sl} {t k : Int} {Kb : Bool → Hp → Prop} {Ki : Int → Hp → Prop} {Ks : Sl → Hp → Prop}
theorem Z3c(hv:zwm c)(hm:k∈c.cir):c.kind=13\/c.kind=14\/c.kind=15\/c.kind=16\/c.kind=17:=by
 obtain⟨v1,v2,v3,v4,_⟩:=hv;have h1:c.cir.length≠0:=λhh=>by rw[Jn hh]at hm;cases hm
 apply Jy;intro hn;have:(shK c.kind).2.1=0:=by
  rcases(by omega:c.kind=1\/c.kind=2\/c.kind=3\/c.kind=4\/c.kind=5\/c.kind=6\/c.kind=7\/c.kind=8\/c.kind=9\/c.kind=10\/c.kind=11\/c.kind=12)with e | e | e | e | e | e | e | e | e | e | e | e<;>rw[e]<;>rfl
 omega
theorem zun(hx:CO h x c)(hc:IL h ce cs)(hs:sC c)(hok:zbr c cs)(hv:zwm c)(H:∀b h',h.le h'->(b=true↔zey c cs k)->Kb b h'):zc (F.z8n x ce k) Kb h:=by
 refine zd (λb h'=>b=true↔zey c cs k) (λK' hk=>?_) λb h' hl hb=>H b h' hl hb
 unfold F.z8n;have x1:=hx.1;have x5:=hx.2.2.2.2;refine zkj hx.2.2.1 (by have:=hs.2.1;omega) λr h1 hl1 hr=>?_
 have no:∀h',h.le h'->¬zey c cs k->K' false h':=λh' hl hn=>hk _ _ hl ⟨λhh=>(by cases hh),λhh=>absurd hh hn⟩
 refine ze (λh2=>no _ hl1 λhh=>?_) (λh2=>?_)
 . have:=hr.2 hh.1;omega
 have hm:=hr.1 (by omega);have hkd:=Z3c hv hm;have hkk:=hok _ hm;have dk:∀(n:Int),(c.kind==n)=decide (c.kind=n):=λn=>by
  by_cases hh:c.kind=n
  . rw[decide_eq_true hh,hh];simp
  . rw[decide_eq_false hh,beq_eq_false_iff_ne];exact hh
 rw[x1,x5];unfold zey at hk no;refine zh (λs h'=>h'=h1/\s.1=decide (c.kind=14\/c.kind=15)) ?_ ?_
 . rintro⟨b,_⟩ h1 ⟨rfl,hb⟩;simp only at hb;subst hb;refine ze (λe=>hk _ _ hl1 ⟨λ_=>⟨hm,?_⟩,λ_=>rfl⟩) (λe1=>?_)
   . rw[if_neg (by omega),if_neg (by omega)];trivial
   refine zh (λs h'=>h'=h1/\s.1=decide (c.kind=13\/c.kind=16)) ?_ ?_
   . rintro⟨b,_⟩ h1 ⟨rfl,hb⟩;simp only at hb;subst hb;refine ze (λe=>?_) (λe2=>?_)
     . rw[if_pos e]at hk no;refine(hc.le hl1).get k.toNat (by omega) (by omega) ?_;refine Qz (hx.2.1.le hl1) (by have:=hs.1;omega) λh3 hl3=>hk _ _ (Hp.le_trans hl1 hl3) ?_
       rw[qf (show k.toNat<cs.length by omega)];by_cases g:cs[k.toNat]∈c.pts
       . rw[decide_eq_true g];exact⟨λhh=>(by cases hh),λhh=>absurd g hh.2⟩
       . rw[decide_eq_false g];exact⟨λ_=>⟨hm,g⟩,λ_=>rfl⟩
     . rw[if_neg e2]at hk no;refine zu (λe17=>?_) (λe17=>by omega);rw[if_pos e17]at hk no;refine zu (λe5=>?_) (λe5=>no _ hl1 λhh=>e5 hh.2.1);refine zoj (i:=0) (hx.le hl1) (hc.le hl1) hok (by rw[hv.2.1,e17];decide) ?_;refine zoj (i:=1) (hx.le hl1) (hc.le hl1) hok (by rw[hv.2.1,e17];decide) ?_;refine hk _ _ hl1 ?_;rw[bne_iff_ne];exact⟨λhh=>⟨hm,e5,hh⟩,λhh=>hh.2.2⟩
   . rw[dk 13,dk 16];refine ze (λe=>⟨rfl,?_⟩) (λe=>⟨rfl,?_⟩);all_goals exact decide_eq_decide.2 (by omega)
 . rw[dk 14,dk 15];refine ze (λe=>⟨rfl,?_⟩) (λe=>⟨rfl,?_⟩);all_goals exact decide_eq_decide.2 (by omega)
end
end Den
end

section
namespace Den
open Go Iv Lx
def its(S:PSk):List (List Int):=(Yw S).map λc=>Qq c (qw S)
theorem zdi{S:PSk}:(its S).length=(Yw S).length:=by simp[its]
theorem Z95(k:Int):eqK k<=2:=by
 unfold eqK shK;split
 . have:∀i:Nat,(Zc1.getD i (0,0,0,0,false)).2.2.2.1<=2:=by
    intro i;rcases Jo i 17 with h | h
    . have:∀i:Fin 17,(Zc1.getD i (0,0,0,0,false)).2.2.2.1<=2:=by decide
      exact this ⟨i,h⟩
    . rw[Jf,List.getElem?_eq_none (by exact h)];decide
   exact this _
 . decide
theorem ztz{L:List PCon}{l:List Int}{i:Int}:wtL L (l++[i])=wtL L l+eqK (L.getD i.toNat dC).kind:=by simp[wtL]
theorem Zcz{L:List PCon}:∀l:List Int,wtL L l<=2*l.length
 | []=>by simp[wtL]
 | a :: r=>by
   have h1:=Zcz (L:=L) r;have h2:=Z95 (L.getD a.toNat dC).kind;unfold wtL at h1 |-
   simp only[U3,List.sum_cons,J3];omega
theorem Zeh{its:List (List Int)}{item:Int}{R:List Int}:(zat its item R).length<=its.length:=zlh _ _ _ _
theorem Zei{its:List (List Int)}{item:Int}{R:List Int}{j:Int}(h:j∈zat its item R):∃k:Nat,k<its.length/\j=k/\zc8 (its.getD k []) item R:=zli.1 h
section
variable {h : Hp} {s : TSketch} {S : PSk} {p : Addr} {item : Int} {R : List Int} {rs : Sl} {Kb : Bool → Hp → Prop} {Ki : Int → Hp → Prop} {Ks : Sl → Hp → Prop}
theorem Zdb{n m:Nat}{D:Hp}{K:Sl->Hp->Prop}(hn:n<=1000)(hm:m<=1000)(H:∀y h',OI D h' y (zjj n m)->K y h'){y:Sl}{h1:Hp}(ho:OI D h1 y ((Jp n).map λi:Nat=>(i:Int))) :
 (zn (S:=Sl×Int×Unit) (λs8 k9 h3=>
 (ifP (decide (s8.2.1<(m:Int)))
 (ql 1 8 [.int .i64 0] s8.1 1 [.int .i64 (i64.wrap ((-1)-s8.2.1))] (λw10 h4=>
 (k9 (w10,(i64.wrap (s8.2.1+1)),()) h4)) h3)
 (K s8.1 h3)))
 (y,0,()) h1):=by
  refine Yq (n:=m) (by omega) (λi y h'=>OI D h' y ((Jp n).map (λi:Nat=>(i:Int))++(Jp i).map λi:Nat=>-1-(i:Int))) (by simpa using ho) ?_;intro i z h2 hi ho2 k hk2;refine ze (λh3=>?_) (λh3=>?_)
  . have hi':i<m:=by simp only at h3;omega
    simp only;rw[show i64.wrap (-1-(i:Int))=-1-(i:Int) from w64 (by omega)];refine ho2.app (by simp;omega) λw h4 ho4=>hk2 _ _ hi' ?_
    rw[List.range_succ,Uf,<-Uq];exact ho4
  . have:i=m:=by simp only at h3;omega
    subst this;exact H _ _ ho2
theorem zhe(hp:PR h p S)(hs:sSk S)(H:∀y h',h.le h'->OI h h' y (zjj S.pts.length S.cir.length)->Ks y h'):zc (F.y_henneberg_peeler_all (some p)) Ks h:=by
 refine zd (λy h'=>OI h h' y (zjj S.pts.length S.cir.length)) (λK' hk=>?_) λb h' hl hb=>H b h' hl hb
 unfold F.y_henneberg_peeler_all;obtain⟨s,lS,itS,ceS,hx,hc,_⟩:=hp;have l1:=hx.1.len z13;have l2:=hx.2.1.len z31;have:=hs.1;have:=hs.2.1;simp only[W7,Gi];refine⟨_,hc 0 _ rfl,?_⟩;simp only;rw[l1];refine Yq (n:=S.pts.length) (by omega) (λi y h'=>OI h h' y ((Jp i).map λi:Nat=>(i:Int))) OI.nil ?_;intro i y h2 hi ho k hk2;refine ze (λh3=>?_) (λh3=>?_)
 . have hi':i<S.pts.length:=by simp only at h3;omega
   refine ho.app (by simp;omega) λw h4 ho4=>hk2 _ _ hi' ?_
   rw[List.range_succ,Uf];exact ho4
 have:i=S.pts.length:=by simp only at h3;omega
 subst this;refine⟨_,Hp.cell_le ho.dle (hc 1 _ rfl),?_⟩;simp only;rw[l2];exact Zdb (n:=S.pts.length) (m:=S.cir.length) (by omega) (by omega) (λz h2 ho2=>hk _ _ ho2.dle ho2) ho
theorem zlj(hp:PR h p S)(hs:sSk S)(hv:VS S)(hr:IL h rs R)(hR:R.length<=100000)(H:∀y h',h.le h'->OI h h' y (zat (its S) item R)->Ks y h'):zc (F.y_henneberg_peeler_remaining (some p) item rs) Ks h:=by
 refine zd (λy h'=>OI h h' y (zat (its S) item R)) (λK' hk=>?_) λb h' hl hb=>H b h' hl hb
 unfold F.y_henneberg_peeler_remaining;obtain⟨s,lS,itS,ceS,hx,hc,hL,hI,hC⟩:=hp;have hal:=zf7 hs;have hok:=zd4 hv hs;have hIl:=hI.len zab;rw[List.length_map]at hIl;refine Ww λp1 h1 hl1 c1=>?_
 refine⟨_,Hp.cell_le hl1 (hc 7 _ rfl),?_⟩;refine Yq (n:=(Yw S).length) (by omega) (λi y h'=>OI h1 h' y (zbk (its S) item R i)) OI.nil ?_;intro i y h2 hi ho k hk2;have hle:=Hp.le_trans hl1 ho.dle;refine ze (λh3=>?_) (λh3=>?_)
 . have hi':i<(Yw S).length:=by simp only at h3;omega
   refine zh (λs h'=>OI h1 h' s.1 (zbk (its S) item R (i+1))) (λs h' hs=>hk2 _ _ hi' hs) ?_;refine(hI.le zab hle).get zab i rfl (by simpa using hi') λa x hxx hcx=>?_
   have e0:=hcx 0 _ rfl;rw[Zw]at e0;refine⟨_,e0,?_⟩;rw[List.getElem_map]at hxx;have hlen:=zkl (cs:=qw S) (hok _ (Jh hi')).2;have hxx:IL h2 x (Qq (Yw S)[i] (qw S)):=hxx;have hg:(its S).getD i []=Qq (Yw S)[i] (qw S):=by
    rw[qf (by rw[zdi];exact hi')];simp[its]
   have hstep:zbk (its S) item R (i+1)=zbk (its S) item R i++(if zc8 (Qq (Yw S)[i] (qw S)) item R then [(i:Int)]else []):=by
    conv=>lhs;unfold zbk
    rw[hg]
   have hrl:=zlh (its S) item R i;refine Qz hxx (by omega) λh4 hl4=>?_
   have ho4:=ho.le hl4;refine ze (λh5=>?_) (λh5=>?_)
   . refine zd (λb h'=>b=true↔∃x∈Qq (Yw S)[i] (qw S),x∈R) (λK2 hk3=>?_) λb h6 hl6 hb=>?_
     . unfold F.Z7;refine zd (λr h'=>Fnd (λx=>x∈R) (Qq (Yw S)[i] (qw S)) r) (λK4 hk4=>?_) λr h' hl hr=>hk3 _ _ hl (by rw[decide_eq_true_iff];exact hr.iff)
       unfold F.yj;refine zdg (hxx.le hl4) (by omega) (λx _ h7 hl7 K5 hK5=>?_) λr h' hl hr=>hk4 _ _ hl hr
       refine zd (λb h'=>b=decide (x∈R)) (λK6 hk6=>?_) λb h8 hl8 hb=>hK5 _ _ hl8 (by rw[hb,decide_eq_true_iff])
       unfold F.y_henneberg_peeler_remaining_1;have l7:=Hp.le_trans ho4.dle hl7;refine⟨_,Hp.cell_le l7 c1,?_⟩;exact Qz (hr.le (Hp.le_trans hl1 l7)) (by omega) λh8 hl8=>hk6 _ _ hl8 rfl
     . have ho6:=ho4.le hl6;refine zi (λh7=>?_) (λh7=>?_)
       . have hkp:zc8 (Qq (Yw S)[i] (qw S)) item R:=⟨h5,λx hx hxR=>by rw[hb.2 ⟨x,hx,hxR⟩]at h7;cases h7⟩;refine ho6.app (by omega) λz h8 ho8=>?_
         show OI _ _ _ _;rw[hstep,if_pos hkp];exact ho8
       . have hkp:¬zc8 (Qq (Yw S)[i] (qw S)) item R:=λhh=>by
          obtain⟨x,hx,hxR⟩:=hb.1 (by simpa using h7);exact hh.2 x hx hxR
         show OI _ _ _ _;rw[hstep,if_neg hkp,Gt];exact ho6
   . show OI _ _ _ _;rw[hstep,if_neg (λhh=>h5 hh.1),Gt];exact ho4
 . have:i=(Yw S).length:=by simp only at h3;omega
   subst this;refine hk _ _ hle ?_;have ho:=ho.base hl1;unfold zat;rw[zdi];exact ho
theorem zbz{k:Nat}(hp:PR h p S)(hs:sSk S)(hv:VS S)(ht:GT h)(hk:k<(Yw S).length)(H:Ki ((eqK ((Yw S).getD k dC).kind:Nat):Int) h):zc (F.y_henneberg_peeler_equations (some p) (k:Int)) Ki h:=by
 refine zx _ (λK' hkk=>?_) H;unfold F.y_henneberg_peeler_equations;obtain⟨s,lS,itS,ceS,hx,hc,hL,hI,hC⟩:=hp;refine⟨_,hc 6 _ rfl,?_⟩;refine hL.get yw k rfl hk λa x hxx hcx=>⟨_,hcx 0 _ rfl,?_⟩
 rw[hxx.1];have:=(zd4 hv hs _ (Jh hk)).1.1;rw[qf hk]at hkk;exact zf6 ht.2.2 (λ_ _ ln ps=>hkk) (λhn=>absurd this hn)
theorem ziq{l:Sl}{xs:List Int}(hp:PR h p S)(hs:sSk S)(hv:VS S)(ht:GT h)(hl:IL h l xs)(hlen:xs.length<=100000)(hin:∀i∈xs,∃k:Nat,k<(Yw S).length/\i=k)(H:∀h',h.le h'->Ki ((wtL (Yw S) xs:Nat):Int) h'):zc (F.y_henneberg_peeler_weight (some p) l) Ki h:=by
 refine zd (λb h'=>b=((wtL (Yw S) xs:Nat):Int)) (λK' hk=>?_) λb h' hl hb=>by subst hb;exact H h' hl
 unfold F.y_henneberg_peeler_weight;have hll:=hl.len;refine Yq (n:=xs.length) (by omega) (λi a h'=>h.le h'/\a=((wtL (Yw S) (xs.take i):Nat):Int)) ⟨Hp.le_refl _,by simp[wtL]⟩ ?_;rintro i a h2 hi ⟨hl2,ha⟩ k hk2;refine ze (λh3=>?_) (λh3=>?_)
 . have hi':i<xs.length:=by simp only at h3;omega
   refine(hl.le hl2).get i rfl hi' ?_;obtain⟨q,hq1,hq2⟩:=hin _ (Jh hi');rw[hq2];have hw:=Zcz (L:=Yw S) (xs.take i);rw[Jl]at hw;have hw2:=Z95 ((Yw S).getD q dC).kind;refine zbz (hp.le hl2) hs hv (ht.le hl2) hq1 (hk2 _ _ hi' ⟨hl2,?_⟩);rw[<-Jk hi',ztz,hq2];simp only;rw[ha,w64 (by omega)];rfl
 . have:i=xs.length:=by simp only at h3;omega
   subst this;rw[Jw]at ha;rw[ha];exact hk _ _ hl2 rfl
theorem zww{k:Nat}{t:Int}(hp:PR h p S)(hs:sSk S)(hv:VS S)(hk:k<(Yw S).length)(H:∀h',h.le h'->Ki (zc9 ((Yw S).getD k dC) (qw S) t) h'):zc (F.y_henneberg_peeler_kind (some p) (k:Int) t) Ki h:=by
 refine zd (λb h'=>b=zc9 ((Yw S).getD k dC) (qw S) t) (λK' hkk=>?_) λb h' hl hb=>by subst hb;exact H h' hl
 unfold F.y_henneberg_peeler_kind;obtain⟨s,lS,itS,ceS,hx,hc,hL,hI,hC⟩:=hp;refine⟨_,hc 6 _ rfl,?_⟩;refine hL.get yw k rfl hk λa x hxx hcx=>⟨_,hcx 0 _ rfl,_,hcx 1 _ rfl,_,hcx 2 _ rfl,_,hcx 3 _ rfl,_,hcx 4 _ rfl,?_⟩
 refine⟨_,hc 8 _ rfl,?_⟩;have:=zd4 hv hs _ (Jh hk);rw[qf hk]at hkk;exact Z08 (x:=x) hxx hC this.2 this.1.cirOk this.1.lenC λh' hl=>hkk _ _ hl rfl
def smI(item:Int):Prop:=-1000000<=item/\item<=1000000
theorem zlk(hp:PR h p S)(hs:sSk S)(hv:VS S)(ht:GT h)(hr:IL h rs R)(hR:R.length<=100000)(hi:smI item)(H:∀b h',h.le h'->(b=true↔zfb (Yw S) (qw S) R item)->Kb b h'):zc (F.y_henneberg_peeler_removable (some p) item rs) Kb h:=by
 refine zd (λb h'=>b=true↔zfb (Yw S) (qw S) R item) (λK' hk=>?_) λb h' hl hb=>H b h' hl hb
 unfold F.y_henneberg_peeler_removable;have no:∀h',h.le h'->¬zfb (Yw S) (qw S) R item->K' false h':=λh' hl hn=>hk _ _ hl ⟨λhh=>(by cases hh),λhh=>absurd hh hn⟩
 have hits:its S=(Yw S).map λc=>Qq c (qw S):=rfl
 unfold zfb at no hk;rw[<-hits]at no hk;refine Ww λp1 h1 hl1 c1=>Ww λp2 h2 hl2 c2=>?_
 have hle2:=Hp.le_trans hl1 hl2;refine⟨_,c2,?_⟩;refine Qz (hr.le hle2) (by omega) λh3 hl3=>?_
 have hle3:=Hp.le_trans hle2 hl3;refine ze (λh4=>no _ hle3 λhh=>hh.1 h4) (λh4=>?_);have d1:∀{h'},h3.le h'->h'.cell p1=some (.pointer (some p)):=λhl=>Hp.cell_le (Hp.le_trans hl2 (Hp.le_trans hl3 hl)) c1
 have d2:∀{h'},h3.le h'->h'.cell p2=some (.int .i64 item):=λhl=>Hp.cell_le (Hp.le_trans hl3 hl) c2
 refine⟨_,d1 (Hp.le_refl _),_,d2 (Hp.le_refl _),?_⟩;refine zlj (hp.le hle3) hs hv (hr.le hle3) hR λr7 h5 hl5 ho5=>?_
 have hle5:=Hp.le_trans hle3 hl5;have hrl:(zat (its S) item R).length<=(its S).length:=Zeh;rw[zdi]at hrl;have hal:=zf7 hs;have hin:∀i∈zat (its S) item R,∃k:Nat,k<(Yw S).length/\i=k:=λi hi=>by
  obtain⟨k,h1,h2,_⟩:=Zei hi;rw[zdi]at h1;exact⟨k,h1,h2⟩
 refine⟨_,d2 hl5,?_⟩;obtain⟨s,lS,itS,ceS,hpp⟩:=hp;have hp:PR h p S:=⟨s,lS,itS,ceS,hpp⟩;obtain⟨hx,hc,hL,hI,hC⟩:=hpp;refine ze (λh6=>?_) (λh6=>?_)
 . have h6:item<0:=h6;refine⟨_,d1 hl5,?_⟩;refine ziq (hp.le hle5) hs hv (ht.le hle5) ho5.il (by omega) hin λh7 hl7=>?_
   have hle7:=Hp.le_trans hle5 hl7;have hm:zae item=1:=by unfold zae;rw[if_pos h6]
   refine ze (λh8=>?_) (λh8=>no _ hle7 λhh=>by have:=hh.2.1;omega);refine zd (λb h'=>b=true↔∃i∈zat (its S) item R,¬z8z ((Yw S).getD i.toNat dC) (qw S) item) (λK2 hk3=>?_) λb h9 hl9 hb=>hk _ _ (Hp.le_trans hle7 hl9) ?_
   . unfold F.Z8;refine zd (λr h'=>Fnd (λi=>¬z8z ((Yw S).getD i.toNat dC) (qw S) item) (zat (its S) item R) r) (λK4 hk4=>?_) λr h' hl hr=>hk3 _ _ hl (by rw[decide_eq_true_iff];exact hr.iff)
     unfold F.yk;refine zdg (ho5.il.le hl7) (by omega) (λi hi2 h9 hl9 K5 hK5=>?_) λr h' hl hr=>hk4 _ _ hl hr
     refine zd (λb h'=>b=true↔¬z8z ((Yw S).getD i.toNat dC) (qw S) item) (λK6 hk6=>?_) λb h8 hl8 hb=>hK5 _ _ hl8 hb
     unfold F.y_henneberg_peeler_removable_1;obtain⟨k,hk1,rfl⟩:=hin i hi2;have hle9:=Hp.le_trans hle7 hl9;have l39:=Hp.le_trans hl5 (Hp.le_trans hl7 hl9);refine⟨_,d1 l39,_,Hp.cell_le hle9 (hc 6 _ rfl),?_⟩;refine(hL.le yw hle9).get yw k rfl hk1 λa x hxx hcx=>⟨_,hcx 0 _ rfl,_,hcx 1 _ rfl,_,hcx 2 _ rfl,_,hcx 3 _ rfl,_,hcx 4 _ rfl,?_⟩
     refine⟨_,d1 l39,_,Hp.cell_le hle9 (hc 8 _ rfl),_,d2 l39,?_⟩;have hok:=zd4 hv hs _ (Jh hk1);have e1:i64.wrap (-1-item)=-1-item:=by unfold smI at hi;exact w64 (by omega)
     simp only;rw[e1];refine zun (x:=x) hxx (hC.le hle9) hok.2 hok.1.cirOk hok.1.lenC λb h' hl hb=>hk6 _ _ hl ?_
     rw[show((k:Nat):Int).toNat=k from rfl,qf hk1];unfold z8z;rw[if_pos h6,<-hb];cases b<;>simp
   . rw[Gc,<-Tr,hb];constructor
     . intro hh;exact⟨h4,by omega,λi hi=>Jy λhn=>hh ⟨i,hi,hn⟩⟩
     . rintro⟨_,_,h10⟩ ⟨i,hi,hn⟩;exact hn (h10 i hi)
 . have h6:¬item<0:=h6;refine⟨_,d1 hl5,?_⟩;refine ziq (hp.le hle5) hs hv (ht.le hle5) ho5.il (by omega) hin λh7 hl7=>?_
   have hle7:=Hp.le_trans hle5 hl7;have hm:zae item=2:=by unfold zae;rw[if_neg h6]
   refine ze (λh8=>no _ hle7 λhh=>by have:=hh.2.1;omega) (λh8=>?_);have hr7:=ho5.il.le hl7;have hr7l:=hr7.len;refine yg (n:=(zat (its S) item R).length) (by omega) (λi h'=>h7.le h'/\∀j (hj:j<(zat (its S) item R).length),j<i->z8z ((Yw S).getD (zat (its S) item R)[j].toNat dC) (qw S) item) ⟨Hp.le_refl _,λj _ hj=>by omega⟩ ?_;rintro i h9 hi9 ⟨hl9,hno⟩ kk hk2;have hle9:=Hp.le_trans hle7 hl9;have l39:=Hp.le_trans hl5 (Hp.le_trans hl7 hl9);refine ze (λh10=>?_) (λh10=>?_)
   . have hi':i<(zat (its S) item R).length:=by simp only at h10;omega
     refine(hr7.le hl9).get i rfl hi' ?_;obtain⟨k,hk1,hk2e⟩:=hin _ (Jh hi');rw[hk2e];refine⟨_,d1 l39,_,d2 l39,?_⟩;refine zww (hp.le hle9) hs hv hk1 λh11 hl11=>?_
     have hle11:=Hp.le_trans hle9 hl11;have l311:=Hp.le_trans l39 hl11;obtain⟨kd,hkd⟩:∃kd,kd=zc9 ((Yw S).getD k dC) (qw S) item:=⟨_,rfl⟩;have hsuit:z8z ((Yw S).getD (zat (its S) item R)[i].toNat dC) (qw S) item↔(if eqK ((Yw S).getD k dC).kind=2 then kd=3 else kd=1\/kd=2):=by
      rw[hk2e,hkd];unfold z8z;rw[if_neg h6];rfl
     rw[<-hkd];refine zh (λs h'=>h'=h11/\s.1=decide (kd=1\/kd=2)) ?_ ?_
     . rintro⟨b,_⟩ h11 ⟨rfl,hb⟩;simp only at hb;subst hb;refine zh (λs h'=>h'=h11/\(s.1=true↔z8z ((Yw S).getD (zat (its S) item R)[i].toNat dC) (qw S) item)) ?_ ?_
       . rintro⟨b,_⟩ h11 ⟨rfl,hb⟩;simp only at hb;refine zi (λh12=>no _ hle11 λhh=>?_) (λh12=>hk2 _ hi' ⟨Hp.le_trans hl9 hl11,?_⟩)
         . rw[hb.2 (hh.2.2 _ (Jh hi'))]at h12;cases h12
         . exact zqp (P:=λi:Int=>z8z ((Yw S).getD i.toNat dC) (qw S) item) hno hi' (hb.1 (by simpa using h12))
       . refine⟨_,d1 l311,?_⟩;refine zbz (hp.le hle11) hs hv (ht.le hle11) hk1 ?_;refine zu (λh12=>⟨rfl,?_⟩) (λh12=>⟨rfl,?_⟩)
         . rw[hsuit,if_pos (by omega)];simp
         . rw[hsuit,if_neg (by omega)];simp
     . refine zu (λh12=>⟨rfl,?_⟩) (λh12=>⟨rfl,?_⟩)
       . rw[h12];rfl
       . by_cases h13:kd=2
         . rw[h13];rfl
         . rw[decide_eq_false (by omega)];simpa using h13
   . refine hk _ _ hle9 ⟨λ_=>⟨h4,by omega,?_⟩,λ_=>rfl⟩;exact zgg (P:=λi:Int=>z8z ((Yw S).getD i.toNat dC) (qw S) item) hno (by simp only at h10;omega)
end
end Den
end

section
namespace Den
open Go Iv Lx
section
variable {h : Hp} {s : TSketch} {S : PSk} {x : TConstraint} {c : PCon} {cs : List Int} {ce : Sl} {item : Int} {R : List Int} {rs : Sl} {Kb : Bool → Hp → Prop} {Ki : Int → Hp → Prop} {Ks : Sl → Hp → Prop}
end
theorem z7e{can:List Int->Int->Bool}{pref:List Int}(hc:∀R i,can R i=true->i∉R):∀{f:Nat} {R:List Int},(Xp pref R).length<=f->pref.find? (can R)=none->z5y can pref f R=R
 | 0,R,_,_=>rfl
 | f+1,R,_,h=>by unfold z5y;rw[h]
theorem z9s{can:List Int->Int->Bool}{pref:List Int}(hc:∀R i,can R i=true->i∉R){f:Nat}{R:List Int}{i:Int}(hf:(Xp pref R).length<=f)(h:pref.find? (can R)=some i) :
 ∃g,f=g+1/\z5y can pref f R=z5y can pref g (R++[i])/\(Xp pref (R++[i])).length<=g:=by
 have h1:=List.find?_some h;have h2:=List.mem_of_find?_eq_some h;have h3:=zwl h2 (hc _ _ h1);obtain⟨g,rfl⟩:∃g,f=g+1:=⟨f-1,by omega⟩;refine⟨g,rfl,?_,by omega⟩
 conv=>lhs;unfold z5y
 rw[h]
theorem zrf{L:List PCon}{cs:List Int}:∀R i,zeg L cs R i=true->i∉R:=λR i h=>(of_decide_eq_true h).1
def z12(S:PSk)(pref:List Int):List Int:=Zh2 (zeg (Yw S) (qw S)) pref
theorem Z0y{can:Int->Bool}{l:List Int}{i:Nat}(hi:i<l.length)(hno:∀j (hj:j<l.length),j<i->can l[j]=false)(h:can l[i]=true):l.find? can=some l[i]:=by
 rw[List.find?_eq_some_iff_append];refine⟨h,l.take i,l.drop (i+1),?_,λa ha=>?_⟩
 . rw[List.getElem_cons_drop,List.take_append_drop]
 . obtain⟨j,hj,rfl⟩:=List.mem_take_iff_getElem.1 ha;rw[hno j (by omega) (by omega)];rfl
section
variable {h : Hp} {s : TSketch} {S : PSk} {l : Sl} {pref : List Int} {K : (Sl × Sl) → Hp → Prop}
end
end Den
end

section
namespace Den
open Go Iv Lx
theorem Own.clr{h0 h:Hp}{x:Sl}{cs:List Value}{n:Nat}{K:Hp->Prop}(ho:Own h0 h 1 x cs)(hn:n<=cs.length)(H:∀h',Own h0 h' 1 (x.cut 0 n 1) (cs.take n)->K h'):zv0 (x.cut n x.len 1) [.int .i64 0] K h:=by
 have hlen:=ho.2.1;have hcap:=ho.2.2.1;refine⟨λh1=>H h (ho.pre (by omega)),λh1=>?_⟩;have hl:(x.cut n x.len 1).len=x.len-n:=rfl;have hlt:n<x.len:=by omega
 have ho':=ho;obtain⟨g1,g2,g3,g4⟩:=ho;cases ha:x.a with
 | none=>rw[ha]at g4;simp only at g4;omega
 | some a=>
   rw[ha]at g4;obtain⟨k1,k2,k3,b,k4,k5,k6,k7⟩:=g4;have hca:(x.cut n x.len 1).a=Option.some (a.add (n*1)):=by
    show(if x.cap=n then x.a else x.a.map (·.add (n*1)))=_;rw[if_neg (by omega),ha];rfl
   rw[hca];simp only[stO];rw[Zw];have hrl:(yn (x.cut n x.len 1).len [Ge .i64 0]).length=x.len-n:=by rw[z40,hl];simp
   refine⟨b,by rw[Yr];exact k4,z0e k2 _,k5,?_,?_,?_⟩
   . rw[X4,hrl];omega
   . unfold yn;rw[List.all_flatten,Jz];intro l hl;rw[(List.mem_replicate.1 hl).2];rfl
   . rw[Yr,X4,k1,Gi,J7];refine H _ ⟨?_,?_,?_,?_⟩
     . intro kk bk hkk;rw[Hp.ins_ne (λhh=>by subst hh;rw[k3]at hkk;cases hkk)];exact g1 kk bk hkk
     . show(n-0)*1=_;rw[Jl];omega
     . show n-0<=x.cap-0;omega
     . rw[zn3,ha];refine⟨k1,k2,k3,_,Hp.ins_same _ _ _,k5,?_,?_⟩
       . show(Zc b.cells n _).length=(x.cap-0)*1;rw[Yj (by omega)];exact k6
       . have e:(cs.take n).length=n:=by rw[Jl];omega
         rw[e];show(Zc b.cells n _).take n=_;unfold Zc;rw[Uq,Jx (by rw[Jl];omega),List.take_take,Nat.min_self];have:=congrArg (List.take n) k7;rw[List.take_take,Nat.min_eq_left (by omega)]at this;exact this
def zkn(xs R:List Int)(j:Nat):List Int:=(xs.take j).filter λx=>decide (x∉R)
theorem zh8{xs R:List Int}{j:Nat}(hj:j<xs.length):zkn xs R (j+1)=zkn xs R j++(if xs[j]∈R then []else [xs[j]]):=by
 unfold zkn;rw[<-Jk hj,List.filter_append];congr 1;by_cases hm:xs[j]∈R<;>simp[List.filter,hm]
section
variable {h D : Hp} {S : PSk} {p p1 p2 : Addr} {rs l : Sl} {xs R : List Int} {Kb : Bool → Hp → Prop} {Ki : Int → Hp → Prop} {Ks : Sl → Hp → Prop} {K : (Sl × Sl) → Hp → Prop}
theorem Z0m{G:Int->(Bool->Hp->Prop)->Hp->Prop}{r:Int}(ho:OI D h l xs)(hlen:xs.length<=1000)
 (hG:∀x h',D.le h'->∀K:Bool->Hp->Prop,(∀h'',h'.le h''->K (decide (x∈R)) h'')->zc (G x) K h') (hr:Fnd (λx=>x∈R) xs r) (H:∀y h',OI D h' y (xs.filter λx=>decide (x∉R))->Ks y h') :
 (ifP (r==(-1))
 (Ks l h)
 (zn (S:=Int×Int×Unit) (λs2 k3 h2=>
 (ifP (decide (s2.2.1<(l.len:Int)))
 (zv (S:=Int×Unit) (λs4 h3=>
 (k3 (s4.1,(i64.wrap (s2.2.1+1)),()) h3))
 (λk5=>
 (zg l s2.2.1 1 λa6=>
 (ldL (.int .i64) a6 (λx7=>
 (zc (G x7) (λr8 h4=>
 (ifP (!r8)
 (zg l s2.1 1 λa9=>
 (stP a9 [.int .i64 x7] (λh5=>
 (k5 ((i64.wrap (s2.1+1)),()) h5)) h4))
 (k5 (s2.1,()) h4))) h2)) h2))))
 (slP l s2.1 (l.len:Int) 1 λc10=>
 (zv0 c10 [.int .i64 0] (λh6=>
 (slP l 0 s2.1 1 λc11=>
 (Ks c11 h6))) h2))))
 (r,(i64.wrap (r+1)),()) h)):=by
  have hll:=ho.il.len;have hcap:=ho.2.2.1;rcases hr with ⟨rfl,hno⟩ | ⟨k,hk,rfl,hk1,hk2⟩
  . refine Z4 rfl (H _ _ ?_);have:xs.filter (λx=>decide (x∉R))=xs:=by
     rw[P7];exact λa ha=>decide_eq_true (hno a ha)
    rw[this];exact ho
  . refine zr (by rw[beq_eq_false_iff_ne];omega) ?_;have hkk:zkn xs R k=xs.take k:=by
     unfold zkn;rw[P7];intro a ha;obtain⟨j,hj,rfl⟩:=List.mem_take_iff_getElem.1 ha;exact decide_eq_true (hk2 j (by omega) (by omega))
    have hks:zkn xs R (k+1)=xs.take k:=by
     rw[zh8 hk,if_pos hk1,Gt,hkk]
    refine Zp (λst h'=>∃(j m:Nat) (ys:List Int),st=((m:Int),(j:Int),())/\k<j/\j<=xs.length/\OI D h' l ys/\ys.length=xs.length/\m=(zkn xs R j).length/\m<=j/\ys.take m=zkn xs R j/\ys.drop j=xs.drop j)
     (λst=>(xs.length-st.2.1).toNat) ⟨k+1,k,xs,by rw[w64 (by omega)];rfl,by omega,by omega,ho,rfl,by rw[hks];simp;omega,by omega,by rw[hks],rfl⟩ ?_
    rintro _ h2 ⟨j,m,ys,rfl,hkj,hj,ho2,hyl,hm,hmj,htk,hdr⟩;refine ze (λh3=>?_) (λh3=>?_)
    . have hj':j<xs.length:=by simp only at h3;omega
      have hyj:ys[j]'(by omega)=xs[j]:=by
       have:=congrArg (λl:List Int=>l[0]?) hdr;simp only[Gy,Nat.add_zero]at this;rw[Jc (by omega),Jc hj']at this;exact J9 this
      refine zh (λst h'=>∃(m':Nat) (ys':List Int),st.1=(m':Int)/\OI D h' l ys'/\ys'.length=xs.length/\m'=(zkn xs R (j+1)).length/\m'<=j+1/\ys'.take m'=zkn xs R (j+1)/\ys'.drop (j+1)=xs.drop (j+1)) ?_ ?_
      . rintro⟨_,_⟩ h4 ⟨m',ys',rfl,g1,g2,g3,g4,g5,g6⟩;exact⟨⟨j+1,m',ys',by simp only;rw[w64 (by omega)];rfl,by omega,by omega,g1,g2,g3,g4,g5,g6⟩,by simp only;rw[w64 (by omega)];omega⟩
      . refine ho2.il.get j rfl (by omega) ?_;have hdr1:ys.drop (j+1)=xs.drop (j+1):=by
         have:=congrArg (List.drop 1) hdr;rw[T7,T7]at this;exact this
        refine hG _ _ ho2.dle _ λh4 hl4=>?_
        have ho4:=ho2.le hl4;rw[hyj];refine zi (λh5=>?_) (λh5=>?_)
        . have hx:xs[j]∉R:=by simpa using h5
          have hs:=zh8 (xs:=xs) (R:=R) hj';rw[if_neg hx]at hs;refine zxm m ho4 rfl (by omega) rfl (by decide) rfl λh6 ho6=>⟨m+1,ys.set m xs[j],by simp only;rw[w64 (by omega)];rfl,?_,by simpa using hyl,by rw[hs];simp;omega,by omega,?_,?_⟩
          . rw[J7]at ho6;have e:Zc (ys.map ic) m [Ge .i64 xs[j]]=(ys.set m xs[j]).map ic:=by
             rw[z4w,List.map_set,List.set_eq_take_append_cons_drop,if_pos (by simp;omega)];rfl
            unfold OI;rw[<-e];exact ho6
          . rw[hs,<-htk,List.take_add_one,List.take_set_of_le (Ja _),List.getElem?_set_self (by omega)];rfl
          . rw[List.drop_set_of_lt (by omega)];exact hdr1
        . have hx:xs[j]∈R:=by simpa using h5
          have hs:=zh8 (xs:=xs) (R:=R) hj';rw[if_pos hx,Gt]at hs;exact⟨m,ys,rfl,ho4,hyl,by rw[hs];exact hm,by omega,by rw[hs];exact htk,hdr1⟩
    . have:j=xs.length:=by simp only at h3;omega
      subst this;have hl2:=ho2.il.len;refine⟨by omega,by simp only;omega,by omega,?_⟩;have e1:((l.len:Nat):Int).toNat=l.len:=rfl;have e2:((m:Nat):Int).toNat=m:=rfl;simp only;rw[e1,e2];refine Own.clr ho2 (n:=m) (by simp;omega) λh6 ho6=>⟨by decide,by omega,by omega,?_⟩
      have e3:(0:Int).toNat=0:=rfl;rw[e3,e2];refine H _ _ ?_;unfold OI;have:xs.filter (λx=>decide (x∉R))=ys.take m:=by
       rw[htk];unfold zkn;rw[Jw]
      rw[this,List.map_take];exact ho6
theorem zl3{x:Int}(hc:h.cell p2=some (Lf.sl.up rs))(hr:IL h rs R)(hlen:R.length<=1000)(H:∀h',h.le h'->Kb (decide (x∈R)) h'):zc (F.y_henneberg_peeler_peel_2 x (some p2)) Kb h:=by
 refine zd (λb h'=>b=decide (x∈R)) (λK' hk=>?_) λb h' hl hb=>by subst hb;exact H h' hl
 unfold F.y_henneberg_peeler_peel_2;exact⟨_,hc,Qz hr (by omega) λh' hl=>hk _ _ hl rfl⟩
theorem zro(ho:OI D h l xs)(hxl:xs.length<=1000)(hc:D.cell p2=some (Lf.sl.up rs))(hr:IL D rs R)(hlen:R.length<=1000)(H:∀y h',OI D h' y (xs.filter λx=>decide (x∉R))->Ks y h'):Qu (F.Z0 l (some p2,())) Ks h:=by
 refine Xm ?_;unfold F.Z0;refine zd (λr h'=>Fnd (λx=>x∈R) xs r) (λK2 hk=>?_) λr h1 hl1 hr1=>?_
 . unfold F.Yd;refine zdg ho.il (by omega) (λx _ h5 hl5 K5 hK5=>?_) λr h' hl hr=>hk _ _ hl hr
   have hD5:=Hp.le_trans ho.dle hl5;exact zl3 (Hp.cell_le hD5 hc) (hr.le hD5) hlen λh6 hl6=>hK5 _ _ hl6 (by rw[decide_eq_true_iff])
 . exact Z0m (G:=λx=>F.y_henneberg_peeler_peel_2 x (some p2,()).1) (ho.le hl1) hxl (λx h' hl' K' hK'=>zl3 (Hp.cell_le hl' hc) (hr.le hl') hlen hK') hr1 H
end
end Den
end

section
namespace Den
open Go Iv Lx
theorem Z1q{can:List Int->Int->Bool}{pref:List Int}(hcn:∀R i,can R i=true->i∉R):∀(f1 f2:Nat) (Q:List Int),(Xp pref Q).length<=f1->(Xp pref Q).length<=f2->z5y can pref f1 Q=z5y can pref f2 Q:=by
 intro f1;induction f1 with
 | zero=>
   intro f2 Q h1 h2;cases hq:pref.find? (can Q)with
   | none=>rw[z7e hcn h1 hq,z7e hcn h2 hq]
   | some z=>
     obtain⟨g,hg,_⟩:=z9s hcn h1 hq;omega
 | succ f1 ih=>
   intro f2 Q h1 h2;cases hq:pref.find? (can Q)with
   | none=>rw[z7e hcn h1 hq,z7e hcn h2 hq]
   | some z=>
     obtain⟨g,hg,e1,e2⟩:=z9s hcn h1 hq;obtain⟨g',hg',e1',e2'⟩:=z9s hcn h2 hq;rw[e1,e1'];have:g=f1:=by omega
     subst this;exact ih g' _ e2 e2'
def Xd(S:PSk):List Int:=zjj S.pts.length S.cir.length
theorem zr4{S:PSk}(hs:sSk S):(Xd S).length<=20:=by
 unfold Xd;rw[Z2y];have:=hs.1;have:=hs.2.1;omega
theorem Zda{S:PSk}(hs:sSk S){x:Int}(hx:x∈Xd S):smI x:=by
 have:=Z9l.1 hx;have:=hs.1;have:=hs.2.1;unfold smI;omega
section
variable {h D : Hp} {s : TSketch} {S : PSk} {p p1 p2 : Addr} {rs l : Sl} {xs R : List Int} {Kb : Bool → Hp → Prop} {Ki : Int → Hp → Prop} {Ks : Sl → Hp → Prop} {K : (Sl × Sl) → Hp → Prop}
theorem zwy(hp:PR h p S)(hs:sSk S)(hv:VS S)(ht:GT h)(c1:h.cell p1=some (.pointer (some p)))(c2:h.cell p2=some (Lf.sl.up rs))(hr:IL h rs R)(hR:R.length<=100000)(hl:IL h l xs)(hxl:xs.length<=1000)(hsm:∀x∈xs,smI x)
 (H:∀r h',h.le h'->Fnd (λx=>zeg (Yw S) (qw S) R x=true) xs r->Ki r h'):zc (F.Z1 l (some p1,some p2,())) Ki h:=by
 refine zd (λr h'=>Fnd (λx=>zeg (Yw S) (qw S) R x=true) xs r) (λK' hk=>?_) λb h' hl hb=>H b h' hl hb
 unfold F.Z1;refine zdg hl (by omega) (λx hx h5 hl5 K5 hK5=>?_) λr h' hl hr=>hk _ _ hl hr
 refine zd (λb h'=>b=true↔zeg (Yw S) (qw S) R x=true) (λK6 hk6=>?_) λb h8 hl8 hb=>hK5 _ _ hl8 hb
 unfold F.y_henneberg_peeler_peel_1;refine⟨_,Hp.cell_le hl5 c1,_,Hp.cell_le hl5 c2,?_⟩;exact zlk (hp.le hl5) hs hv (ht.le hl5) (hr.le hl5) hR (hsm x hx) λb h' hl hb=>hk6 _ _ hl (by rw[hb];unfold zeg;rw[decide_eq_true_iff])
theorem Z97{can:Int->Bool}{xs:List Int}{r:Int}(hf:Fnd (λx=>can x=true) xs r):(r=-1/\xs.find? can=none)\/∃k,∃hk:k<xs.length,r=(k:Int)/\xs.find? can=some xs[k]:=by
 rcases hf with ⟨h1,h2⟩ | ⟨k,hk,h1,h2,h3⟩
 . exact .inl ⟨h1,by rw[List.find?_eq_none];exact λx hx=>by simpa using h2 x hx⟩
 . exact .inr ⟨k,hk,h1,Z0y hk (λj hj hjk=>by simpa using h3 j hj hjk) h2⟩
theorem Z1p(hp:PR h p S)(hs:sSk S)(hv:VS S)(ht:GT h)(H:∀a b h',h.le h'->IL h' a (z12 S (Xd S))->IL h' b (Xp (Xd S) (z12 S (Xd S)))->K (a,b) h'):zc (F.y_henneberg_peeler_peel (some p)) K h:=by
 refine zd (λr h'=>IL h' r.1 (z12 S (Xd S))/\IL h' r.2 (Xp (Xd S) (z12 S (Xd S)))) (λK' hk=>?_) λr h' hl hr=>H r.1 r.2 h' hl hr.1 hr.2
 unfold F.y_henneberg_peeler_peel;obtain⟨can,hcan⟩:∃can,can=zeg (Yw S) (qw S):=⟨_,rfl⟩;have hcn:∀R i,can R i=true->i∉R:=by rw[hcan];exact zrf
 have hal:=zr4 hs;refine Ww λp1 h1 hl1 c1=>?_
 intro b e hbf;have hp1:=hp.le hl1;have ht1:=ht.le hl1;refine zdj (λf st h'=>∃(R:List Int) (y:Sl) (D:Hp),st=(some ⟨b,0,none⟩,())/\h1.le D/\D b=none/\MB h' b [Lf.sl.up y]/\OI D h' y R/\(∀a,y.a=some a->a.block≠b)/\R.length+(Xp (Xd S) R).length<=(Xd S).length/\(Xp (Xd S) R).length<=f /\
  z5y can (Xd S) (Xp (Xd S) R).length R=z12 S (Xd S)) (n0:=(Xd S).length)
  ⟨[],zf,h1,rfl,Hp.le_refl _,hbf,⟨e,Hp.ins_same _ _ _⟩,Own.nil (Hp.le_ins hbf),λa ha=>(by cases ha),?_⟩ ?_
 . have e:Xp (Xd S) []=Xd S:=by unfold Xp;rw[P7];simp
   rw[e];exact⟨by simp,Ja _,by rw[hcan];rfl⟩
 rintro f _ h2 ⟨R,y,D,rfl,hD,hDb,hm,ho,hyb,hRl,hf,hpf⟩ K2 hK2;have hD2:=ho.dle;have hle2:h1.le h2:=Hp.le_trans hD hD2;refine⟨_,Hp.cell_le hle2 c1,?_⟩;refine zhe (hp1.le hle2) hs λr6 h3 hl3 ho6=>?_
 have hle3:=Hp.le_trans hle2 hl3;have hm3:=hm.le hl3;have ho3:=ho.le hl3;have c2:∀{h':Hp},MB h' b [Lf.sl.up y]->h'.cell ⟨b,0,none⟩=some (Lf.sl.up y):=λhm=>by
  have:=hm.ld 0 rfl
  rwa [Zw]at this
 refine zwy (hp1.le hle3) hs hv (ht1.le hle3) (Hp.cell_le hle3 c1) (c2 hm3) ho3.il (by omega) (xs:=Xd S) ho6.il (by omega) (λx hx=>Zda hs hx) λr7 h4 hl4 hr7=>?_
 have hle4:=Hp.le_trans hle3 hl4;have hm4:=hm3.le hl4;have ho4:=ho3.le hl4;rw[<-hcan]at hr7;rcases Z97 hr7 with ⟨hr,hnone⟩ | ⟨k,hk0,hr,hsome⟩
 . refine Z4 (decide_eq_true (by omega)) ?_;have hRp:R=z12 S (Xd S):=by rw[<-hpf,z7e hcn (Ja _) hnone]
   refine⟨_,Hp.cell_le hle4 c1,?_⟩;refine zhe (hp1.le hle4) hs λr9 h5 hl5 ho9=>?_
   have hm5:=hm4.le hl5;have ho5:=ho4.le hl5;refine zro (D:=h4) (xs:=Xd S) (R:=R) (rs:=y) ho9 (by omega) (c2 hm4) ho4.il (by omega) λz h6 ho6z=>?_
   have l46:h4.le h6:=ho6z.dle;have hm6:=hm4.le l46;refine⟨_,c2 hm6,?_⟩;refine hk _ _ (Hp.le_trans hl1 (Hp.le_trans hle4 l46)) ⟨?_,?_⟩
   . rw[<-hRp];exact(ho4.le l46).il
   . have:Xp (Xd S) (z12 S (Xd S))=(Xd S).filter λx=>decide (x∉R):=by rw[<-hRp];rfl
     rw[this];exact ho6z.il
 . refine zr (decide_eq_false (by omega)) ?_;refine⟨_,c2 hm4,_,Hp.cell_le hle4 c1,?_⟩;refine zhe (hp1.le hle4) hs λr16 h5 hl5 ho16=>?_
   have hm5:=hm4.le hl5;have ho5:=ho4.le hl5;rw[hr];refine ho16.il.get (xs:=Xd S) k rfl hk0 ?_;have hyl:=ho5.il.len;have hbb:h5 b≠none:=by obtain⟨e,hm⟩:=hm5;rw[hm];simp
   refine zf9 ho5 (n:=1) (new:=[ic (Xd S)[k]]) rfl rfl rfl (by omega) (by omega) λw h6 hw _ hs6 hb6=>?_
   have hm6:MB h6 b [Lf.sl.up y]:=by
    obtain⟨e,hm⟩:=hm5;exact⟨e,by rw[hs6 b hbb λa ha=>(hyb a ha).symm];exact hm⟩
   have hwb:∀a,w.a=some a->a.block≠b:=λa ha hh=>by
    rcases hb6 a ha with ⟨a',h8,h9⟩ | h8
    . exact hyb a' h8 (by rw[h9];exact hh)
    . rw[hh]at h8;exact hbb h8
   obtain⟨g,hg1,hg2,hg3⟩:=z9s hcn (Ja _) hsome;have hlt:(Xp (Xd S) (R++[(Xd S)[k]])).length<(Xp (Xd S) R).length:=by omega
   have key:=hm6.st (j:=0) (v:=Lf.sl.up w) (K:=λh=>K2 (some ⟨b,0,none⟩,()) h) (by simp) rfl λh8 hm8 hs8=>hK2 (Xp (Xd S) (R++[(Xd S)[k]])).length _ _ (by omega) ⟨R++[(Xd S)[k]],w,D,rfl,hD,hDb,hm8,?_,hwb,by simp;omega,Ja _,?_⟩
   . rw[Zw]at key;exact key
   . obtain⟨e8,hm8'⟩:=hm8;rw[zwk hm8' hs8];have:OI D h6 w (R++[(Xd S)[k]]):=by
      unfold OI;rw[Uf];exact hw
     exact zl0 this hDb hwb
   . rw[<-hpf,hg2];exact Z1q hcn _ _ _ (Ja _) hg3
theorem zgn(hx:SK h s S)(hs:sSk S)(ht:GT h)(H0:∀h',h.le h'->¬VS S->K (zf,zf) h')(H:∀a b h',h.le h'->VS S->IL h' a (z12 S (Xd S))->IL h' b (Xp (Xd S) (z12 S (Xd S)))->K (a,b) h'):zc (F.Vy s) K h:=by
 refine zd (λr h'=>(¬VS S/\r=(zf,zf))\/(VS S/\IL h' r.1 (z12 S (Xd S))/\IL h' r.2 (Xp (Xd S) (z12 S (Xd S))))) (λK' hk=>?_) λr h' hl hr=>by
  rcases hr with ⟨h1,rfl⟩ | ⟨h1,h2,h3⟩
  . exact H0 h' hl h1
  . exact H r.1 r.2 h' hl h1 h2 h3
 unfold F.Vy;refine zcx hx hs ht λr h1 hl1 hr=>?_
 refine Z2 (λh2=>hk _ _ hl1 (.inl ⟨λhv=>h2 (hr.2 hv),rfl⟩)) (λh2=>?_);have hv:=hr.1 h2;refine zps (hx.le hl1) hv hs λp h3 hl3 hp=>?_
 refine Z1p hp hs hv (ht.le (Hp.le_trans hl1 hl3)) λa b h4 hl4 ha hb=>hk _ _ (Hp.le_trans hl1 (Hp.le_trans hl3 hl4)) (.inr ⟨hv,ha,hb⟩)
end
end Den
end

section
namespace Den
open Go Iv Lx
theorem Z11{α:Type}{l m:List α}{d:α}{k:Nat}(h:k<l.length):(l++m).getD k d=l.getD k d:=by
 rw[Jf,Jf,Uh h]
theorem Z12{α:Type}{l m:List α}{d:α}{k:Nat}(h:l.length<=k):(l++m).getD k d=m.getD (k-l.length) d:=by
 rw[Jf,Jf,List.getElem?_append_right h]
theorem zss{can:List Int->Int->Bool}{pref:List Int}:∀{f:Nat} {R:List Int},(∀k,k<R.length->can (R.take k) (R.getD k 0)=true/\R.getD k 0∈pref)->∀k,k<(z5y can pref f R).length->can ((z5y can pref f R).take k) ((z5y can pref f R).getD k 0)=true/\(z5y can pref f R).getD k 0∈pref
 | 0,R,h=>h
 | f+1,R,h=>by
   unfold z5y;cases hq:pref.find? (can R)with
   | none=>exact h
   | some i=>
     refine zss λk hk=>?_
     rw[Je,Gr]at hk;rcases Jo k R.length with h1 | h1
     . have:=h k h1;rw[Jx (by omega),Z11 h1];exact this
     . have:k=R.length:=by omega
       subst this;rw[Jx (Ja _),Jw,Z12 (Ja _)];simp only[Nat.sub_self,List.getD_cons_zero];exact⟨List.find?_some hq,List.mem_of_find?_eq_some hq⟩
theorem Za2{S:PSk}{pref:List Int}{k:Nat}(hk:k<(z12 S pref).length):zfb (Yw S) (qw S) ((z12 S pref).take k) ((z12 S pref).getD k 0)/\(z12 S pref).getD k 0∈pref:=by
 have:=zss (can:=zeg (Yw S) (qw S)) (pref:=pref) (f:=pref.length) (R:=[]) (λk hk=>by simp at hk) k hk;exact⟨of_decide_eq_true this.1,this.2⟩
section
variable {h : Hp} {s : TSketch} {S : PSk} {p : Addr} {item : Int} {us : Sl} {u : List Int} {Kb : Bool → Hp → Prop} {Ki : Int → Hp → Prop} {K : TStep → Hp → Prop}
end
section
variable {h : Hp} {s : TSketch} {S : PSk} {p : Addr} {K : (TPlan × Int) → Hp → Prop} {Kb : Bool → Hp → Prop}
end
end Den
end

section
namespace Den
open Go Iv Lx
section
variable {α β γ δ : Type} {c : α → List Value} {n : Nat} {P : Hp → α → β → Prop} {c2 : γ → List Value} {n2 : Nat} {P2 : Hp → γ → δ → Prop} {D h h' : Hp} {l m : Sl} {ps : List β} {qs : List δ}
end
def Z1m(x:TRat)(z:Int):PEx:=.mk 1 x (some ((z:Int):Rat)) Y3 []
def Zam(x:TRat):Prop:=x.num.mag.len<=4/\x.den.mag.len<=4
theorem Zjs{x:TRat}{z:Int}(hx:Zam x):sE (Z1m x z):=by
 refine⟨?_,?_⟩
 . unfold Z1m smE Zar;exact⟨by simp,by decide,hx.1,hx.2,trivial⟩
 . unfold Z1m dep zel;decide
theorem Z36:BS Y3=[]:=rfl
theorem Zjt{x:TRat}{z:Int}(hz:z5r (some ((z:Int):Rat))=true):vE (Z1m x z)=true:=by
 unfold vE Z1m;simp[fmd,zk9,dep,zel,shp,hz,Z36]
def DC(z:Int)(c:PCon)(e:Int×Int):Prop:=∃x:TRat,Zam x/\c=⟨2,[e.1,e.2],[],[Z1m x z],0⟩
def DCL(z:Int):List PCon->List (Int×Int)->Prop
 | [],[]=>True
 | c :: r,e :: q=>DC z c e/\DCL z r q
 | _,_=>False
theorem DCL.snoc{z:Int}{c:PCon}{e:Int×Int}(hc:DC z c e):∀{l:List PCon} {q:List (Int×Int)},DCL z l q->DCL z (l++[c]) (q++[e])
 | [],[],_=>⟨hc,trivial⟩
 | a :: r,b :: q,h=>⟨h.1,DCL.snoc hc h.2⟩
 | [],_ :: _,h=>h.elim
 | _ :: _,[],h=>h.elim
theorem DCL.len{z:Int}:∀{l:List PCon} {q:List (Int×Int)},DCL z l q->l.length=q.length
 | [],[],_=>rfl
 | a :: r,b :: q,h=>by rw[J3,J3,DCL.len h.2]
 | [],_ :: _,h=>h.elim
 | _ :: _,[],h=>h.elim
theorem DCL.all{z:Int}{Q:PCon->Prop}:∀{l:List PCon} {q:List (Int×Int)},DCL z l q->(∀c e,e∈q->DC z c e->Q c)->∀c∈l,Q c
 | [],[],_,_,c,hc=>by simp at hc
 | a :: r,b :: q,h,H,c,hc=>by
   rcases Ju.1 hc with rfl | hc
   . exact H _ b (by simp) h.1
   . exact DCL.all h.2 (λc e he=>H c e (Us _ he)) c hc
 | [],_ :: _,h,_,_,_=>h.elim
 | _ :: _,[],h,_,_,_=>h.elim
theorem DC.sc{z:Int}{c:PCon}{e:Int×Int}(h:DC z c e):sC c:=by
 obtain⟨x,hx,rfl⟩:=h;refine⟨by simp,by simp,by simp,λv hv=>?_⟩;simp only[J6]at hv;subst hv;exact Zjs hx
theorem DC.vc{z:Int}(hz:z5r (some ((z:Int):Rat))=true){c:PCon}{e:Int×Int}{n m:Int}(h:DC z c e)(h1:0<=e.1/\e.1<n)(h2:0<=e.2/\e.2<n)(h3:e.1≠e.2):VC c n m:=by
 obtain⟨x,hx,rfl⟩:=h;refine⟨⟨by show(1:Int)<=2;decide,by show(2:Int)<=17;decide⟩,⟨rfl,λy hy=>?_⟩,⟨rfl,λy hy=>by simp at hy⟩,rfl,λv hv=>?_,rfl,?_⟩
 . simp only[Ju,List.not_mem_nil,or_false]at hy;rcases hy with rfl | rfl
   . exact h1
   . exact h2
 . simp only[J6]at hv;subst hv;exact Zjt hz
 . rw[if_neg (by simp[z2d])];exact⟨by simp[h3],by simp⟩
def DSK(z:Int)(S:PSk)(n:Nat)(prs:List (Int×Int)):Prop:=S.pts.length=n/\(∀p∈S.pts,VP p)/\S.cir=[]/\S.seg=[]/\S.arc=[]/\S.chn=[]/\DCL z S.con prs
theorem DSK.vs{z:Int}(hz:z5r (some ((z:Int):Rat))=true){S:PSk}{n:Nat}{prs:List (Int×Int)}(h:DSK z S n prs)(hp:∀e∈prs,0<=e.1/\e.1<e.2/\e.2<n):VS S:=by
 obtain⟨h1,h2,h3,h4,h5,h6,h7⟩:=h;refine⟨h2,by simp[h3],by simp[h4],by simp[h5],by simp[h6],?_⟩;exact h7.all λc e he hd=>by
  have:=hp e he;exact hd.vc hz (by omega) (by omega) (by omega)
theorem DSK.ss{z:Int}{S:PSk}{n:Nat}{prs:List (Int×Int)}(h:DSK z S n prs)(hn:n<=10)(hp:prs.length<=20):sSk S:=by
 obtain⟨h1,h2,h3,h4,h5,h6,h7⟩:=h;exact⟨by omega,by simp[h3],by simp[h4],by simp[h5],by simp[h6],by rw[h7.len];exact hp,by simp[h6],h7.all λc e _ hd=>hd.sc⟩
def prs:Nat->List (Int×Int)
 | 0=>[]
 | i+1=>prs i++(Jp i).map λk:Nat=>((k:Int),(i:Int))
section
variable {h : Hp} {K : TSketch → Hp → Prop}
end
section
variable {h : Hp} {s : TSketch} {S : PSk} {Kb : Bool → Hp → Prop}
end
end Den
end

section
namespace Den
open Go Iv Lx
theorem zno{can:List Int->Int->Bool}{pref:List Int}(hcn:∀R i,can R i=true->i∉R):∀{f:Nat} {R:List Int},(Xp pref R).length<=f->pref.find? (can (z5y can pref f R))=none
 | 0,R,h=>by
   unfold z5y;rw[List.find?_eq_none];intro x hx hc;have h1:=hcn _ _ hc;have:x∈Xp pref R:=Ta.2 ⟨hx,by simpa using h1⟩;have:=List.length_pos_of_mem this;omega
 | f+1,R,h=>by
   cases hq:pref.find? (can R)with
   | none=>rw[z7e hcn h hq];exact hq
   | some i=>
     obtain⟨g,hg,e1,e2⟩:=z9s hcn h hq;have:g=f:=by omega
     subst this;rw[e1];exact zno hcn e2
theorem Z1o{S:PSk}{pref:List Int}{x:Int}(hx:x∈pref):¬zfb (Yw S) (qw S) (z12 S pref) x:=by
 have e:Xp pref []=pref:=by unfold Xp;rw[P7];simp
 have:=zno (can:=zeg (Yw S) (qw S)) (pref:=pref) zrf (f:=pref.length) (R:=[]) (by rw[e];exact Ja _);rw[List.find?_eq_none]at this;intro hc;exact this x hx (decide_eq_true hc)
end Den
end

section
namespace Den
open Go Iv Lx
theorem OI.set{D h:Hp}{l:Sl}{xs:List Int}{i v:Int}{K:Hp->Prop}(k:Nat)(ho:OI D h l xs)(hi:i=k)(hk:k<xs.length)(H:∀h',OI D h' l (xs.set k v)->K h'):zg l i 1 λa=>stP a [.int .i64 v] K h:=by
 have e:∀ys:List Int,ys.map ic=ys.flatMap λz=>[ic z]:=λys=>by induction ys<;>simp_all
 unfold OI at ho;rw[e]at ho;refine zq9 (c:=λz:Int=>[ic z]) (n:=1) (λ_=>rfl) (by decide) k ho hi hk rfl λh' h1 _=>H h' ?_
 unfold OI;rw[e];exact h1
section
variable {h : Hp} {s : TSketch} {S : PSk} {K : Bool → Hp → Prop}
end
end Den
end

section
namespace Den
open Go Iv Lx Go.Proofs
open Go.ChangeShapes Go.WideShapes Go.ChangeAt Go.RowKit
section
variable {H : Type} {enc : TypeId × Value → H} {w : World} {cs : List Value}
end
end Den
end

section
namespace Den
open Go Iv Lx
def Z9d(l:List Int)(item:Int)(T:List Int):Prop:=item∈l/\∀x∈l,x∈T
instance (l:List Int) (item:Int) (T:List Int):Decidable (Z9d l item T):=by unfold Z9d;infer_instance
def Zq7(its:List (List Int))(item:Int)(T:List Int):Nat->List Int
 | 0=>[]
 | k+1=>Zq7 its item T k++(if Z9d (its.getD k []) item T then [(k:Int)]else [])
theorem zwh{α:Type}{p:α->Bool}{i:α}:[i].filter p=if p i=true then [i]else []:=by
 cases h:p i<;>simp[List.filter,h]
section
variable {h : Hp} {s : TSketch} {S : PSk} {x : TConstraint} {c : PCon} {cs : List Int} {ce : Sl} {item : Int} {T : List Int} {ts : Sl} {Kb : Bool → Hp → Prop} {Ki : Int → Hp → Prop} {Ks : Sl → Hp → Prop} {K : (Sl × Sl) → Hp → Prop}
def z0q(S:PSk):List Int:=Xp (Xd S) (z12 S (Xd S))
theorem zn1{S:PSk}(hs:sSk S):(z0q S).length<=20:=Nat.le_trans (List.length_filter_le _ _) (zr4 hs)
def zi8(l T:List Int):Prop:=∀x∈l,x∈T
instance (l T:List Int):Decidable (zi8 l T):=by unfold zi8;infer_instance
def wiN(its:List (List Int))(T:List Int):Nat->List Int
 | 0=>[]
 | k+1=>wiN its T k++(if zi8 (its.getD k []) T then [(k:Int)]else [])
def wiS(S:PSk)(T:List Int):List Int:=wiN (its S) T (its S).length
theorem Z02(its:List (List Int))(T:List Int):∀k,(wiN its T k).length<=k
 | 0=>by simp[wiN]
 | k+1=>by
   unfold wiN;have:=Z02 its T k;rw[Je];split<;>simp<;>omega
def Zpg(h:Hp)(S:PSk)(r:Sl×Sl):Prop:=(VS S/\z0q S≠[]/\IL h r.1 (z0q S)/\IL h r.2 (wiS S (z0q S)))\/((¬VS S\/z0q S=[])/\r=(zf,zf))
end
end Den
end

section
namespace Den
open Go Iv Lx
section
variable {h D : Hp} {s : TSketch} {S : PSk} {x : TConstraint} {c : PCon} {cs : List Int} {ce l rs : Sl} {item : Int} {R xs : List Int} {p1 p2 : Addr} {Kb : Bool → Hp → Prop} {Ki : Int → Hp → Prop} {Ks : Sl → Hp → Prop} {K : (Sl × Sl) → Hp → Prop}
theorem ztx(hx:SK h s S)(hs:sSk S)(hv:VS S)(hl:IL h l xs)(hlen:xs.length<=1000)(H:∀y h',h.le h'->IL h' y (wiS S xs)->Ks y h'):zc (F.z8k s l) Ks h:=by
 refine zd (λy h'=>IL h' y (wiS S xs)) (λK' hk=>?_) λb h' hl hb=>H b h' hl hb
 unfold F.z8k;have hal:=zf7 hs;have hok:=zd4 hv hs;have hcl:=zfc (S:=S);have s2:=hs.2.1;refine Ww λp1 h1 hl1 c1=>?_
 refine zm9 (hx.le hl1) hs λr2 h2 hl2 hC=>?_
 have hle2:=Hp.le_trans hl1 hl2;refine Z0c (hx.le hle2) hv hs λr3 h3 hl3 hL=>?_
 have hle3:=Hp.le_trans hle2 hl3;have hLl:=hL.len yw;refine Yq (n:=(Yw S).length) (by omega) (λi y h'=>OI h3 h' y (wiN (its S) xs i)) OI.nil ?_;intro i z h4 hi ho k hk2;have hle:=Hp.le_trans hle3 ho.dle;refine ze (λh5=>?_) (λh5=>?_)
 . have hi':i<(Yw S).length:=by simp only at h5;omega
   refine zh (λs h'=>OI h3 h' s.1 (wiN (its S) xs (i+1))) (λs h' hs=>hk2 _ _ hi' hs) ?_;refine(hL.le yw ho.dle).get yw i rfl hi' λa x hxx hcx=>⟨_,hcx 0 _ rfl,_,hcx 1 _ rfl,_,hcx 2 _ rfl,_,hcx 3 _ rfl,_,hcx 4 _ rfl,?_⟩
   have hg:(its S).getD i []=Qq (Yw S)[i] (qw S):=by
    rw[qf (by rw[zdi];exact hi')];simp[its]
   have hstep:wiN (its S) xs (i+1)=wiN (its S) xs i++(if zi8 (Qq (Yw S)[i] (qw S)) xs then [(i:Int)]else []):=by
    conv=>lhs;unfold wiN
    rw[hg]
   have hrl:=Z02 (its S) xs i;have hokc:=hok _ (Jh hi');have hlen2:=zkl (cs:=qw S) hokc.2;refine zrb (x:=x) hxx (hC.il.le (Hp.le_trans hl3 ho.dle)) hokc.2 hokc.1.cirOk (by omega) λr10 h6 hl6 ho6=>?_
   have hoz:=ho.le hl6;have l16:h1.le h6:=Hp.le_trans hl2 (Hp.le_trans hl3 hoz.dle);refine zd (λb h'=>b=true↔∃x∈Qq (Yw S)[i] (qw S),x∉xs) (λK2 hk3=>?_) λb h7 hl7 hb=>?_
   . unfold F.Y7;refine zd (λr h'=>Fnd (λx=>x∉xs) (Qq (Yw S)[i] (qw S)) r) (λK4 hk4=>?_) λr h' hl hr=>hk3 _ _ hl (by rw[decide_eq_true_iff];exact hr.iff)
     unfold F.qg;refine zdg ho6.il (by omega) (λx _ h7 hl7 K5 hK5=>?_) λr h' hl hr=>hk4 _ _ hl hr
     refine zd (λb h'=>b=true↔x∉xs) (λK6 hk6=>?_) λb h8 hl8 hb=>hK5 _ _ hl8 hb
     unfold F.z97;have l17:=Hp.le_trans l16 hl7;refine⟨_,Hp.cell_le l17 c1,?_⟩;exact Qz (hl.le (Hp.le_trans hl1 l17)) (by omega) λh8 hl8=>hk6 _ _ hl8 (by simp)
   . have ho7:=hoz.le hl7;refine zi (λh8=>?_) (λh8=>?_)
     . have hkp:zi8 (Qq (Yw S)[i] (qw S)) xs:=λx hx=>Jy λhn=>by rw[hb.2 ⟨x,hx,hn⟩]at h8;cases h8
       refine ho7.app (by omega) λz h11 ho11=>?_
       show OI _ _ _ _;rw[hstep,if_pos hkp];exact ho11
     . have hkp:¬zi8 (Qq (Yw S)[i] (qw S)) xs:=λhh=>by
        obtain⟨x,hx,hn⟩:=hb.1 (by simpa using h8);exact hn (hh x hx)
       show OI _ _ _ _;rw[hstep,if_neg hkp,Gt];exact ho7
 . have:i=(Yw S).length:=by simp only at h5;omega
   subst this;refine hk _ _ hle ?_;unfold wiS;rw[zdi];exact ho.il
theorem Z04(hx:SK h s S)(hs:sSk S)(ht:GT h)(H:∀r h',h.le h'->Zpg h' S r->K r h'):zc (F.zdb s) K h:=by
 refine zd (λr h'=>Zpg h' S r) (λK' hk=>?_) λy h' hl hb=>H y h' hl hb
 unfold F.zdb;refine zcx hx hs ht λr h1 hl1 hr=>?_
 refine Z2 (λh2=>hk _ _ hl1 (.inr ⟨.inl λhv=>h2 (hr.2 hv),rfl⟩)) (λh2=>?_);have hv:=hr.1 h2;refine zgn (hx.le hl1) hs (ht.le hl1) (λ_ _ hn=>absurd hv hn) λa b h3 hl3 _ ha hb=>?_
 have hle3:=Hp.le_trans hl1 hl3;have hb:IL h3 b (z0q S):=hb;have hbl:=hb.len;have hcl:=zn1 hs;refine zu (λh4=>hk _ _ hle3 (.inr ⟨.inr (Jn (by simp only at h4;omega)),rfl⟩)) (λh4=>?_);refine ztx (hx.le hle3) hs hv hb (by omega) λy h5 hl5 hy=>hk _ _ (Hp.le_trans hle3 hl5) (.inl ⟨hv,λhh=>h4 ?_,hb.le hl5,hy⟩)
 rw[hh]at hbl;simp only;rw[hbl];rfl
theorem z7k(hx:SK h s S)(hs:sSk S)(ht:GT h)(H:∀b h',h.le h'->(b=true↔VS S/\z0q S=[])->Kb b h'):zc (F.Wg s) Kb h:=by
 refine zd (λb h'=>b=true↔VS S/\z0q S=[]) (λK' hk=>?_) λy h' hl hb=>H y h' hl hb
 unfold F.Wg;refine zcx hx hs ht λr h1 hl1 hr=>?_
 refine Z2 (λh2=>hk _ _ hl1 ⟨λhh=>(by cases hh),λhh=>absurd (hr.2 hh.1) h2⟩) (λh2=>?_);have hv:=hr.1 h2;refine zgn (hx.le hl1) hs (ht.le hl1) (λ_ _ hn=>absurd hv hn) λa b h3 hl3 _ ha hb=>hk _ _ (Hp.le_trans hl1 hl3) ?_
 have hb:IL h3 b (z0q S):=hb;have hbl:=hb.len;rw[beq_iff_eq];simp only;constructor
 . intro h4;exact⟨hv,Jn (by omega)⟩
 . rintro⟨_,h4⟩;rw[h4]at hbl;rw[hbl];rfl
end
end Den
end

section
namespace Den
open Go Iv Lx
theorem Z9z{D h:Hp}{n:Nat}{l:Sl}{cs:List Value}(ho:Own D h n l cs){a:Addr}(ha:l.a=some a):D a.block=none:=by
 obtain⟨_,_,_,g4⟩:=ho;rw[ha]at g4;exact g4.2.2.1
section
variable {h D : Hp} {s : TSketch} {S : PSk} {l rs : Sl} {item a b : Int} {R xs : List Int} {p1 p2 : Addr} {Kb : Bool → Hp → Prop} {Ki : Int → Hp → Prop} {Ks : Sl → Hp → Prop}
end
end Den
end

section
namespace Den
open Go Iv Lx
def a2c(e:A2_Int):List Value:=[.int .i64 e.c0,.int .i64 e.c1]
def A2P(h:Hp)(x:A2_Int)(b:Int×Int):Prop:=x.c0=b.1/\x.c1=b.2
theorem yb:Rec a2c 2 A2P:=⟨λ_=>rfl,by decide,λ_=>rfl,λhx _=>hx⟩
def z29(a b:Int×Int):Prop:=a.1<b.1\/a.1=b.1/\a.2<b.2
def GV(n:Int)(es:List (Int×Int)):Prop:=(0<=n/\n<=60)/\(∀e∈es,0<=e.1/\e.1<e.2/\e.2<n)/\∀j (hj:j+1<es.length),z29 es[j] es[j+1]
def We(es:List (Int×Int))(T:List Int)(i:Int):Nat:=es.countP λe=>decide (e.1∈T)&&decide (e.2∈T)&&(e.1==i||e.2==i)
theorem zgy{es:List (Int×Int)}{C T:List Int}{i:Int}(h:∀x∈C,x∈T):We es C i<=We es T i:=by
 unfold We;refine List.countP_mono_left λe _ he=>?_
 simp only[Bool.and_eq_true,decide_eq_true_iff]at he |-
 exact⟨⟨h _ he.1.1,h _ he.1.2⟩,he.2⟩
def z8h(n:Nat):List Int:=(Jp n).map λi:Nat=>(i:Int)
theorem z9n{n:Nat}{x:Int}:x∈z8h n↔0<=x/\x<n:=by
 unfold z8h;rw[List.mem_map];constructor
 . rintro⟨a,ha,rfl⟩;rw[Uv]at ha;omega
 . rintro⟨h1,h2⟩;exact⟨x.toNat,Uv.2 (by omega),by omega⟩
structure IsCore(n:Nat)(es:List (Int×Int))(T:List Int):Prop where
 sub:T=(z8h n).filter λx=>decide (x∈T)
 deg:∀i∈T,3<=We es T i
 great:∀C:List Int,(∀i∈C,0<=i/\i<n)->(∀i∈C,3<=We es C i)->∀i∈C,i∈T
theorem IsCore.mem{n:Nat}{es:List (Int×Int)}{T:List Int}(h:IsCore n es T){i:Int}(hi:i∈T):0<=i/\i<n:=by
 have h1:=h.sub;rw[h1]at hi;exact z9n.1 (Ta.1 hi).1
theorem IsCore.unique{n:Nat}{es:List (Int×Int)}{T Q:List Int}(h:IsCore n es T)(k:IsCore n es Q):T=Q:=by
 have h1:=h.great Q (λi hi=>k.mem hi) k.deg;have h2:=k.great T (λi hi=>h.mem hi) h.deg;rw[h.sub,k.sub];exact List.filter_congr λx _=>by
  have:x∈T↔x∈Q:=⟨h2 x,h1 x⟩;simp only[this]
theorem znf{es:List (Int×Int)}{C T:List Int}{x:Int}(hC:∀i∈C,3<=We es C i)(hT:∀i∈C,i∈T)(hx:We es T x<=2):x∉C:=λhm=>by
 have h1:=hC x hm;have h2:=zgy (es:=es) (i:=x) hT;omega
section
variable {h D : Hp} {g : TGraph} {es : List (Int × Int)} {Kb : Bool → Hp → Prop} {Ki : Int → Hp → Prop} {Ks : Sl → Hp → Prop}
theorem zmh{a b:A2_Int}(H:∀r h',h.le h'->(r<0↔z29 (a.c0,a.c1) (b.c0,b.c1))->Ki r h'):zc (F.z5a a b) Ki h:=by
 refine zd (λr h'=>r<0↔z29 (a.c0,a.c1) (b.c0,b.c1)) (λK' hk=>?_) λb h' hl hb=>H b h' hl hb
 unfold F.z5a;refine z34 (z34 ?_);obtain⟨r1,hr1⟩:∃r1:Int,r1=if a.c0<b.c0 then -1 else if b.c0<a.c0 then 1 else 0:=⟨_,rfl⟩
 obtain⟨r2,hr2⟩:∃r2:Int,r2=if a.c1<b.c1 then -1 else if b.c1<a.c1 then 1 else 0:=⟨_,rfl⟩
 rw[<-hr1,<-hr2];refine zcf λp3 h3 hl3 c3=>?_
 have hi:IL h3 ⟨some p3,2,2⟩ [r1,r2]:=⟨z3w (size:=1) (n:=2) c3 rfl,Ja _⟩;have q1:(r1<0↔a.c0<b.c0)/\(r1=0↔a.c0=b.c0):=by rw[hr1];split<;>(try split)<;>constructor<;>constructor<;>intro _<;>omega
 have q2:r2<0↔a.c1<b.c1:=by rw[hr2];split<;>(try split)<;>constructor<;>intro _<;>omega
 have key:∀r:Int,(r1≠0->r=r1)->(r1=0->r2≠0->r=r2)->(r1=0->r2=0->r=0)->(r<0↔z29 (a.c0,a.c1) (b.c0,b.c1)):=by
  intro r k1 k2 k3;unfold z29;simp only;rw[<-q1.1,<-q1.2,<-q2];by_cases e1:r1=0
  . by_cases e2:r2=0
    . have:=k3 e1 e2;omega
    . have:=k2 e1 e2;omega
  . have:=k1 e1;omega
 refine zd (λr h'=>(r1≠0->r=r1)/\(r1=0->r2≠0->r=r2)/\(r1=0->r2=0->r=0)) (λK2 hk2=>?_) λr h' hl hr=>hk _ _ (Hp.le_trans hl3 hl) (key r hr.1 hr.2.1 hr.2.2)
 unfold F.zej;refine yg (n:=2) (by omega) (λi h'=>h'=h3/\(0<i->r1=0)/\(1<i->r2=0)) ⟨rfl,by omega,by omega⟩ ?_;rintro i h4 hi2 ⟨rfl,z1,z2⟩ k hk4;refine ze (λh5=>?_) (λh5=>?_)
 . have hi':i<2:=by have:(i:Int)<((2:Nat):Int):=h5;omega
   rcases(by omega:i=0\/i=1)with rfl | rfl
   . refine hi.get 0 rfl (by simp) ?_;simp only[Ua];refine Z2 (λh6=>hk2 _ _ (Hp.le_refl _) ⟨λ_=>rfl,λhh=>absurd hh h6,λhh=>absurd hh h6⟩) (λh6=>hk4 _ hi' ⟨rfl,λ_=>h6,by omega⟩)
   . have z:=z1 (by omega);refine hi.get 1 rfl (by simp) ?_;simp only[List.getElem_cons_succ,Ua];refine Z2 (λh6=>hk2 _ _ (Hp.le_refl _) ⟨λhh=>absurd z hh,λ_ _=>rfl,λ_ hh=>absurd hh h6⟩) (λh6=>hk4 _ hi' ⟨rfl,λ_=>z,λ_=>h6⟩)
 . have:i=2:=by have:¬(i:Int)<((2:Nat):Int):=h5;omega
   subst this;exact hk2 _ _ (Hp.le_refl _) ⟨λhh=>absurd (z1 (by omega)) hh,λ_ hh=>absurd (z2 (by omega)) hh,λ_ _=>rfl⟩
theorem zz8{n i:Int}(H:∀b,(b=true↔0<=i/\i<n)->Kb b h):zc (F.z9l n i) Kb h:=by
 refine z79 (λb=>b=true↔0<=i/\i<n) (λK' hk=>?_) H;unfold F.z9l;exact ze (λh1=>hk _ (by rw[decide_eq_true_iff];omega)) (λh1=>hk _ ⟨λhh=>(by cases hh),λhh=>by omega⟩)
theorem z0x(hg:LR a2c 2 A2P h g.edges es)(hlen:es.length<=140737488355328)(H:∀b h',h.le h'->(b=true↔GV g.n es)->Kb b h'):zc (F.Wc g) Kb h:=by
 refine zd (λb h'=>b=true↔GV g.n es) (λK' hk=>?_) λb h' hl hb=>H b h' hl hb
 unfold F.Wc;have no:∀h',h.le h'->¬GV g.n es->K' false h':=λh' hl hn=>hk _ _ hl ⟨λhh=>(by cases hh),λhh=>absurd hh hn⟩
 have hl:=hg.len yb;refine zh (λ_ h'=>h'=h/\0<=g.n/\g.n<=60) ?_ ?_
 . rintro _ h0 ⟨rfl,n0,n1⟩;refine yg (n:=es.length) hlen (λi h'=>h0.le h'/\(∀j (hj:j<es.length),j<i->0<=es[j].1/\es[j].1<es[j].2/\es[j].2<g.n)/\∀j (hj:j+1<es.length),j+1<i->z29 es[j] es[j+1]) ⟨Hp.le_refl _,λj _ hj=>by omega,λj _ hj=>by omega⟩ ?_;rintro i h2 hi ⟨hl2,hno,hbe⟩ k hk2;refine ze (λh3=>?_) (λh3=>?_)
   . have hi':i<es.length:=by simp only at h3;omega
     have nx:¬(0<=es[i].1/\es[i].1<es[i].2/\es[i].2<g.n)->¬GV g.n es:=λhn hh=>hn (hh.2.1 _ (Jh hi'))
     refine zh (λ_ h'=>h0.le h'/\(0<=es[i].1/\es[i].1<es[i].2/\es[i].2<g.n)/\(∀hj:0<i,z29 (es[i-1]'(by omega)) es[i])) (λ_ h' hh=>hk2 _ hi' ⟨hh.1,zqp (P:=λe:Int×Int=>0<=e.1/\e.1<e.2/\e.2<g.n) hno hi' hh.2.1,λj hj hji=>?_⟩) ?_
     . rcases Jo (j+1) i with h5 | h5
       . exact hbe j hj h5
       . have:i=j+1:=by omega
         subst this;exact hh.2.2 (by omega)
     refine(hg.le yb hl2).get yb i rfl hi' λa x hxx hcx=>⟨_,hcx 0 _ rfl,_,hcx 1 _ rfl,?_⟩
     obtain⟨x1,x2⟩:=hxx;rw[x1,x2];refine zz8 λb hb=>zi (λh4=>no _ hl2 (nx λhh=>by rw[hb.2 ⟨hh.1,by omega⟩]at h4;cases h4)) (λh4=>?_)
     have b1:=hb.1 (by simpa using h4);refine zz8 λb2 hb2=>zi (λh5=>no _ hl2 (nx λhh=>by rw[hb2.2 ⟨by omega,hh.2.2⟩]at h5;cases h5)) (λh5=>?_)
     have b2':=hb2.1 (by simpa using h5);refine ze (λh6=>no _ hl2 (nx λhh=>by have h6:es[i].1>=es[i].2:=h6;omega)) (λh6=>?_);have h6:¬es[i].1>=es[i].2:=h6;have ok:0<=es[i].1/\es[i].1<es[i].2/\es[i].2<g.n:=by omega
     refine ze (λh7=>?_) (λh7=>⟨hl2,ok,λhj=>by simp only at h7;omega⟩);have hi0:0<i:=by simp only at h7;omega
     simp only;rw[show i64.wrap ((i:Int)-1)=((i-1:Nat):Int) from by rw[w64 (by omega)];omega];refine(hg.le yb hl2).get yb (i-1) rfl (by omega) λa2 y hyy hcy=>⟨_,hcy 0 _ rfl,_,hcy 1 _ rfl,?_⟩
     obtain⟨y1,y2⟩:=hyy;refine zmh (a:=⟨y.c0,y.c1⟩) (b:=⟨es[i].1,es[i].2⟩) λr h8 hl8 hr=>?_
     have hle8:=Hp.le_trans hl2 hl8;simp only at hr;rw[y1,y2]at hr;refine ze (λh9=>no _ hle8 λhh=>?_) (λh9=>⟨hle8,ok,λ_=>hr.1 (by omega)⟩);have:=hh.2.2 (i-1) (by omega);have e:i-1+1=i:=by omega
     simp only[e]at this;have:=hr.2 this;omega
   . refine hk _ _ hl2 ⟨λ_=>⟨⟨n0,n1⟩,zgg (P:=λe:Int×Int=>0<=e.1/\e.1<e.2/\e.2<g.n) hno (by simp only at h3;omega),λj hj=>hbe j hj (by simp only at h3;omega)⟩,λ_=>rfl⟩
 . refine ze (λh1=>no _ (Hp.le_refl _) λhh=>by have:=hh.1.1;omega) (λh1=>ze (λh2=>no _ (Hp.le_refl _) λhh=>by have:=hh.1.2;omega) (λh2=>⟨rfl,by omega,by omega⟩))
theorem zmg(hg:LR a2c 2 A2P h g.edges es)(hlen:es.length<=140737488355328)(H:∀b h',h.le h'->(b=true↔GV g.n es)->Kb b h'):zc (F.z63 g) Kb h:=by
 refine zd (λb h'=>b=true↔GV g.n es) (λK' hk=>?_) λb h' hl hb=>H b h' hl hb
 unfold F.z63;have no:∀h',h.le h'->¬GV g.n es->K' false h':=λh' hl hn=>hk _ _ hl ⟨λhh=>(by cases hh),λhh=>absurd hh hn⟩
 have hl:=hg.len yb;refine zh (λ_ h'=>h'=h/\0<=g.n/\g.n<=60) ?_ ?_
 . rintro _ h0 ⟨rfl,n0,n1⟩;refine yg (n:=es.length) hlen (λi h'=>h0.le h'/\(∀j (hj:j<es.length),j<i->0<=es[j].1/\es[j].1<es[j].2/\es[j].2<g.n)/\∀j (hj:j+1<es.length),j+1<i->z29 es[j] es[j+1]) ⟨Hp.le_refl _,λj _ hj=>by omega,λj _ hj=>by omega⟩ ?_;rintro i h2 hi ⟨hl2,hno,hbe⟩ k hk2;refine ze (λh3=>?_) (λh3=>?_)
   . have hi':i<es.length:=by simp only at h3;omega
     have nx:¬(0<=es[i].1/\es[i].1<es[i].2/\es[i].2<g.n)->¬GV g.n es:=λhn hh=>hn (hh.2.1 _ (Jh hi'))
     refine zh (λ_ h'=>h0.le h'/\(0<=es[i].1/\es[i].1<es[i].2/\es[i].2<g.n)/\(∀hj:0<i,z29 (es[i-1]'(by omega)) es[i])) (λ_ h' hh=>hk2 _ hi' ⟨hh.1,zqp (P:=λe:Int×Int=>0<=e.1/\e.1<e.2/\e.2<g.n) hno hi' hh.2.1,λj hj hji=>?_⟩) ?_
     . rcases Jo (j+1) i with h5 | h5
       . exact hbe j hj h5
       . have:i=j+1:=by omega
         subst this;exact hh.2.2 (by omega)
     refine(hg.le yb hl2).get yb i rfl hi' λa x hxx hcx=>⟨_,hcx 0 _ rfl,_,hcx 1 _ rfl,?_⟩
     obtain⟨x1,x2⟩:=hxx;rw[x1,x2];refine ze (λh4=>no _ hl2 (nx λhh=>by have h4:es[i].1<0:=h4;omega)) (λh4=>?_);refine ze (λh5=>no _ hl2 (nx λhh=>by have h5:es[i].1>=es[i].2:=h5;omega)) (λh5=>?_);refine ze (λh6=>no _ hl2 (nx λhh=>by have h6:es[i].2>=g.n:=h6;omega)) (λh6=>?_);have h4:¬es[i].1<0:=h4;have h5:¬es[i].1>=es[i].2:=h5;have h6:¬es[i].2>=g.n:=h6;have ok:0<=es[i].1/\es[i].1<es[i].2/\es[i].2<g.n:=by omega
     refine ze (λh7=>?_) (λh7=>⟨hl2,ok,λhj=>by simp only at h7;omega⟩);have hi0:0<i:=by simp only at h7;omega
     simp only;rw[show i64.wrap ((i:Int)-1)=((i-1:Nat):Int) from by rw[w64 (by omega)];omega];refine(hg.le yb hl2).get yb (i-1) rfl (by omega) λa2 y hyy hcy=>⟨_,hcy 0 _ rfl,_,hcy 1 _ rfl,?_⟩
     obtain⟨y1,y2⟩:=hyy;rw[y1,y2];have hb:∀Kb':Bool->Hp->Prop,(∀b,(b=true↔z29 (es[i-1]'(by omega)) es[i])->Kb' b h2)->zc (F.z78 (⟨(es[i-1]'(by omega)).1,(es[i-1]'(by omega)).2⟩:A2_Int) (⟨es[i].1,es[i].2⟩:A2_Int)) Kb' h2:=by
      intro Kb' hkb;refine z79 (λb=>b=true↔z29 (es[i-1]'(by omega)) es[i]) (λK2 hk3=>?_) hkb;unfold F.z78;unfold z29 at hk3;refine ze (λh1=>hk3 _ ⟨λ_=>.inl h1,λ_=>rfl⟩) (λh1=>zu (λh2=>hk3 _ ?_) (λh2=>hk3 _ ⟨λhh=>(by cases hh),λhh=>?_⟩))
      . rw[decide_eq_true_iff];exact⟨λhh=>.inr ⟨h2,hh⟩,λhh=>by rcases hh with hh | hh;exact absurd hh h1;exact hh.2⟩
      . rcases hh with hh | hh
        . exact absurd hh h1
        . exact absurd hh.1 h2
     refine hb _ λb hbb=>?_
     refine zi (λh9=>no _ hl2 λhh=>?_) (λh9=>⟨hl2,ok,λ_=>hbb.1 (by simpa using h9)⟩);have:=hh.2.2 (i-1) (by omega);have e:i-1+1=i:=by omega
     simp only[e]at this;rw[hbb.2 this]at h9;cases h9
   . refine hk _ _ hl2 ⟨λ_=>⟨⟨n0,n1⟩,zgg (P:=λe:Int×Int=>0<=e.1/\e.1<e.2/\e.2<g.n) hno (by simp only at h3;omega),λj hj=>hbe j hj (by simp only at h3;omega)⟩,λ_=>rfl⟩
 . refine ze (λh1=>no _ (Hp.le_refl _) λhh=>by have:=hh.1.1;omega) (λh1=>ze (λh2=>no _ (Hp.le_refl _) λhh=>by have:=hh.1.2;omega) (λh2=>⟨rfl,by omega,by omega⟩))
theorem zgz{es:List (Int×Int)}{e:Int×Int}{T:List Int}{i:Int}:We (es++[e]) T i=We es T i+(if e.1∈T/\e.2∈T/\(e.1=i\/e.2=i)then 1 else 0):=by
 unfold We;rw[List.countP_append];congr 1;rw[List.countP_singleton];by_cases h:e.1∈T/\e.2∈T/\(e.1=i\/e.2=i)
 . rw[if_pos h,if_pos (by simp[h.1,h.2.1];exact h.2.2)]
 . rw[if_neg h,if_neg];intro hh;simp only[Bool.and_eq_true,decide_eq_true_iff,Bool.or_eq_true,beq_iff_eq]at hh;exact h ⟨hh.1.1,hh.1.2,hh.2⟩
theorem Zdm{es:List (Int×Int)}{T:List Int}{i:Int}:We es T i<=es.length:=List.countP_le_length
end
end Den
end

section
namespace Den
open Go Iv Lx Go.Proofs
open Go.ChangeShapes Go.WideShapes Go.ChangeAt Go.RowKit
section
variable {H : Type} {enc : TypeId × Value → H} {w : World} {cs : List Value}
theorem Zsb:Tryz.prog.cellsOf 24=2:=by kernel_rfl
theorem Zpn:Tryz.prog.cellsOf 58=2:=by kernel_rfl
theorem Zpm:Tryz.prog.bytesOf 58=16:=by kernel_rfl
theorem Zpp:Tryz.prog.cellsOf 22=1:=by kernel_rfl
set_option maxRecDepth 10000 in
theorem Zjv(h:Okt enc Tryz.prog w 58 cs):∃(x:A2_Int) (b:Int×Int),cs=a2c x/\A2P (hpW w) x b:=by
 obtain⟨hl,hf⟩:=h.items Tryz.underlying58;rw[Zpn]at hl;have h0:=hf 0 (by decide);have h1:=hf 1 (by decide);rw[zyp]at h0 h1;obtain⟨a,e0,_⟩:=h0.int Tryz.underlying3;obtain⟨b,e1,_⟩:=h1.int Tryz.underlying3;have e0':(cs.drop 0).take 1=[Ge .i64 a]:=by simpa using e0
 have e1':(cs.drop 1).take 1=[Ge .i64 b]:=by simpa using e1
 exact⟨⟨a,b⟩,(a,b),Wl e0' (Wl e1' (zgv hl)),rfl,rfl⟩
def GRA(h:Hp)(g:TGraph):Prop:=∃es:List (Int×Int),LR a2c 2 A2P h g.edges es/\es.length<=140737488355328
theorem Zsi(h:Okt enc Tryz.prog w 24 cs):∃x:TGraph,cs=[.int .i64 x.n,Lf.sl.up x.edges]/\GRA (hpW w) x:=by
 obtain⟨hl,hf⟩:=h.fields Tryz.underlying24;rw[Zsb]at hl;have h0:Okt enc Tryz.prog w 3 ((cs.drop 0).take (Tryz.prog.cellsOf 3)):=hf 0 _ rfl;have h1:Okt enc Tryz.prog w 22 ((cs.drop 1).take (Tryz.prog.cellsOf 22)):=hf 1 _ rfl;rw[zyp]at h0;rw[Zpp]at h1;obtain⟨n,e0,_⟩:=h0.int Tryz.underlying3;obtain⟨s,hs,k1,k2,css,k3,k4,k5⟩:=h1.slice Tryz.underlying22;obtain⟨xs,ps,g1,g2,g3,g4⟩:=zzd (c:=a2c) (Q:=A2P (hpW w)) (λ_ h=>Zjv h) (λd hd=>(k4 d hd).2);rw[Zpn,g1]at k5;rw[Zpm,show reachBytes=140737488351232 from rfl]at k2;exact⟨⟨n,s⟩,Wl e0 (Wl hs (zgv hl)),ps,⟨xs,k5,k1,g2,g4⟩,by omega⟩
end
end Den
end

section
namespace Den
open Go
def zik{α:Type}(enc:α->List Value)(size:Nat)(srt:List α->List α)(x:Sl)(K:Unit->Hp->Prop)(h:Hp):Prop:=(x.len=0/\K () h) \/ ∃(b o:Nat) (bl:Blk) (xs:List α),x.a=some ⟨b,o,none⟩/\x.len=xs.length/\xs.length<=140737488355328/\h b=some bl/\bl.fz=(0,0)/\o+xs.length*size<=bl.cells.length /\ (bl.cells.drop o).take (xs.length*size)=xs.flatMap enc/\K () (h.ins b { bl with cells:=Zc bl.cells o ((srt xs).flatMap enc) })
def Zds(z:Int):List Value:=[.int .i64 z]
def z00(e:Int×Int):List Value:=[.int .i64 e.1,.int .i64 e.2]
def Zer(xs:List Int):List Int:=xs.mergeSort λx y=>decide (x<=y)
def z6p(a b:Int×Int):Int:=if a.1<b.1 then -1 else if b.1<a.1 then 1 else if a.2<b.2 then -1 else if b.2<a.2 then 1 else 0
def zlw(xs:List (Int×Int)):List (Int×Int):=xs.mergeSort λx y=>!(decide (z6p y x<0))
end Den
end
