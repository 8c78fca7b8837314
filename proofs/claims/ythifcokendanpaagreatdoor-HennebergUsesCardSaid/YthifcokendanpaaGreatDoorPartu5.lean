/-
  Part 5 of the tools and contracts from which the statement is proved.
-/
import Derived.Test.YthifcokendanpaaGreatDoorPartu4
import Derived.Test.YthifcokendanpaaGreatDoorChecked
import Derived.Test.YthifcokendanpaaGreatDoorTie
import Derived.LaidMore
import Derived.MakeChecks
import Derived.SevenTiedAt
set_option linter.all false
section
namespace Den
open Go Iv Lx
def tabK:List (Nat×Nat×Nat×Nat×Bool):=[(1,0,2,2,false),(2,0,1,1,false),(3,0,0,1,false),(3,0,1,1,true),(4,0,1,1,false),(4,0,0,1,false),(4,0,0,1,false),(4,0,0,1,false),(3,0,0,2,false),(4,0,0,2,false),(2,0,0,1,false),(2,0,0,1,false),(1,1,0,1,false),(0,1,1,1,false),(0,2,0,1,false),(2,1,0,1,true),(0,2,0,1,true)]
def shK (k:Int):Nat×Nat×Nat×Nat×Bool:=if 1≤k then tabK.getD (k.toNat-1) (0,0,0,0,false) else (0,0,0,0,false)
def eqK (k:Int):Nat:=(shK k).2.2.2.1
structure PCon where
 kind:Int
 pts:List Int
 cir:List Int
 vals:List PEx
 side:Int
def cc (x:TConstraint):List Value:=[.int .i64 x.kind,Lf.sl.up x.points,Lf.sl.up x.circles,Lf.sl.up x.values,.int .i64 x.side]
def CO (h:Hp) (x:TConstraint) (c:PCon):Prop:=x.kind=c.kind∧IL h x.points c.pts∧IL h x.circles c.cir∧LR ec 7 EX h x.values c.vals∧x.side=c.side
theorem CO.le {h h':Hp} {x:TConstraint} {c:PCon} (hx:CO h x c) (hl:h.le h'):CO h' x c:=⟨hx.1,hx.2.1.le hl,hx.2.2.1.le hl,hx.2.2.2.1.le zdb hl,hx.2.2.2.2⟩
theorem zad:Rec cc 5 CO:=⟨fun _=>rfl,by decide,fun _=>rfl,fun hx hl=>hx.le hl⟩
def PairsP:List Int→Prop
 | [a,b,c,d]=>a≠b∧c≠d∧¬(a=c∧b=d)∧¬(a=d∧b=c)
 | _=>False
def fourK (k:Int):Prop:=k=5∨k=6∨k=7∨k=8
instance (k:Int):Decidable (fourK k):=by unfold fourK; infer_instance
def VC (c:PCon) (n m:Int):Prop:=
 (1≤c.kind∧c.kind≤17)∧(c.pts.length=(shK c.kind).1∧∀x∈c.pts,0≤x∧x<n)∧(c.cir.length=(shK c.kind).2.1∧∀x∈c.cir,0≤x∧x<m)∧c.vals.length=(shK c.kind).2.2.1 ∧
 (∀v∈c.vals,vE v=true)∧(if (shK c.kind).2.2.2.2=true then c.side=1∨c.side=-1 else c.side=0)∧(if fourK c.kind then PairsP c.pts else c.pts.Nodup∧c.cir.Nodup)
def sC (c:PCon):Prop:=c.pts.length≤10∧c.cir.length≤10∧c.vals.length≤10∧∀v∈c.vals,sE v
def TBL (h:Hp):Prop:=∀k:Nat,1≤k→k≤17→∃ln ps:Bool,∀j v,([.int .i64 ((shK k).1:Int),.int .i64 ((shK k).2.1:Int),.int .i64 ((shK k).2.2.1:Int),.int .i64 ((shK k).2.2.2.1:Int),.bool (shK k).2.2.2.2,.bool ln,.bool ps]:List Value)[j]?=some v →
 h.cell ((((⟨1,0,none⟩:Addr).add (k*8)).add 1).add j)=some v
theorem TBL.le {h h':Hp} (ht:TBL h) (hl:h.le h'):TBL h':=fun k h1 h2=>by
 obtain ⟨ln,ps,h3⟩:=ht k h1 h2
 exact ⟨ln,ps,fun j v hv=>Hp.cell_le hl (h3 j v hv)⟩
def GT (h:Hp):Prop:=P10 h∧OPT h∧TBL h
theorem GT.le {h h':Hp} (ht:GT h) (hl:h.le h'):GT h':=⟨ht.1.le hl,ht.2.1.le hl,ht.2.2.le hl⟩
section
variable {h : Hp} {x : TConstraint} {c : PCon} {l : Sl} {xs : List Int} {Kb : Bool → Hp → Prop} {Ki : Int → Hp → Prop}
theorem znn {kind:Int} {K:(Tconstraint_Shape×Bool)→Hp→Prop} (ht:TBL h) (H1:1≤kind→kind≤17→∀ln ps,K (⟨((shK kind).1:Int),((shK kind).2.1:Int),((shK kind).2.2.1:Int),((shK kind).2.2.2.1:Int),(shK kind).2.2.2.2,ln,ps⟩,true) h)
 (H0:¬(1≤kind∧kind≤17)→K (⟨0,0,0,0,false,false,false⟩,false) h):callP (F.zds kind) K h:=by
 refine za1 (fun r h'=>h'=h∧((1≤kind∧kind≤17∧∃ln ps,r=(⟨((shK kind).1:Int),((shK kind).2.1:Int),((shK kind).2.2.1:Int),((shK kind).2.2.2.1:Int),(shK kind).2.2.2.2,ln,ps⟩,true))∨(¬(1≤kind∧kind≤17)∧r=(⟨0,0,0,0,false,false,false⟩,false)))) (fun K' hk=>?_) fun r h' _ hr=>by
  obtain ⟨rfl,hr | hr⟩:=hr
  · obtain ⟨h1,h2,ln,ps,rfl⟩:=hr
    exact H1 h1 h2 ln ps
  · rw [hr.2]; exact H0 hr.1
 unfold F.zds
 refine za3 (fun _ h1=>h1=h∧1≤kind∧kind≤17) ?_ ?_
 · rintro _ h ⟨rfl,h1,h2⟩
   obtain ⟨k,rfl⟩:∃k:Nat,kind=k:=⟨kind.toNat,by omega⟩
   obtain ⟨ln,ps,hc⟩:=ht k (by omega) (by omega)
   refine zrj (by omega) (by omega) ?_
   exact ⟨_,hc 0 _ rfl,_,hc 1 _ rfl,_,hc 2 _ rfl,_,hc 3 _ rfl,_,hc 4 _ rfl,_,hc 5 _ rfl,_,hc 6 _ rfl,hk _ _ (Hp.le_refl _) ⟨rfl,.inl ⟨h1,h2,ln,ps,rfl⟩⟩⟩
 · refine za0 (fun h1=>hk _ _ (Hp.le_refl _) ⟨rfl,.inr ⟨by omega,rfl⟩⟩) fun h1=>za0 (fun h2=>hk _ _ (Hp.le_refl _) ⟨rfl,.inr ⟨by omega,rfl⟩⟩) fun h2=>⟨rfl,by omega,by omega⟩
def rowc (r:Tsetsquareref25_Row):List Value:=[.string r.name,.int .i64 r.points,.int .i64 r.circles,.int .i64 r.count,.int .i64 r.values,.int .i64 r.equations,.bool r.side]
def rows17:List Tsetsquareref25_Row:=[⟨⟨#[102,105,120]⟩,1,0,2,1,2,false⟩,⟨⟨#[100,105,115,116,97,110,99,101]⟩,2,0,1,2,1,false⟩,⟨⟨#[105,110,99,105,100,101,110,116]⟩,3,0,0,0,1,false⟩,⟨⟨#[111,102,102,115,101,116]⟩,3,0,1,2,1,true⟩,⟨⟨#[97,110,103,108,101]⟩,4,0,1,3,1,false⟩,⟨⟨#[112,97,114,97,108,108,101,108]⟩,4,0,0,0,1,false⟩,⟨⟨#[112,101,114,112,101,110,100,105,99,117,108,97,114]⟩,4,0,0,0,1,false⟩,⟨⟨#[101,113,117,97,108]⟩,4,0,0,0,1,false⟩,⟨⟨#[109,105,100,112,111,105,110,116]⟩,3,0,0,0,2,false⟩,⟨⟨#[115,121,109,109,101,116,114,105,99]⟩,4,0,0,0,2,false⟩,⟨⟨#[104,111,114,105,122,111,110,116,97,108]⟩,2,0,0,0,1,false⟩,⟨⟨#[118,101,114,116,105,99,97,108]⟩,2,0,0,0,1,false⟩,⟨⟨#[111,110,99,105,114,99,108,101]⟩,1,1,0,0,1,false⟩,⟨⟨#[114,97,100,105,117,115]⟩,0,1,1,2,1,false⟩,⟨⟨#[115,97,109,101,114,97,100,105,117,115]⟩,0,2,0,0,1,false⟩,⟨⟨#[116,97,110,103,101,110,116,108,105,110,101]⟩,2,1,0,0,1,true⟩,⟨⟨#[116,97,110,103,101,110,116,99,105,114,99,108,101]⟩,0,2,0,0,1,true⟩]
theorem za77:∀k:Fin 17,(rows17[k].points,rows17[k].circles,rows17[k].count,rows17[k].equations,rows17[k].side)=(((shK (k+1:Nat)).1:Int),((shK (k+1:Nat)).2.1:Int),((shK (k+1:Nat)).2.2.1:Int),((shK (k+1:Nat)).2.2.2.1:Int),(shK (k+1:Nat)).2.2.2.2):=by decide +kernel
theorem zry {K:Sl→Hp→Prop} (H:∀l h',h.le h'→Rd h' 7 l (rows17.flatMap rowc)→l.len=17→K l h'):callP F.zih K h:=by
 refine za1 (fun l h'=>Rd h' 7 l (rows17.flatMap rowc)∧l.len=17) (fun K' hk=>?_) fun l h' hl hr=>H l h' hl hr.1 hr.2
 unfold F.zih
 exact zuj (cells:=rows17.flatMap rowc) 7 17 rfl fun a h' hl hr=>hk _ _ hl ⟨hr,rfl⟩
theorem za6c {kind:Int} {K:(Tsetsquareref25_Row×Bool)→Hp→Prop} (H1:1≤kind→kind≤17→∀nm vs h',h.le h'→K (⟨nm,((shK kind).1:Int),((shK kind).2.1:Int),((shK kind).2.2.1:Int),vs,((shK kind).2.2.2.1:Int),(shK kind).2.2.2.2⟩,true) h')
 (H0:¬(1≤kind∧kind≤17)→∀h',h.le h'→K (⟨emptyS,0,0,0,0,0,false⟩,false) h'):callP (F.zn5 kind) K h:=by
 refine za1 (fun r h'=>((1≤kind∧kind≤17∧∃nm vs,r=(⟨nm,((shK kind).1:Int),((shK kind).2.1:Int),((shK kind).2.2.1:Int),vs,((shK kind).2.2.2.1:Int),(shK kind).2.2.2.2⟩,true))∨(¬(1≤kind∧kind≤17)∧r=(⟨emptyS,0,0,0,0,0,false⟩,false)))) (fun K' hk=>?_) fun r h' hl hr=>by
  rcases hr with hr | hr
  · obtain ⟨h1,h2,ln,ps,rfl⟩:=hr
    exact H1 h1 h2 ln ps _ hl
  · rw [hr.2]; exact H0 hr.1 _ hl
 unfold F.zn5
 refine za3 (fun _ h1=>h.le h1∧1≤kind∧kind≤17) ?_ ?_
 · rintro _ h1 ⟨hl1,h2,h3⟩
   obtain ⟨k,hk17,rfl⟩:∃k:Nat,k<17∧kind=((k+1:Nat):Int):=⟨(kind-1).toNat,by omega,by omega⟩
   refine zry fun l h4 hl4 hr hlen=>?_
   have hk17':k<rows17.length:=hk17
   refine rd_el (c:=rowc) (fun _=>rfl) (by decide) hr k (by rw [w64 (by omega)]; omega) hk17' fun a hc=>?_
   refine ⟨_,hc 0 _ (by decide) rfl,_,hc 1 _ (by decide) rfl,_,hc 2 _ (by decide) rfl,_,hc 3 _ (by decide) rfl,_,hc 4 _ (by decide) rfl,_,hc 5 _ (by decide) rfl,_,hc 6 _ (by decide) rfl,hk _ _ (Hp.le_trans hl1 hl4) (.inl ⟨h2,h3,rows17[k].name,rows17[k].values,?_⟩)⟩
   have:=za77 ⟨k,hk17⟩
   simp only [Prod.mk.injEq] at this
   obtain ⟨e1,e2,e3,e4,e5⟩:=this
   rw [←e1,←e2,←e3,←e4,←e5]
   rfl
 · refine za0 (fun h1=>hk _ _ (Hp.le_refl _) (.inr ⟨by omega,rfl⟩)) fun h1=>?_
   refine zry fun l h4 hl4 hr hlen=>?_
   refine za0 (fun h2=>hk _ _ hl4 (.inr ⟨by omega,rfl⟩)) fun h2=>⟨hl4,by omega,by omega⟩
theorem zp2 {n most:Int} (hx:IL h l xs) (hlen:xs.length≤1000000) (H:∀b h',h.le h'→(b=true↔(xs.length:Int)=n∧∀x∈xs,0≤x∧x<most)→Kb b h'):callP (F.ze5 l n most) Kb h:=by
 refine za1 (fun b h'=>b=true↔(xs.length:Int)=n∧∀x∈xs,0≤x∧x<most) (fun K' hk=>?_) fun b h' hl hb=>H b h' hl hb
 unfold F.ze5
 have hl:=hx.len
 refine zdg fun a h1 hl1 hc=>?_
 refine zaa (fun h2=>?_) (fun h2=>hk _ _ hl1 ⟨fun hh=>(by cases hh),fun hh=>by omega⟩)
 refine za1 (fun b h'=>b=true↔∃x∈xs,¬(0≤x∧x<most)) (fun K' hk=>?_) fun b h3 hl3 hb=>hk _ _ (Hp.le_trans hl1 hl3) ?_
 · unfold F.zbv
   refine za1 (fun r h'=>Fnd (fun x=>¬(0≤x∧x<most)) xs r) (fun K' hk=>?_) fun r h4 hl4 hr=>hk _ _ hl4 (by rw [decide_eq_true_iff]; exact hr.iff)
   unfold F.zc4
   refine zm8 (hx.le hl1) hlen (fun x _ h5 hl5 K hK=>?_) fun r h' hl hr=>hk _ _ hl hr
   refine zah (decide (¬(0≤x∧x<most))) (fun K' hk=>?_) (hK _ _ (Hp.le_refl _) (by rw [decide_eq_true_iff]))
   unfold F.zga
   refine za0 (fun h6=>?_) (fun h6=>?_)
   · rw [decide_eq_true (by omega)] at hk; exact hk
   · refine ⟨_,Hp.cell_le hl5 hc,?_⟩
     have:decide (x≥most)=decide (¬(0≤x∧x<most)):=decide_eq_decide.2 (by omega)
     show K' (decide (x≥most)) h5
     rw [this]; exact hk
 · rw [Bool.not_eq_true',←Bool.not_eq_true,hb]
   constructor
   · intro hh
     exact ⟨by omega,fun x hx=>Classical.byContradiction fun hn=>hh ⟨x,hx,hn⟩⟩
   · rintro ⟨_,h4⟩ ⟨x,hx,hn⟩
     exact hn (h4 x hx)
theorem zqt {xs:List Int} {i:Nat} (hi:i<xs.length):(xs.take (i+1)).Nodup↔(xs.take i).Nodup∧xs[i]∉xs.take i:=by
 rw [←List.take_append_getElem hi,List.nodup_append]
 constructor
 · rintro ⟨h1,_,h3⟩
   exact ⟨h1,fun hm=>h3 _ hm _ (List.mem_singleton.2 rfl) rfl⟩
 · rintro ⟨h1,h2⟩
   exact ⟨h1,by simp,fun a ha b hb hab=>by rw [List.mem_singleton.1 hb] at hab; subst hab; exact h2 ha⟩
theorem zsu {xs:List Int} {i:Nat} (h:xs.Nodup):(xs.take i).Nodup:=h.sublist (List.take_sublist _ _)
theorem zm3 (hx:IL h l xs) (hlen:xs.length≤1000000) (H:∀b h',h.le h'→(b=true↔xs.Nodup)→Kb b h'):callP (F.zcx l) Kb h:=by
 refine za1 (fun b h'=>b=true↔xs.Nodup) (fun K' hk=>?_) fun b h' hl hb=>H b h' hl hb
 unfold F.zcx
 have hl:=hx.len
 have hcap:=hx.2
 refine zd0 (n:=xs.length) (by omega) (fun i h'=>h.le h'∧(xs.take i).Nodup) ⟨Hp.le_refl _,by simp⟩ ?_
 rintro i h1 hi ⟨hl1,hno⟩ k hk2
 refine za0 (fun h2=>?_) (fun h2=>?_)
 · have hi':i<xs.length:=by simp only at h2; omega
   refine (hx.le hl1).get i rfl hi' ?_
   refine ⟨by omega,by simp only; omega,by simp only; omega,?_⟩
   refine zej ((hx.le hl1).cut (n:=i) (by omega)) (by rw [List.length_take]; omega) fun h3 hl3=>?_
   refine za0 (fun h4=>hk _ _ (Hp.le_trans hl1 hl3) ⟨fun hh=>(by cases hh),fun hh=>?_⟩) (fun h4=>hk2 _ hi' ⟨Hp.le_trans hl1 hl3,(zqt hi').2 ⟨hno,h4⟩⟩)
   exact absurd h4 ((zqt hi').1 (zsu hh)).2
 · have:i=xs.length:=by simp only at h2; omega
   subst this
   rw [List.take_length] at hno
   exact hk _ _ hl1 ⟨fun _=>hno,fun _=>rfl⟩
theorem zyw (hx:IL h l xs) (hlen:xs.length=4) (H:∀b h',h.le h'→(b=true↔PairsP xs)→Kb b h'):callP (F.zfi l) Kb h:=by
 refine za1 (fun b h'=>b=true↔PairsP xs) (fun K' hk=>?_) fun b h' hl hb=>H b h' hl hb
 unfold F.zfi
 match xs,hlen with
 | [a,b,c,d],_=>
 refine hx.get 0 rfl (by simp) (hx.get 1 rfl (by simp) (hx.get 2 rfl (by simp) (hx.get 3 rfl (by simp) ?_)))
 simp only [List.getElem_cons_zero,List.getElem_cons_succ]
 have fin:∀b',(b'=true↔PairsP [a,b,c,d])→K' b' h:=fun b' hb=>hk _ _ (Hp.le_refl _) hb
 unfold PairsP at fin
 refine zb7 (fun h1=>zb7 (fun h2=>zaa (fun h3=>za7 (fun h4=>zaa (fun h5=>fin _ ?_) (fun h5=>fin _ ?_)) (fun h4=>fin _ ?_)) (fun h3=>zaa (fun h5=>fin _ ?_) (fun h5=>fin _ ?_))) (fun h2=>fin _ ?_)) (fun h1=>fin _ ?_)
 all_goals simp_all
theorem za4e {n:Sl} {ps:List PEx} (hx:LR ec 7 EX h n ps) (hlen:ps.length≤10) (hs:∀v∈ps,sE v) (ht:GT h) (H:∀b h',h.le h'→(b=true↔¬∀v∈ps,vE v=true)→Kb b h'):callP (F.zax n) Kb h:=by
 refine za1 (fun b h'=>b=true↔¬∀v∈ps,vE v=true) (fun K' hk=>?_) fun b h' hl hb=>H b h' hl hb
 unfold F.zax
 refine za1 (fun r h'=>(0≤r↔∃p∈ps,(!vE p)=true)) (fun K2 hk2=>?_) fun r h' hl hr=>hk _ _ hl ?_
 · unfold F.zbl
   refine zx8 (g:=fun p=>!vE p) (ps:=ps) (G:=F.zer) hx (by omega) ?_ fun r h' hl hr=>hk2 _ _ hl hr
   intro e2 p2 h2 hl2 hx2 hm K3 hK3
   refine za1 (fun b h'=>b=!vE p2) (fun K' hk=>?_) fun b h' hl hb=>by subst hb; exact hK3 _ hl
   unfold F.zer
   refine zwc hx2 (hs _ hm) (ht.1.le hl2) (ht.2.1.le hl2) fun r h' hl hr=>hk _ _ hl ?_
   cases hv:vE p2 with
   | true=>rw [hr.2 hv]; rfl
   | false=>
     have:r≠0:=fun hh=>by rw [hr.1 hh] at hv; cases hv
     simp [this]
 · rw [decide_eq_true_iff,ge_iff_le,hr]
   constructor
   · rintro ⟨p,hp,h1⟩ hh
     rw [hh p hp] at h1; cases h1
   · intro hh
     apply Classical.byContradiction
     intro hn
     exact hh fun p hp=>by
      cases hf:vE p with
      | true=>rfl
      | false=>exact absurd ⟨p,hp,by rw [hf]; rfl⟩ hn
theorem za79 {A B:Prop} {sd:Bool} {z:Int} (hA:¬(if sd=true then z=1∨z=-1 else z=0)→A) (hB:(if sd=true then z=1∨z=-1 else z=0)→B) :
 ifP sd (ifP (z != 1) (ifP (z != (-1)) A (ifP (!sd) (ifP (z != 0) A B) B)) (ifP (!sd) (ifP (z != 0) A B) B)) (ifP (!sd) (ifP (z != 0) A B) B):=by
 cases sd with
 | true=>
   simp only [if_true] at hA hB
   refine zcd rfl (zb7 (fun h1=>zb7 (fun h2=>hA (by omega)) (fun h2=>zal rfl (hB (by omega)))) (fun h1=>zal rfl (hB (by omega))))
 | false=>
   simp only [Bool.false_eq_true,if_false] at hA hB
   exact zal rfl (zcd rfl (zb7 (fun h1=>hA h1) (fun h1=>hB h1)))
theorem za6q {k:Int} {T:Bool×Unit→Hp→Prop} (H:T (decide (fourK k),()) h):ifP (k==5) (T ((k==5),()) h) (ifP (k==6) (T ((k==6),()) h) (ifP (k==7) (T ((k==7),()) h) (T ((k==8),()) h))):=by
 refine zaa (fun h1=>?_) (fun h1=>zaa (fun h2=>?_) (fun h2=>zaa (fun h3=>?_) (fun h3=>?_)))
 · subst h1; exact H
 · subst h2; exact H
 · subst h3; exact H
 · have:(k==8)=decide (fourK k):=by
    by_cases h4:k=8
    · subst h4; rfl
    · rw [decide_eq_false (show ¬fourK k by unfold fourK; omega),beq_eq_false_iff_ne]; exact h4
   rw [this]; exact H
theorem zw3 {n m:Int} (hx:CO h x c) (hs:sC c) (ht:GT h) (H:∀b h',h.le h'→(b=true↔VC c n m)→Kb b h'):callP (F.zfh x n m) Kb h:=by
 refine za1 (fun b h'=>b=true↔VC c n m) (fun K' hk=>?_) fun b h' hl hb=>H b h' hl hb
 unfold F.zfh
 obtain ⟨x1,x2,x3,x4,x5⟩:=hx
 obtain ⟨s1,s2,s3,s4⟩:=hs
 have hvl:=x4.len zdb
 have no:∀h',h.le h'→¬VC c n m→K' false h':=fun h' hl hn=>hk _ _ hl ⟨fun hh=>(by cases hh),fun hh=>absurd hh hn⟩
 rw [x1,x5]
 refine znn ht.2.2 (fun k1 k2 ln ps=>?_) (fun hn=>?_)
 · refine za3 (fun _ h1=>h.le h1∧((c.pts.length:Int)=(shK c.kind).1∧∀x∈c.pts,0≤x∧x<n)∧((c.cir.length:Int)=(shK c.kind).2.1∧∀x∈c.cir,0≤x∧x<m)∧c.vals.length=(shK c.kind).2.2.1) ?_ ?_
   · rintro _ h1 ⟨hl1,g1,g2,g3⟩
     refine za4e (x4.le zdb hl1) s3 s4 (ht.le hl1) fun b h2 hl2 hb=>?_
     have hle:=Hp.le_trans hl1 hl2
     refine za7 (fun h3=>no _ hle fun hv=>hb.1 h3 hv.2.2.2.2.1) (fun h3=>?_)
     have hv:∀v∈c.vals,vE v=true:=Classical.byContradiction fun hn=>by rw [hb.2 hn] at h3; cases h3
     refine za3 (fun _ h'=>h'=h2∧(if (shK c.kind).2.2.2.2=true then c.side=1∨c.side=-1 else c.side=0)) ?_ (za79 (fun hn=>no _ hle fun hv=>hn hv.2.2.2.2.2.1) fun hy=>⟨rfl,hy⟩)
     rintro _ h2 ⟨rfl,hsd⟩
     have vc:∀{b:Bool},(b=true↔(if fourK c.kind then PairsP c.pts else c.pts.Nodup∧c.cir.Nodup))→(b=true↔VC c n m):=fun hb=>by
      rw [hb]
      exact ⟨fun hh=>⟨⟨k1,k2⟩,⟨by omega,g1.2⟩,⟨by omega,g2.2⟩,g3,hv,hsd,hh⟩,fun hh=>hh.2.2.2.2.2.2⟩
     refine za3 (fun s h'=>h'=h2∧s.1=decide (fourK c.kind)) ?_ (za6q (T:=fun s h'=>h'=h2∧s.1=decide (fourK c.kind)) ⟨rfl,rfl⟩)
     rintro ⟨b,_⟩ h2 ⟨rfl,hbb⟩
     simp only at hbb
     subst hbb
     refine za0 (fun h4=>?_) (fun h4=>?_)
     · rw [if_pos h4] at vc
       refine zyw (x2.le hle) ?_ fun b h5 hl5 hb=>hk _ _ (Hp.le_trans hle hl5) (vc hb)
       have:(shK c.kind).1=4:=by unfold fourK at h4; rcases h4 with h4 | h4 | h4 | h4<;>rw [h4]<;>rfl
       omega
     · rw [if_neg h4] at vc
       refine zm3 (x2.le hle) (by omega) fun b h5 hl5 hb=>?_
       refine za7 (fun h6=>?_) (fun h6=>hk _ _ (Hp.le_trans hle hl5) (vc ⟨fun hh=>(by cases hh),fun hh=>by rw [hb.2 hh.1] at h6; cases h6⟩))
       refine zm3 ((x3.le hle).le hl5) (by omega) fun b' h7 hl7 hb'=>hk _ _ (Hp.le_trans hle (Hp.le_trans hl5 hl7)) (vc ?_)
       rw [hb']
       exact ⟨fun hh=>⟨hb.1 h6,hh⟩,fun hh=>hh.2⟩
   · refine zal rfl ?_
     refine zp2 x2 (by omega) fun b h1 hl1 hb=>?_
     refine za7 (fun h2=>no _ hl1 fun hv=>?_) (fun h2=>?_)
     · have:b=true:=hb.2 ⟨by rw [hv.2.1.1],hv.2.1.2⟩
       rw [this] at h2; cases h2
     have hb1:=hb.1 (by simpa using h2)
     refine zp2 (x3.le hl1) (by omega) fun b3 h3 hl3 hb3=>?_
     have hle:=Hp.le_trans hl1 hl3
     refine za7 (fun h4=>no _ hle fun hv=>?_) (fun h4=>?_)
     · have:b3=true:=hb3.2 ⟨by rw [hv.2.2.1.1],hv.2.2.1.2⟩
       rw [this] at h4; cases h4
     have hb4:=hb3.1 (by simpa using h4)
     refine zb7 (fun h5=>no _ hle fun hv=>h5 ?_) (fun h5=>⟨hle,hb1,hb4,by simp only at h5; omega⟩)
     have:=hv.2.2.2.1
     simp only
     omega
 · exact za3 (fun _ _=>False) (fun _ _ hh=>hh.elim) (zcd rfl (no _ (Hp.le_refl _) fun hv=>hn hv.1))
end
end Den
end

section
namespace Den
open Go Iv Lx
theorem zjr {h:Hp} {Ki:Int→Hp→Prop} {body:(Int×Unit)→((Int×Unit)→Hp→Prop)→Hp→Prop} {n:Nat} {g:Nat→Prop} (hn:n≤140737488355328)
 (hb:∀(i:Nat) h' (k:(Int×Unit)→Hp→Prop),h.le h'→i<n→(∀b h'',h'.le h''→(b=true↔g i)→ifP b (Ki (i:Int) h'') (k (IntKind.i64.wrap ((i:Int)+1),()) h''))→body ((i:Int),()) k h')
 (he:∀h' (k:(Int×Unit)→Hp→Prop),Ki (-1) h'→body ((n:Int),()) k h')
 (H:∀r h',h.le h'→(0≤r↔∃i,i<n∧g i)→Ki r h'):loopP body (0,()) h:=by
 refine zd0 hn (fun i h'=>h.le h'∧∀j,j<i→¬g j) ⟨Hp.le_refl _,fun j hj=>by omega⟩ ?_
 rintro i h1 hi ⟨hl1,hno⟩ k hk2
 by_cases hi':i<n
 · refine hb i h1 k hl1 hi' fun b h2 hl2 hbg=>?_
   refine za7 (fun h3=>H _ _ (Hp.le_trans hl1 hl2) ⟨fun _=>⟨i,hi',hbg.1 h3⟩,fun _=>by omega⟩) (fun h3=>hk2 _ hi' ⟨Hp.le_trans hl1 hl2,fun j hj=>?_⟩)
   rcases Nat.lt_or_ge j i with h5 | h5
   · exact hno j h5
   · have:j=i:=by omega
     subst this
     intro hg
     rw [hbg.2 hg] at h3; cases h3
 · obtain rfl:i=n:=by omega
   exact he h1 k (H _ _ hl1 ⟨fun hh=>by omega,fun ⟨j,hj,hg⟩=>absurd hg (hno j hj)⟩)
def eqP {α:Type} (h:Hp) (x b:α):Prop:=x=b
def ptc (x:TPoint):List Value:=[.bool x.x.num.neg,Lf.sl.up x.x.num.mag,.bool x.x.den.neg,Lf.sl.up x.x.den.mag,.bool x.y.num.neg,Lf.sl.up x.y.num.mag,.bool x.y.den.neg,Lf.sl.up x.y.den.mag]
def rdc (x:TRound):List Value:=[.int .i64 x.center,.bool x.radius.num.neg,Lf.sl.up x.radius.num.mag,.bool x.radius.den.neg,Lf.sl.up x.radius.den.mag]
def sgc (x:TSegment):List Value:=[.int .i64 x.a,.int .i64 x.b]
def arcc (x:TArc):List Value:=[.int .i64 x.circle,.int .i64 x.a,.int .i64 x.b,.bool x.cw]
def pic (x:TPiece):List Value:=[.bool x.arc,.int .i64 x.index,.bool x.back]
def slc (x:Sl):List Value:=[Lf.sl.up x]
def PTT (h:Hp) (x:TPoint) (b:Option Rat×Option Rat):Prop:=OR h x.x b.1∧OR h x.y b.2
def RN (h:Hp) (x:TRound) (b:Int×Option Rat):Prop:=x.center=b.1∧OR h x.radius b.2
def CHN (h:Hp) (x:Sl) (ps:List TPiece):Prop:=LR pic 3 eqP h x ps
theorem zcs:Rec ptc 8 PTT:=⟨fun _=>rfl,by decide,fun _=>rfl,fun hx hl=>⟨hx.1.le hl,hx.2.le hl⟩⟩
theorem zdw:Rec rdc 5 RN:=⟨fun _=>rfl,by decide,fun _=>rfl,fun hx hl=>⟨hx.1,hx.2.le hl⟩⟩
theorem zik:Rec sgc 2 eqP:=⟨fun _=>rfl,by decide,fun _=>rfl,fun hx hl=>hx⟩
theorem zei:Rec arcc 4 eqP:=⟨fun _=>rfl,by decide,fun _=>rfl,fun hx hl=>hx⟩
theorem zo4:Rec pic 3 eqP:=⟨fun _=>rfl,by decide,fun _=>rfl,fun hx hl=>hx⟩
theorem zh5:Rec slc 1 CHN:=⟨fun _=>rfl,by decide,fun _=>rfl,fun hx hl=>LR.le zo4 hx hl⟩
structure PSk where
 pts:List (Option Rat×Option Rat)
 cir:List (Int×Option Rat)
 seg:List TSegment
 arc:List TArc
 chn:List (List TPiece)
 con:List PCon
def SK (h:Hp) (s:TSketch) (S:PSk):Prop:=
 LR ptc 8 PTT h s.points S.pts∧LR rdc 5 RN h s.circles S.cir∧LR sgc 2 eqP h s.segments S.seg∧LR arcc 4 eqP h s.arcs S.arc∧LR slc 1 CHN h s.chains S.chn∧LR cc 5 CO h s.constraints S.con
theorem SK.le {h h':Hp} {s:TSketch} {S:PSk} (hx:SK h s S) (hl:h.le h'):SK h' s S:=
 ⟨hx.1.le zcs hl,hx.2.1.le zdw hl,hx.2.2.1.le zik hl,hx.2.2.2.1.le zei hl,hx.2.2.2.2.1.le zh5 hl,hx.2.2.2.2.2.le zad hl⟩
def sSk (S:PSk):Prop:=S.pts.length≤10∧S.cir.length≤10∧S.seg.length≤10∧S.arc.length≤10∧S.chn.length≤10∧S.con.length≤20∧(∀c∈S.chn,c.length≤20)∧∀c∈S.con,sC c
def hasP (n:Nat) (i:Int):Prop:=0≤i∧i<n
def cen (S:PSk) (i:Int):Int:=(S.cir.getD i.toNat (0,none)).1
def endsP (S:PSk) (p:TPiece):Int×Int:=
 let q:=if p.arc=true then ((S.arc.getD p.index.toNat ⟨0,0,0,false⟩).a,(S.arc.getD p.index.toNat ⟨0,0,0,false⟩).b) else ((S.seg.getD p.index.toNat ⟨0,0⟩).a,(S.seg.getD p.index.toNat ⟨0,0⟩).b)
 if p.back=true then (q.2,q.1) else q
def okP (S:PSk) (p:TPiece):Prop:=hasP (if p.arc=true then S.arc.length else S.seg.length) p.index
def VCh (S:PSk) (c:List TPiece):Prop:=c≠[]∧(∀p∈c,okP S p)∧∀i (h:i+1<c.length),(endsP S c[i]).2=(endsP S c[i+1]).1
def VA (S:PSk) (a:TArc):Prop:=hasP S.cir.length a.circle∧hasP S.pts.length a.a∧hasP S.pts.length a.b∧a.a≠cen S a.circle∧a.b≠cen S a.circle
def VR (S:PSk) (c:Int×Option Rat):Prop:=hasP S.pts.length c.1∧∃q,c.2=some q∧0<q.num
def VG (S:PSk) (g:TSegment):Prop:=hasP S.pts.length g.a∧hasP S.pts.length g.b∧g.a≠g.b
def VP (p:Option Rat×Option Rat):Prop:=p.1.isSome=true∧p.2.isSome=true
def VS (S:PSk):Prop:=(∀p∈S.pts,VP p)∧(∀c∈S.cir,VR S c)∧(∀g∈S.seg,VG S g)∧(∀a∈S.arc,VA S a)∧(∀c∈S.chn,VCh S c)∧∀c∈S.con,VC c S.pts.length S.cir.length
theorem zbb {α:Type} {l:List α} {i:Nat} {d:α} (h:i<l.length):l.getD i d=l[i]:=by rw [List.getD_eq_getElem?_getD,List.getElem?_eq_getElem h]; rfl
theorem zm6 {α:Type} {l:List α} {P:α→Prop}:(∃i,i<l.length∧∃h:i<l.length,¬P l[i])↔¬∀x∈l,P x:=by
 constructor
 · rintro ⟨i,hi,h,hn⟩ hh
   exact hn (hh _ (List.getElem_mem h))
 · intro hh
   apply Classical.byContradiction
   intro hn
   exact hh fun x hx=>by
    obtain ⟨i,hi,rfl⟩:=List.mem_iff_getElem.1 hx
    exact Classical.byContradiction fun hp=>hn ⟨i,hi,hi,hp⟩
section
variable {h : Hp} {s : TSketch} {S : PSk} {Kb : Bool → Hp → Prop} {Ki : Int → Hp → Prop} {l : Sl}
theorem zhv {n:Nat} {i:Int} (H:∀b,(b=true↔hasP n i)→Kb b h):callP (F.zdn (n:Int) i) Kb h:=by
 refine za1 (fun b h'=>h'=h∧(b=true↔hasP n i)) (fun K' hk=>?_) fun b h' _ hb=>by obtain ⟨rfl,hb⟩:=hb; exact H b hb
 unfold F.zdn
 refine za0 (fun h1=>hk _ _ (Hp.le_refl _) ⟨rfl,by rw [decide_eq_true_iff]; exact ⟨fun hh=>⟨h1,hh⟩,fun hh=>hh.2⟩⟩) (fun h1=>hk _ _ (Hp.le_refl _) ⟨rfl,fun hh=>(by cases hh),fun hh=>absurd hh.1 h1⟩)
theorem zte (hx:SK h s S) (hs:sSk S) (H:∀h',h.le h'→Kb false h'):callP (F.zhc s) Kb h:=by
 refine za1 (fun b h'=>b=false) (fun K' hk=>?_) fun b h' hl hb=>by subst hb; exact H h' hl
 unfold F.zhc
 obtain ⟨x1,x2,x3,x4,x5,x6⟩:=hx
 obtain ⟨s1,s2,s3,s4,s5,s6,s7,s8⟩:=hs
 have l1:=x1.len zcs
 have l2:=x2.len zdw
 have l3:=x3.len zik
 have l4:=x4.len zei
 have l5:=x5.len zh5
 have l6:=x6.len zad
 refine zid fun a h1 hl1 hc=>?_
 have hr:IL h1 ⟨some a,6,6⟩ [(s.points.len:Int),s.circles.len,s.segments.len,s.arcs.len,s.chains.len,s.constraints.len]:=⟨zeg hc rfl,Nat.le_refl _⟩
 refine zd0 (n:=6) (by omega) (fun i h'=>h'=h1) rfl ?_
 rintro i h1 hi rfl k hk2
 refine za0 (fun h2=>?_) (fun h2=>?_)
 · have hi':i<6:=by have:(i:Int)<6:=h2; omega
   have hall:∀z∈([(s.points.len:Int),s.circles.len,s.segments.len,s.arcs.len,s.chains.len,s.constraints.len]:List Int),z≤20:=by
    simp only [List.mem_cons,List.not_mem_nil,or_false,forall_eq_or_imp,forall_eq]
    omega
   have h9:=hall _ (List.getElem_mem (show i<([(s.points.len:Int),s.circles.len,s.segments.len,s.arcs.len,s.chains.len,s.constraints.len]:List Int).length from hi'))
   refine hr.get i rfl hi' (za0 (fun h3=>?_) (fun h3=>hk2 _ hi' rfl))
   exfalso
   have h3:_>(200:Int):=h3
   omega
 · refine za1 (fun b h'=>b=false) (fun K2 hk3=>?_) fun b h' hl hb=>hk _ _ (Hp.le_trans hl1 hl) hb
   unfold F.zbg
   refine za1 (fun r h'=>¬0≤r) (fun K4 hk4=>?_) fun r h' hl hr=>hk3 _ _ hl (decide_eq_false hr)
   unfold F.zbm
   refine zjr (n:=S.chn.length) (g:=fun i=>False) (by omega) (fun i h' k hl hi' hb=>?_) (fun h' k hk=>za0 (fun hh=>by simp only at hh; omega) (fun _=>hk)) (fun r h' hl hr=>hk4 _ _ hl (fun hh=>by obtain ⟨_,_,hf⟩:=hr.1 hh; exact hf))
   refine za0 (fun _=>?_) (fun hh=>by simp only at hh; omega)
   refine (x5.le zh5 (Hp.le_trans hl1 hl)).get zh5 i rfl hi' fun b x hxx hcc=>?_
   have e0:=hcc 0 _ rfl
   rw [zba] at e0
   refine ⟨_,e0,?_⟩
   have hxl:=LR.len zo4 hxx
   have:=s7 _ (List.getElem_mem hi')
   refine zah false (fun K' hk=>?_) (hb false _ (Hp.le_refl _) (by simp))
   unfold F.zhx
   rw [decide_eq_false (by omega)]; exact hk
theorem za5j {p:TPiece} {K:(Int×Int)→Hp→Prop} (hx:SK h s S) (hp:okP S p) (H:K (endsP S p) h):F.zhl s p K h:=by
 unfold F.zhl
 obtain ⟨x1,x2,x3,x4,x5,x6⟩:=hx
 unfold okP hasP at hp
 unfold endsP at H
 refine za3 (fun st h'=>h'=h∧(st.1,st.2.1)=(if p.arc=true then ((S.arc.getD p.index.toNat ⟨0,0,0,false⟩).a,(S.arc.getD p.index.toNat ⟨0,0,0,false⟩).b) else ((S.seg.getD p.index.toNat ⟨0,0⟩).a,(S.seg.getD p.index.toNat ⟨0,0⟩).b))) ?_ ?_
 · rintro ⟨a,b,_⟩ h ⟨rfl,hab⟩
   simp only at hab H
   rw [←hab] at H
   refine za7 (fun h1=>?_) (fun h1=>?_)
   · rw [if_pos h1] at H; exact H
   · rw [h1] at H; exact H
 · refine za7 (fun h1=>?_) (fun h1=>?_)
   · rw [if_pos h1] at hp
     have hk:p.index.toNat<S.arc.length:=by omega
     refine x4.get zei p.index.toNat (by omega) hk fun a x hxx hc=>⟨_,hc 1 _ rfl,x4.get zei p.index.toNat (by omega) hk fun b y hyy hc2=>⟨_,hc2 2 _ rfl,rfl,?_⟩⟩
     have e1:x=S.arc[p.index.toNat]:=hxx
     have e2:y=S.arc[p.index.toNat]:=hyy
     subst e1
     rw [if_pos h1,zbb hk,e2]
   · rw [h1] at hp
     simp only [Bool.false_eq_true,if_false] at hp
     have hk:p.index.toNat<S.seg.length:=by omega
     refine x3.get zik p.index.toNat (by omega) hk fun a x hxx hc=>⟨_,hc 0 _ rfl,x3.get zik p.index.toNat (by omega) hk fun b y hyy hc2=>⟨_,hc2 1 _ rfl,rfl,?_⟩⟩
     have e1:x=S.seg[p.index.toNat]:=hxx
     have e2:y=S.seg[p.index.toNat]:=hyy
     subst e1
     rw [h1,zbb hk,e2]
     rfl
theorem zz8 {p:TPiece} {K:(Int×Int)→Hp→Prop} (hx:SK h s S) (hp:okP S p) (H:K (endsP S p) h):callP (F.zhl s p) K h:=zah _ (fun K' hk=>za5j hx hp hk) H
end
end Den
end

section
namespace Den
open Go Iv Lx Go.Proofs
open Go.ChangeShapes Go.WideShapes Go.ChangeAt Go.RowKit
theorem zab5:laidOutB Tryz.prog=true:=by kernel_rfl
theorem zab3:mapsRowed Tryz.prog=true:=by kernel_rfl
theorem zab4:sizedB Tryz.prog=true:=by kernel_rfl
theorem zq8:Tryz.prog.cellsOf 4=1:=by kernel_rfl
theorem c_int:Tryz.prog.cellsOf 3=1:=by kernel_rfl
theorem c_str:Tryz.prog.cellsOf 9=1:=by kernel_rfl
theorem za7j:Tryz.prog.bytesOf 180=4:=by kernel_rfl
theorem c_u32:Tryz.prog.cellsOf 180=1:=by kernel_rfl
theorem c_W:Tryz.prog.cellsOf 59=1:=by kernel_rfl
theorem c_I:Tryz.prog.cellsOf 61=2:=by kernel_rfl
theorem c_R:Tryz.prog.cellsOf 63=4:=by kernel_rfl
theorem c_E:Tryz.prog.cellsOf 66=7:=by kernel_rfl
theorem c_sE:Tryz.prog.cellsOf 64=1:=by kernel_rfl
theorem c_sI:Tryz.prog.cellsOf 32=1:=by kernel_rfl
theorem c_C:Tryz.prog.cellsOf 101=5:=by kernel_rfl
theorem c_P:Tryz.prog.cellsOf 88=8:=by kernel_rfl
theorem c_O:Tryz.prog.cellsOf 90=5:=by kernel_rfl
theorem c_G:Tryz.prog.cellsOf 94=2:=by kernel_rfl
theorem c_A:Tryz.prog.cellsOf 96=4:=by kernel_rfl
theorem c_Pi:Tryz.prog.cellsOf 154=3:=by kernel_rfl
theorem c_sPi:Tryz.prog.cellsOf 98=1:=by kernel_rfl
theorem c_sP:Tryz.prog.cellsOf 22=1:=by kernel_rfl
theorem c_sO:Tryz.prog.cellsOf 23=1:=by kernel_rfl
theorem c_sG:Tryz.prog.cellsOf 24=1:=by kernel_rfl
theorem c_sA:Tryz.prog.cellsOf 25=1:=by kernel_rfl
theorem za7k:Tryz.prog.cellsOf 26=1:=by kernel_rfl
theorem c_sC:Tryz.prog.cellsOf 27=1:=by kernel_rfl
theorem c_S:Tryz.prog.cellsOf 29=6:=by kernel_rfl
section
variable {H : Type} {enc : TypeId × Value → H} {P : Program} {w : World}
def OktN (enc:TypeId×Value→H) (P:Program) (w:World) (n:Nat) (t:TypeId) (cs:List Value):Prop:=∃x,DataW.trod enc P w 0 (fun _=>true) true n t cs=some x∧∀k∈x.1.weights P t,k≤reachBytes
theorem Okt.n {t:TypeId} {cs:List Value} (h:Okt enc P w t cs):∃n,OktN enc P w n t cs:=h
theorem OktN.okt {n:Nat} {t:TypeId} {cs:List Value} (h:OktN enc P w n t cs):Okt enc P w t cs:=⟨n,h⟩
theorem OktN.fields {n:Nat} {t:TypeId} {fs:Array Field} {cs:List Value} (ht:P.underlying t=some (.struct fs)) (h:OktN enc P w n t cs) :
 ∃m,n=m+1∧cs.length=P.cellsOf t∧∀(i:Nat) (f:Field),fs[i]?=some f→OktN enc P w m f.type ((cs.drop f.offset).take (P.cellsOf f.type)):=by
 obtain ⟨x,h,hw⟩:=h
 obtain ⟨xs,m,en,e,hl,hx,hf⟩:=DataW.trod_struct ht h
 subst e
 simp only [DataW.weights,ht] at hw
 refine ⟨m,en,hl,fun i f hi=>?_⟩
 have h1:=hf i f hi
 have h2:i<xs.length:=by rw [hx]; exact (Array.getElem?_eq_some_iff.1 hi).1
 rw [List.getElem?_eq_getElem h2] at h1
 refine ⟨_,h1,fun k hk=>hw k (zgg (i:=i) ?_ ?_ k hk)⟩
 · rw [List.getElem?_map,Array.getElem?_toList,hi]; rfl
 · rw [List.getElem?_map,List.getElem?_eq_getElem h2]; rfl
theorem OktN.slice {n:Nat} {t e:TypeId} {cs:List Value} (ht:P.underlying t=some (.slice e)) (h:OktN enc P w n t cs) :
 ∃s:Sl,cs=[Lf.sl.up s]∧s.len≤s.cap∧s.len*P.bytesOf e≤reachBytes∧∃css:List (List Value),css.length=s.len∧(∀c∈css,c.length=P.cellsOf e∧∃m,m<n∧OktN enc P w m e c)∧Rd (hpW w) (P.cellsOf e) s css.flatten:=by
 obtain ⟨x,h,hw⟩:=h
 rcases DataW.trod_slice ht h with ⟨rfl,_⟩ | ⟨a,len,cap,elems,rest,m,en,rfl,ex,_,hl,hm,hlen,hel,_,_⟩
 · exact ⟨⟨none,0,0⟩,rfl,Nat.le_refl _,by simp,[],rfl,by simp,by simp,rfl⟩
 · subst ex
   simp only [DataW.weights,ht] at hw
   have hby:len*P.bytesOf e≤reachBytes:=by
    refine Nat.le_trans (Nat.mul_le_mul_right _ ?_) (hw _ (List.mem_cons_self ..))
    simp only [List.length_map,hlen]
    omega
   have each:∀i,i<len→∃c,w.cells? 0 (a.add (i*P.cellsOf e)) (P.cellsOf e)=some c∧OktN enc P w m e c:=fun i hi=>by
    have h1:=hel i hi
    rw [List.getElem?_eq_getElem (by omega),Option.bind_eq_some_iff] at h1
    obtain ⟨c,hc,hd⟩:=h1
    exact ⟨c,hc,_,hd,fun k hk=>hw k (List.mem_cons_of_mem _ (List.mem_append_left _ (zix (List.mem_map.2 ⟨_,List.getElem_mem (by omega),rfl⟩) k hk)))⟩
   have hall:∀k,k≤len→∃css:List (List Value),css.length=k∧∀i (hi:i<css.length),w.cells? 0 (a.add (i*P.cellsOf e)) (P.cellsOf e)=some css[i]∧OktN enc P w m e css[i]:=by
    intro k
    induction k with
    | zero=>intro _; exact ⟨[],rfl,fun i hi=>by simp at hi⟩
    | succ k ih=>
      intro hk
      obtain ⟨css,h1,h2⟩:=ih (by omega)
      obtain ⟨c,hc,hd⟩:=each k (by omega)
      refine ⟨css++[c],by simp [h1],fun i hi=>?_⟩
      by_cases hik:i<css.length
      · rw [List.getElem_append_left hik]; exact h2 i hik
      · have:i=k:=by simp at hi; omega
        subst this
        rw [List.getElem_append_right (by omega)]
        simpa [h1] using ⟨hc,hd⟩
   obtain ⟨css,h1,h2⟩:=hall len (Nat.le_refl _)
   have hsz:∀c∈css,c.length=P.cellsOf e:=fun c hc=>by
    obtain ⟨i,hi,rfl⟩:=List.mem_iff_getElem.1 hc
    exact (World.cells?_some (h2 i hi).1).2.1
   refine ⟨⟨some a,len,cap⟩,rfl,hl,hby,css,h1,fun c hc=>⟨hsz c hc,?_⟩,?_,?_⟩
   · obtain ⟨i,hi,rfl⟩:=List.mem_iff_getElem.1 hc
     exact ⟨m,by omega,(h2 i hi).2⟩
   · rw [zlc hsz,h1]
   · refine zs7 fun i hi=>?_
     rw [zlc hsz] at hi
     have hk:0<P.cellsOf e:=by
      rcases Nat.eq_zero_or_pos (P.cellsOf e) with h0 | h0
      · rw [h0,Nat.mul_zero] at hi; omega
      · exact h0
     have hq:i/P.cellsOf e<css.length:=(Nat.div_lt_iff_lt_mul hk).2 hi
     have hr:i % P.cellsOf e<P.cellsOf e:=Nat.mod_lt _ hk
     have hi':i=i/P.cellsOf e*P.cellsOf e+i % P.cellsOf e:=by rw [Nat.mul_comm]; exact (Nat.div_add_mod _ _).symm
     have h3:=(World.cells?_some (h2 _ hq).1).2.2 _ hr
     rw [zcn,←hi'] at h3
     have h4:css.flatten[i]?=css.flatten[i/P.cellsOf e*P.cellsOf e+i % P.cellsOf e]?:=congrArg (css.flatten[·]?) hi'
     rw [h3,h4,zs3 hsz hr,List.getElem?_eq_getElem hq]
     rfl
theorem zrk {α β:Type} {c:α→List Value} {Q:α→β→Prop} {R:List Value→Prop} (hel:∀cs,R cs→∃x b,cs=c x∧Q x b):∀{css:List (List Value)},(∀d∈css,R d) →
 ∃(xs:List α) (ps:List β),css.flatten=xs.flatMap c∧xs.length=ps.length∧css.length=xs.length∧∀k (h1:k<xs.length) (h2:k<ps.length),Q xs[k] ps[k]
 | [],_=>⟨[],[],rfl,rfl,rfl,fun k h1 _=>by simp at h1⟩
 | d :: r,h=>by
   obtain ⟨xs,ps,h1,h2,h3,h4⟩:=zrk hel (css:=r) fun x hx=>h x (List.mem_cons_of_mem _ hx)
   obtain ⟨x,b,hx,hq⟩:=hel d (h d (by simp))
   refine ⟨x :: xs,b :: ps,?_,by simp [h2],by simp [h3],fun k k1 k2=>?_⟩
   · rw [List.flatten_cons,h1,hx]; rfl
   · cases k with
     | zero=>exact hq
     | succ k=>exact h4 k (by simpa using k1) (by simpa using k2)
theorem zjt {α β:Type} {c:α→List Value} {n:Nat} {Q:Hp→α→β→Prop} {t e:TypeId} {cs:List Value} (ht:P.underlying t=some (.slice e)) (hce:P.cellsOf e=n)
 (hel:∀cs,Okt enc P w e cs→∃(x:α) (b:β),cs=c x∧Q (hpW w) x b) (h:Okt enc P w t cs):∃(s:Sl) (ps:List β),cs=[Lf.sl.up s]∧LR c n Q (hpW w) s ps:=by
 obtain ⟨s,hs,h1,h2,css,h3,h4,h5⟩:=h.slice ht
 obtain ⟨xs,ps,g1,g2,g3,g4⟩:=zrk hel (fun d hd=>(h4 d hd).2)
 rw [hce,g1] at h5
 exact ⟨s,ps,hs,xs,h5,h1,g2,g4⟩
theorem zaf {cs a r:List Value} {o k:Nat} (h1:(cs.drop o).take k=a) (h2:cs.drop (o+k)=r):cs.drop o=a++r:=by
 rw [←h1,←h2,←List.drop_drop,List.take_append_drop]
theorem zdr {cs:List Value} {n:Nat} (h:cs.length=n):cs.drop n=[]:=List.drop_of_length_le (by omega)
end
section
variable {H : Type} {enc : TypeId × Value → H} {w : World} {cs : List Value}
theorem wc_of:∀{css:List (List Value)},(∀c∈css,c.length=1∧Okt enc Tryz.prog w 180 c)→∃l:List Nat,css.flatten=wc l∧okW l
 | [],_=>⟨[],rfl,fun d hd=>by simp at hd⟩
 | c :: r,h=>by
   obtain ⟨l,h1,h2⟩:=wc_of (css:=r) fun x hx=>h x (List.mem_cons_of_mem _ hx)
   obtain ⟨m,rfl,hw⟩:=(h c (by simp)).2.int Tryz.underlying180
   simp [Lit.wf,IntKind.min,IntKind.max,IntKind.signed,IntKind.bits] at hw
   refine ⟨m.toNat :: l,?_,fun d hd=>?_⟩
   · rw [List.flatten_cons,h1]
     simp only [wc,List.map_cons,List.cons_append,List.nil_append]
     rw [Int.toNat_of_nonneg (by omega)]
   · rcases List.mem_cons.1 hd with rfl | hd
     · rw [W_eq]; omega
     · exact h2 d hd
theorem okt_W (h:Okt enc Tryz.prog w 59 cs):∃s:Sl,cs=[Lf.sl.up s]∧s.len≤35184372087808∧∃l,RdW (hpW w) s l∧okW l:=by
 obtain ⟨s,rfl,h1,h2,css,h3,h4,h5⟩:=h.slice Tryz.underlying59
 rw [c_u32] at h4 h5
 rw [za7j,show reachBytes=140737488351232 from rfl] at h2
 obtain ⟨l,hl,ok⟩:=wc_of h4
 rw [hl] at h5
 exact ⟨s,rfl,by omega,l,⟨h5,h1⟩,ok⟩
theorem okt_I (h:Okt enc Tryz.prog w 61 cs):∃x:TInt,cs=[.bool x.neg,Lf.sl.up x.mag]∧x.mag.len≤35184372087808∧AI (hpW w) x:=by
 obtain ⟨hl,hf⟩:=h.fields Tryz.underlying61
 rw [c_I] at hl
 have h0:Okt enc Tryz.prog w 4 ((cs.drop 0).take (Tryz.prog.cellsOf 4)):=hf 0 _ rfl
 have h1:Okt enc Tryz.prog w 59 ((cs.drop 1).take (Tryz.prog.cellsOf 59)):=hf 1 _ rfl
 rw [zq8] at h0
 rw [c_W] at h1
 obtain ⟨b,hb⟩:=h0.bool Tryz.underlying4
 obtain ⟨s,hs,hm,hr⟩:=okt_W h1
 exact ⟨⟨b,s⟩,zaf hb (zaf hs (zdr hl)),hm,hr⟩
theorem okt_R (h:Okt enc Tryz.prog w 63 cs):∃(x:TRat) (v:Option Rat),cs=[.bool x.num.neg,Lf.sl.up x.num.mag,.bool x.den.neg,Lf.sl.up x.den.mag]∧OR (hpW w) x v:=by
 obtain ⟨hl,hf⟩:=h.fields Tryz.underlying63
 rw [c_R] at hl
 have h0:Okt enc Tryz.prog w 61 ((cs.drop 0).take (Tryz.prog.cellsOf 61)):=hf 0 _ rfl
 have h1:Okt enc Tryz.prog w 61 ((cs.drop 2).take (Tryz.prog.cellsOf 61)):=hf 1 _ rfl
 rw [c_I] at h0 h1
 obtain ⟨x,hx,mx,ax⟩:=okt_I h0
 obtain ⟨y,hy,my,ay⟩:=okt_I h1
 obtain ⟨v,hv⟩:=OR_of (x:=⟨x,y⟩) ⟨ax,ay⟩ mx my
 exact ⟨⟨x,y⟩,v,zaf hx (zaf hy (zdr hl)),hv⟩
theorem okt_E:∀(n:Nat) (cs:List Value),OktN enc Tryz.prog w n 66 cs→∃(e:TExpr) (p:PEx),cs=ec e∧EX (hpW w) e p:=by
 intro n
 induction n using Nat.strongRecOn with
 | _ n ih=>
   intro cs h
   obtain ⟨m,rfl,hl,hf⟩:=h.fields Tryz.underlying66
   rw [c_E] at hl
   have h0:OktN enc Tryz.prog w m 3 ((cs.drop 0).take (Tryz.prog.cellsOf 3)):=hf 0 _ rfl
   have h1:OktN enc Tryz.prog w m 63 ((cs.drop 1).take (Tryz.prog.cellsOf 63)):=hf 1 _ rfl
   have h2:OktN enc Tryz.prog w m 9 ((cs.drop 5).take (Tryz.prog.cellsOf 9)):=hf 2 _ rfl
   have h3:OktN enc Tryz.prog w m 64 ((cs.drop 6).take (Tryz.prog.cellsOf 64)):=hf 3 _ rfl
   rw [c_int] at h0
   rw [c_R] at h1
   rw [c_str] at h2
   rw [c_sE] at h3
   obtain ⟨op,ho,_⟩:=h0.okt.int Tryz.underlying3
   obtain ⟨x,v,hx,hv⟩:=okt_R h1.okt
   obtain ⟨nm,hn,_⟩:=h2.okt.str Tryz.underlying9
   obtain ⟨s,hs,k1,k2,css,k3,k4,k5⟩:=h3.slice Tryz.underlying64
   obtain ⟨xs,ps,g1,g2,g3,g4⟩:=zrk (R:=fun c=>∃j,j<m∧OktN enc Tryz.prog w j 66 c) (c:=ec) (Q:=EX (hpW w)) (fun c ⟨j,hj,hc⟩=>ih j (by omega) c hc) (fun d hd=>(k4 d hd).2)
   rw [c_E,g1] at k5
   exact ⟨⟨op,x,nm,s⟩,.mk op x v nm ps,zaf ho (zaf hx (zaf hn (zaf hs (zdr hl)))),EX.mk ⟨op,x,nm,s⟩ v xs ps hv k5 k1 g2 g4⟩
theorem zum:∀{css:List (List Value)},(∀c∈css,c.length=Tryz.prog.cellsOf 3∧Okt enc Tryz.prog w 3 c)→∃l:List Int,css.flatten=l.map ic∧∀z∈l,-9223372036854775808≤z∧z≤9223372036854775807
 | [],_=>⟨[],rfl,fun d hd=>by simp at hd⟩
 | c :: r,h=>by
   obtain ⟨l,h1,h2⟩:=zum (css:=r) fun x hx=>h x (List.mem_cons_of_mem _ hx)
   obtain ⟨m,rfl,hw⟩:=(h c (by simp)).2.int Tryz.underlying3
   simp [Lit.wf,IntKind.min,IntKind.max,IntKind.signed,IntKind.bits] at hw
   refine ⟨m :: l,?_,fun d hd=>?_⟩
   · rw [List.flatten_cons,h1]; rfl
   · rcases List.mem_cons.1 hd with rfl | hd
     · omega
     · exact h2 d hd
theorem za2y (h:Okt enc Tryz.prog w 32 cs):∃(s:Sl) (xs:List Int),cs=[Lf.sl.up s]∧IL (hpW w) s xs∧∀z∈xs,-9223372036854775808≤z∧z≤9223372036854775807:=by
 obtain ⟨s,hs,h1,h2,css,h3,h4,h5⟩:=h.slice Tryz.underlying32
 obtain ⟨l,g1,g2⟩:=zum h4
 rw [c_int,g1] at h5
 exact ⟨s,l,hs,⟨h5,h1⟩,g2⟩
theorem okt_C (h:Okt enc Tryz.prog w 101 cs):∃(x:TConstraint) (c:PCon),cs=cc x∧CO (hpW w) x c:=by
 obtain ⟨hl,hf⟩:=h.fields Tryz.underlying101
 rw [c_C] at hl
 have h0:Okt enc Tryz.prog w 3 ((cs.drop 0).take (Tryz.prog.cellsOf 3)):=hf 0 _ rfl
 have h1:Okt enc Tryz.prog w 32 ((cs.drop 1).take (Tryz.prog.cellsOf 32)):=hf 1 _ rfl
 have h2:Okt enc Tryz.prog w 32 ((cs.drop 2).take (Tryz.prog.cellsOf 32)):=hf 2 _ rfl
 have h3:Okt enc Tryz.prog w 64 ((cs.drop 3).take (Tryz.prog.cellsOf 64)):=hf 3 _ rfl
 have h4:Okt enc Tryz.prog w 3 ((cs.drop 4).take (Tryz.prog.cellsOf 3)):=hf 4 _ rfl
 rw [c_int] at h0 h4
 rw [c_sI] at h1 h2
 rw [c_sE] at h3
 obtain ⟨kd,e0,_⟩:=h0.int Tryz.underlying3
 obtain ⟨p,ps,e1,i1,_⟩:=za2y h1
 obtain ⟨q,qs,e2,i2,_⟩:=za2y h2
 obtain ⟨v,vs,e3,i3⟩:=zjt (c:=ec) (n:=7) (Q:=EX) Tryz.underlying64 c_E (fun cs hc=>by
  obtain ⟨n,hn⟩:=hc.n
  exact okt_E n cs hn) h3
 obtain ⟨sd,e4,_⟩:=h4.int Tryz.underlying3
 exact ⟨⟨kd,p,q,v,sd⟩,⟨kd,ps,qs,vs,sd⟩,zaf e0 (zaf e1 (zaf e2 (zaf e3 (zaf e4 (zdr hl))))),rfl,i1,i2,i3,rfl⟩
theorem okt_P (h:Okt enc Tryz.prog w 88 cs):∃(x:TPoint) (b:Option Rat×Option Rat),cs=ptc x∧PTT (hpW w) x b:=by
 obtain ⟨hl,hf⟩:=h.fields Tryz.underlying88
 rw [c_P] at hl
 have h0:Okt enc Tryz.prog w 63 ((cs.drop 0).take (Tryz.prog.cellsOf 63)):=hf 0 _ rfl
 have h1:Okt enc Tryz.prog w 63 ((cs.drop 4).take (Tryz.prog.cellsOf 63)):=hf 1 _ rfl
 rw [c_R] at h0 h1
 obtain ⟨x,v,e0,i0⟩:=okt_R h0
 obtain ⟨y,u,e1,i1⟩:=okt_R h1
 exact ⟨⟨x,y⟩,(v,u),zaf e0 (zaf e1 (zdr hl)),i0,i1⟩
theorem okt_O (h:Okt enc Tryz.prog w 90 cs):∃(x:TRound) (b:Int×Option Rat),cs=rdc x∧RN (hpW w) x b:=by
 obtain ⟨hl,hf⟩:=h.fields Tryz.underlying90
 rw [c_O] at hl
 have h0:Okt enc Tryz.prog w 3 ((cs.drop 0).take (Tryz.prog.cellsOf 3)):=hf 0 _ rfl
 have h1:Okt enc Tryz.prog w 63 ((cs.drop 1).take (Tryz.prog.cellsOf 63)):=hf 1 _ rfl
 rw [c_int] at h0
 rw [c_R] at h1
 obtain ⟨z,e0,_⟩:=h0.int Tryz.underlying3
 obtain ⟨y,u,e1,i1⟩:=okt_R h1
 exact ⟨⟨z,y⟩,(z,u),zaf e0 (zaf e1 (zdr hl)),rfl,i1⟩
theorem okt_G (h:Okt enc Tryz.prog w 94 cs):∃(x b:TSegment),cs=sgc x∧eqP (hpW w) x b:=by
 obtain ⟨hl,hf⟩:=h.fields Tryz.underlying94
 rw [c_G] at hl
 have h0:Okt enc Tryz.prog w 3 ((cs.drop 0).take (Tryz.prog.cellsOf 3)):=hf 0 _ rfl
 have h1:Okt enc Tryz.prog w 3 ((cs.drop 1).take (Tryz.prog.cellsOf 3)):=hf 1 _ rfl
 rw [c_int] at h0 h1
 obtain ⟨a,e0,_⟩:=h0.int Tryz.underlying3
 obtain ⟨b,e1,_⟩:=h1.int Tryz.underlying3
 exact ⟨⟨a,b⟩,⟨a,b⟩,zaf e0 (zaf e1 (zdr hl)),rfl⟩
theorem okt_A (h:Okt enc Tryz.prog w 96 cs):∃(x b:TArc),cs=arcc x∧eqP (hpW w) x b:=by
 obtain ⟨hl,hf⟩:=h.fields Tryz.underlying96
 rw [c_A] at hl
 have h0:Okt enc Tryz.prog w 3 ((cs.drop 0).take (Tryz.prog.cellsOf 3)):=hf 0 _ rfl
 have h1:Okt enc Tryz.prog w 3 ((cs.drop 1).take (Tryz.prog.cellsOf 3)):=hf 1 _ rfl
 have h2:Okt enc Tryz.prog w 3 ((cs.drop 2).take (Tryz.prog.cellsOf 3)):=hf 2 _ rfl
 have h3:Okt enc Tryz.prog w 4 ((cs.drop 3).take (Tryz.prog.cellsOf 4)):=hf 3 _ rfl
 rw [c_int] at h0 h1 h2
 rw [zq8] at h3
 obtain ⟨a,e0,_⟩:=h0.int Tryz.underlying3
 obtain ⟨b,e1,_⟩:=h1.int Tryz.underlying3
 obtain ⟨c,e2,_⟩:=h2.int Tryz.underlying3
 obtain ⟨d,e3⟩:=h3.bool Tryz.underlying4
 exact ⟨⟨a,b,c,d⟩,⟨a,b,c,d⟩,zaf e0 (zaf e1 (zaf e2 (zaf e3 (zdr hl)))),rfl⟩
theorem za8p (h:Okt enc Tryz.prog w 154 cs):∃(x b:TPiece),cs=pic x∧eqP (hpW w) x b:=by
 obtain ⟨hl,hf⟩:=h.fields Tryz.underlying154
 rw [c_Pi] at hl
 have h0:Okt enc Tryz.prog w 4 ((cs.drop 0).take (Tryz.prog.cellsOf 4)):=hf 0 _ rfl
 have h1:Okt enc Tryz.prog w 3 ((cs.drop 1).take (Tryz.prog.cellsOf 3)):=hf 1 _ rfl
 have h2:Okt enc Tryz.prog w 4 ((cs.drop 2).take (Tryz.prog.cellsOf 4)):=hf 2 _ rfl
 rw [c_int] at h1
 rw [zq8] at h0 h2
 obtain ⟨a,e0⟩:=h0.bool Tryz.underlying4
 obtain ⟨b,e1,_⟩:=h1.int Tryz.underlying3
 obtain ⟨c,e2⟩:=h2.bool Tryz.underlying4
 exact ⟨⟨a,b,c⟩,⟨a,b,c⟩,zaf e0 (zaf e1 (zaf e2 (zdr hl))),rfl⟩
theorem okt_S (h:Okt enc Tryz.prog w 29 cs):∃x:TSketch,cs=[Lf.sl.up x.points,Lf.sl.up x.circles,Lf.sl.up x.segments,Lf.sl.up x.arcs,Lf.sl.up x.chains,Lf.sl.up x.constraints]∧∃S,SK (hpW w) x S:=by
 obtain ⟨hl,hf⟩:=h.fields Tryz.underlying29
 rw [c_S] at hl
 have h0:Okt enc Tryz.prog w 22 ((cs.drop 0).take (Tryz.prog.cellsOf 22)):=hf 0 _ rfl
 have h1:Okt enc Tryz.prog w 23 ((cs.drop 1).take (Tryz.prog.cellsOf 23)):=hf 1 _ rfl
 have h2:Okt enc Tryz.prog w 24 ((cs.drop 2).take (Tryz.prog.cellsOf 24)):=hf 2 _ rfl
 have h3:Okt enc Tryz.prog w 25 ((cs.drop 3).take (Tryz.prog.cellsOf 25)):=hf 3 _ rfl
 have h4:Okt enc Tryz.prog w 26 ((cs.drop 4).take (Tryz.prog.cellsOf 26)):=hf 4 _ rfl
 have h5:Okt enc Tryz.prog w 27 ((cs.drop 5).take (Tryz.prog.cellsOf 27)):=hf 5 _ rfl
 rw [c_sP] at h0
 rw [c_sO] at h1
 rw [c_sG] at h2
 rw [c_sA] at h3
 rw [za7k] at h4
 rw [c_sC] at h5
 obtain ⟨s0,p0,e0,i0⟩:=zjt (c:=ptc) (n:=8) (Q:=PTT) Tryz.underlying22 c_P (fun _ h=>okt_P h) h0
 obtain ⟨s1,p1,e1,i1⟩:=zjt (c:=rdc) (n:=5) (Q:=RN) Tryz.underlying23 c_O (fun _ h=>okt_O h) h1
 obtain ⟨s2,p2,e2,i2⟩:=zjt (c:=sgc) (n:=2) (Q:=eqP) Tryz.underlying24 c_G (fun _ h=>okt_G h) h2
 obtain ⟨s3,p3,e3,i3⟩:=zjt (c:=arcc) (n:=4) (Q:=eqP) Tryz.underlying25 c_A (fun _ h=>okt_A h) h3
 obtain ⟨s4,p4,e4,i4⟩:=zjt (c:=slc) (n:=1) (Q:=CHN) Tryz.underlying26 c_sPi (fun _ h=>by
  obtain ⟨x,ps,e,i⟩:=zjt (c:=pic) (n:=3) (Q:=eqP) Tryz.underlying98 c_Pi (fun _ h=>za8p h) h
  exact ⟨x,ps,e,i⟩) h4
 obtain ⟨s5,p5,e5,i5⟩:=zjt (c:=cc) (n:=5) (Q:=CO) Tryz.underlying27 c_C (fun _ h=>okt_C h) h5
 exact ⟨⟨s0,s1,s2,s3,s4,s5⟩,zaf e0 (zaf e1 (zaf e2 (zaf e3 (zaf e4 (zaf e5 (zdr hl)))))),⟨p0,p1,p2,p3,p4,p5⟩,i0,i1,i2,i3,i4,i5⟩
end
theorem zab8 {P:Program} {W:World} {r:Reach} {b:Nat} {t:TypeId} {v:Value} (h:Value.okWide P W r b t v) (hu:isAgg? P t=some true):∃c:List Value,v=.agg c.toArray∧v.cells.toList=c:=by
 unfold isAgg? at hu
 unfold Value.okWide at h
 split at h
 · obtain ⟨cs,rfl,_⟩:=h; exact ⟨cs.toList,by simp,by simp [Value.cells]⟩
 · obtain ⟨cs,rfl,_⟩:=h; exact ⟨cs.toList,by simp,by simp [Value.cells]⟩
 · rename_i h1 h2
   split at hu
   · rename_i hh; exact absurd hh (h1 _)
   · rename_i hh; exact absurd hh (h2 _ _)
   · cases hu
   · cases hu
end Den
end

section
namespace Den
open Go Iv Lx Go.Proofs Go.Proofs.YthifcokendanpaaGreatDoor
open Go.ChangeShapes Go.WideShapes Go.ChangeAt Go.RowKit
theorem zgt {P:Program} {w:World}:∀{l:List (String×DataW Unit)} {ps:List MemPlace},DataW.LaidVars P w l ps→∀{n:String} {d:DataW Unit},(n,d)∈l →
 ∃g t cs fuel p,P.globalNamed n=some g∧(P.globals[g]?).map (·.type)=some t∧w.var? P n=some cs∧DataW.trod (fun _=>()) P w 0 (fun _=>true) false fuel t cs.toList=some (d,p)
 | [],_,_,_,_,hm=>by simp at hm
 | (n0,d0) :: r,_,⟨g,t,cs,fuel,p,q,h1,h2,h3,h4,h5,_⟩,n,d,hm=>by
   rcases List.mem_cons.1 hm with e | hm
   · cases e
     exact ⟨g,t,cs,fuel,p,h1,h2,h3,h4⟩
   · exact zgt h5 hm
section
variable {H : Type} {enc : TypeId × Value → H} {P : Program} {w : World} {base : Nat} {sp : Nat → Bool} {held : Bool} {n : Nat} {t e : TypeId} {cs : List Value} {ps : List MemPlace}
theorem zkw {k:IntKind} {ns:List Int} {m:Nat} (ht:P.underlying t=some (.array m e)) (he:P.underlying e=some (.int k)) (hc:P.cellsOf e=1)
 (h:DataW.trod enc P w base sp held n t cs=some (.agg (ns.map fun z=>.lit (.int k z)),ps)):∀i,i<ns.length→cs[i]?=some (.int k (ns.getD i 0)):=by
 obtain ⟨xs,q,_,hx,hl,hxl,hf⟩:=DataW.trod_array ht h
 simp only [Prod.mk.injEq,DataW.agg.injEq] at hx
 intro i hi
 have hxs:xs.length=ns.length:=by have:=congrArg List.length hx.1; simpa using this.symm
 have h1:=hf i (by omega)
 rw [hc,Nat.mul_one,List.getElem?_eq_getElem (by omega)] at h1
 have h2:xs[i].1=.lit (.int k ns[i]):=by
  have:=congrArg (fun l:List (DataW H)=>l[i]?) hx.1
  simp only [List.getElem?_map] at this
  rw [List.getElem?_eq_getElem hi,List.getElem?_eq_getElem (by omega)] at this
  exact (Option.some.inj this).symm
 obtain ⟨z,e1,e2,_⟩:=DataW.trod_int he h1
 rw [e2] at h2
 have hz:z=ns[i]:=by simpa using h2
 have h3:((cs.drop i).take 1)[0]?=some (.int k z):=by rw [e1]; rfl
 rw [hz] at h3
 have e4:ns.getD i 0=ns[i]:=by rw [List.getD_eq_getElem?_getD,List.getElem?_eq_getElem hi]; rfl
 rw [e4]
 simpa [List.getElem?_take,List.getElem?_drop] using h3
theorem zvg {cs a:List Value} {o k j:Nat} {v:Value} (h:(cs.drop o).take k=a) (hv:a[j]?=some v):cs[o+j]?=some v:=by
 rw [←h] at hv
 rw [List.getElem?_take] at hv
 split at hv
 · rw [List.getElem?_drop] at hv; exact hv
 · cases hv
theorem zle {k:IntKind} {z:Int} (he:P.underlying t=some (.int k)) (h:DataW.trod enc P w base sp held n t cs=some (.lit (.int k z),ps)):cs=[.int k z]:=by
 obtain ⟨y,e1,e2,_⟩:=DataW.trod_int he h
 simp only [Prod.mk.injEq,DataW.lit.injEq,Lit.int.injEq] at e2
 rw [e1,e2.1.2]
theorem zmm {b:Bool} (he:P.underlying t=some .bool) (h:DataW.trod enc P w base sp held n t cs=some (.lit (.bool b),ps)):cs=[.bool b]:=by
 obtain ⟨y,e1,e2⟩:=DataW.trod_bool he h
 simp only [Prod.mk.injEq,DataW.lit.injEq,Lit.bool.injEq] at e2
 rw [e1,e2.1]
end
theorem zq7 (g i:Nat):(⟨g,0,none⟩:Addr).add i=⟨g,i,none⟩:=by
 have h1:=zbf (⟨g,0,none⟩:Addr) i
 have h2:=zcl (⟨g,0,none⟩:Addr) i
 have h3:=zdd (a:=(⟨g,0,none⟩:Addr)) rfl i
 cases hh:(⟨g,0,none⟩:Addr).add i with
 | mk a b c=>
   rw [hh] at h1 h2 h3
   simp only at h1 h2 h3
   subst h1 h2 h3
   simp
theorem gP10:Tryz.prog.globalNamed "internal/strconv.uint64pow10"=some 3:=by kernel_rfl
theorem gOps:Tryz.prog.globalNamed "setsquare/formula.operands"=some 2:=by kernel_rfl
theorem gTab:Tryz.prog.globalNamed "setsquare/constraint.table"=some 1:=by kernel_rfl
theorem tP10:(Tryz.prog.globals[3]?).map (·.type)=some 269:=by kernel_rfl
theorem tOps:(Tryz.prog.globals[2]?).map (·.type)=some 219:=by kernel_rfl
theorem tTab:(Tryz.prog.globals[1]?).map (·.type)=some 171:=by kernel_rfl
theorem c_u64:Tryz.prog.cellsOf 190=1:=by kernel_rfl
theorem c_ent:Tryz.prog.cellsOf 170=8:=by kernel_rfl
theorem c_shp:Tryz.prog.cellsOf 124=7:=by kernel_rfl
section
variable {W : World}
theorem za8e {H:Type} {enc:TypeId×Value→H} {n:Nat} {c:List Value} {nm:DataW H} {a b d e:Int} {f g k:Bool} {ps:List MemPlace}
 (h:DataW.trod enc Tryz.prog W 0 (fun _=>true) false n 170 c=some (.agg [nm,.agg [.lit (.int .i64 a),.lit (.int .i64 b),.lit (.int .i64 d),.lit (.int .i64 e),.lit (.bool f),.lit (.bool g),.lit (.bool k)]],ps)) :
 ∀j v,([.int .i64 a,.int .i64 b,.int .i64 d,.int .i64 e,.bool f,.bool g,.bool k]:List Value)[j]?=some v→c[1+j]?=some v:=by
 obtain ⟨xs,m,_,hx,hl,hxl,hf⟩:=DataW.trod_struct Tryz.underlying170 h
 simp only [Prod.mk.injEq,DataW.agg.injEq] at hx
 have h1:DataW.trod enc Tryz.prog W 0 (fun _=>true) false m 124 ((c.drop 1).take (Tryz.prog.cellsOf 124))=xs[1]?:=hf 1 _ rfl
 rw [c_shp] at h1
 match xs,hx with
 | [x0,x1],hx=>
   simp only [List.map_cons,List.map_nil,List.cons.injEq,and_true] at hx
   obtain ⟨⟨_,hx1⟩,_⟩:=hx
   simp only [List.getElem?_cons_succ,List.getElem?_cons_zero] at h1
   obtain ⟨d1,p1⟩:=x1
   simp only at hx1
   subst hx1
   obtain ⟨ys,q,_,hy,hyl,hyl2,hg⟩:=DataW.trod_struct Tryz.underlying124 h1
   simp only [Prod.mk.injEq,DataW.agg.injEq] at hy
   match ys,hy with
   | [y0,y1,y2,y3,y4,y5,y6],hy=>
     simp only [List.map_cons,List.map_nil,List.cons.injEq,and_true] at hy
     obtain ⟨⟨z0,z1,z2,z3,z4,z5,z6⟩,_⟩:=hy
     have g0:DataW.trod enc Tryz.prog W 0 (fun _=>true) false q 3 ((((c.drop 1).take 7).drop 0).take (Tryz.prog.cellsOf 3))=some y0:=hg 0 _ rfl
     have g1:DataW.trod enc Tryz.prog W 0 (fun _=>true) false q 3 ((((c.drop 1).take 7).drop 1).take (Tryz.prog.cellsOf 3))=some y1:=hg 1 _ rfl
     have g2:DataW.trod enc Tryz.prog W 0 (fun _=>true) false q 3 ((((c.drop 1).take 7).drop 2).take (Tryz.prog.cellsOf 3))=some y2:=hg 2 _ rfl
     have g3:DataW.trod enc Tryz.prog W 0 (fun _=>true) false q 3 ((((c.drop 1).take 7).drop 3).take (Tryz.prog.cellsOf 3))=some y3:=hg 3 _ rfl
     have g4:DataW.trod enc Tryz.prog W 0 (fun _=>true) false q 4 ((((c.drop 1).take 7).drop 4).take (Tryz.prog.cellsOf 4))=some y4:=hg 4 _ rfl
     have g5:DataW.trod enc Tryz.prog W 0 (fun _=>true) false q 4 ((((c.drop 1).take 7).drop 5).take (Tryz.prog.cellsOf 4))=some y5:=hg 5 _ rfl
     have g6:DataW.trod enc Tryz.prog W 0 (fun _=>true) false q 4 ((((c.drop 1).take 7).drop 6).take (Tryz.prog.cellsOf 4))=some y6:=hg 6 _ rfl
     rw [c_int] at g0 g1 g2 g3
     rw [zq8] at g4 g5 g6
     obtain ⟨u0,w0⟩:=y0; obtain ⟨u1,w1⟩:=y1; obtain ⟨u2,w2⟩:=y2; obtain ⟨u3,w3⟩:=y3; obtain ⟨u4,w4⟩:=y4; obtain ⟨u5,w5⟩:=y5; obtain ⟨u6,w6⟩:=y6
     simp only at z0 z1 z2 z3 z4 z5 z6
     subst z0 z1 z2 z3 z4 z5 z6
     have r0:=zle Tryz.underlying3 g0
     have r1:=zle Tryz.underlying3 g1
     have r2:=zle Tryz.underlying3 g2
     have r3:=zle Tryz.underlying3 g3
     have r4:=zmm Tryz.underlying4 g4
     have r5:=zmm Tryz.underlying4 g5
     have r6:=zmm Tryz.underlying4 g6
     have hall:(c.drop 1).take 7=[.int .i64 a,.int .i64 b,.int .i64 d,.int .i64 e,.bool f,.bool g,.bool k]:=by
      have hl7:((c.drop 1).take 7).length=7:=by rw [c_shp] at hyl; exact hyl
      exact zaf r0 (zaf r1 (zaf r2 (zaf r3 (zaf r4 (zaf r5 (zaf r6 (zdr hl7)))))))
     intro j v hv
     exact zvg hall hv
def pow20:List Int:=[1,10,100,1000,10000,100000,1000000,10000000,100000000,1000000000,10000000000,100000000000,1000000000000,10000000000000,100000000000000,1000000000000000,10000000000000000,100000000000000000,1000000000000000000,10000000000000000000]
theorem za5e:∀i:Fin 20,pow20.getD i 0=((10 ^ (i:Nat):Nat):Int):=by decide
theorem gt_of {l:List (String×DataW Unit)} (h:laidMet Tryz.prog l W) (h1:("internal/strconv.uint64pow10",Rows.laid_internal_strconv_uint64pow10)∈l)
 (h2:("setsquare/formula.operands",Rows.laid_setsquare_formula_operands)∈l) (h3:("setsquare/constraint.table",Rows.laid_setsquare_constraint_table)∈l):GT (hpW W):=by
 obtain ⟨ps,hv,_⟩:=h
 refine ⟨fun i hi=>?_,fun i hi=>?_,fun k hk1 hk2=>?_⟩
 · obtain ⟨g,t,cs,fuel,p,hg,ht,hvar,hd⟩:=zgt hv h1
   obtain rfl:=Option.some.inj (gP10.symm.trans hg)
   obtain rfl:=Option.some.inj (tP10.symm.trans ht)
   have hd':DataW.trod (fun _=>()) Tryz.prog W 0 (fun _=>true) false fuel 269 cs.toList=some (.agg (pow20.map fun z=>.lit (.int .u64 z)),p):=hd
   have:=zkw Tryz.underlying269 Tryz.underlying190 c_u64 hd' i hi
   rw [zkv,zq7,World.var?_cell hg hvar i,←Array.getElem?_toList,this]
   have e:=za5e ⟨i,hi⟩
   rw [←e]
 · obtain ⟨g,t,cs,fuel,p,hg,ht,hvar,hd⟩:=zgt hv h2
   obtain rfl:=Option.some.inj (gOps.symm.trans hg)
   obtain rfl:=Option.some.inj (tOps.symm.trans ht)
   have hd':DataW.trod (fun _=>()) Tryz.prog W 0 (fun _=>true) false fuel 219 cs.toList=some (.agg (([0,0,0,1,2,2,2,2]:List Int).map fun z=>.lit (.int .i64 z)),p):=hd
   have:=zkw Tryz.underlying219 Tryz.underlying3 c_int hd' i hi
   rw [zkv,zq7,World.var?_cell hg hvar i,←Array.getElem?_toList,this]
 · obtain ⟨g,t,cs,fuel,p,hg,ht,hvar,hd⟩:=zgt hv h3
   obtain rfl:=Option.some.inj (gTab.symm.trans hg)
   obtain rfl:=Option.some.inj (tTab.symm.trans ht)
   obtain ⟨xs,q,_,hx,hl,hxl,hf⟩:=DataW.trod_array Tryz.underlying171 hd
   simp only [Prod.mk.injEq] at hx
   have hk:=hf k (by omega)
   rw [c_ent] at hk
   rw [List.getElem?_eq_getElem (by omega)] at hk
   have hx1:(xs.map (·.1))=(match (Rows.laid_setsquare_constraint_table:DataW Unit) with | .agg l=>l | _=>[]):=by rw [hx.1]
   have hxk:(xs[k]'(by omega)).1=((match (Rows.laid_setsquare_constraint_table:DataW Unit) with | .agg l=>l | _=>[]):List (DataW Unit)).getD k .nil:=by
    rw [←hx1,List.getD_eq_getElem?_getD,List.getElem?_map,List.getElem?_eq_getElem (by omega)]
    rfl
   have fin:∀(nm:DataW Unit) (a b d e:Int) (f g kk:Bool),(xs[k]'(by omega)).1=.agg [nm,.agg [.lit (.int .i64 a),.lit (.int .i64 b),.lit (.int .i64 d),.lit (.int .i64 e),.lit (.bool f),.lit (.bool g),.lit (.bool kk)]] →
    ((shK k).1:Int)=a→((shK k).2.1:Int)=b→((shK k).2.2.1:Int)=d→((shK k).2.2.2.1:Int)=e→(shK k).2.2.2.2=f →
    ∃ln ps:Bool,∀j v,([.int .i64 ((shK k).1:Int),.int .i64 ((shK k).2.1:Int),.int .i64 ((shK k).2.2.1:Int),.int .i64 ((shK k).2.2.2.1:Int),.bool (shK k).2.2.2.2,.bool ln,.bool ps]:List Value)[j]?=some v →
     (hpW W).cell ((((⟨1,0,none⟩:Addr).add (k*8)).add 1).add j)=some v:=by
    intro nm a b d e f g kk he ea eb ed ee ef
    refine ⟨g,kk,fun j v hv=>?_⟩
    have hk':DataW.trod (fun _=>()) Tryz.prog W 0 (fun _=>true) false q 170 ((cs.toList.drop (k*8)).take 8)=some (.agg [nm,.agg [.lit (.int .i64 a),.lit (.int .i64 b),.lit (.int .i64 d),.lit (.int .i64 e),.lit (.bool f),.lit (.bool g),.lit (.bool kk)]],(xs[k]'(by omega)).2):=by
     rw [hk]
     congr 1
     exact Prod.ext he rfl
    rw [ea,eb,ed,ee,ef] at hv
    have h5:=za8e hk' j v hv
    have h6:cs.toList[k*8+(1+j)]?=some v:=zvg rfl h5
    rw [zkv,zcn,zcn,zq7,World.var?_cell hg hvar,←Array.getElem?_toList]
    exact h6
   clear hd hf hk hl hx hx1
   rcases (by omega:k=1∨k=2∨k=3∨k=4∨k=5∨k=6∨k=7∨k=8∨k=9∨k=10∨k=11∨k=12∨k=13∨k=14∨k=15∨k=16∨k=17) with rfl | rfl | rfl | rfl | rfl | rfl | rfl | rfl | rfl | rfl | rfl | rfl | rfl | rfl | rfl | rfl | rfl <;>
    exact fin _ _ _ _ _ _ _ _ hxk rfl rfl rfl rfl rfl
end
end Den
end

section
namespace Den
open Go Iv Lx
section
variable {h : Hp} {s : TSketch} {S : PSk} {Kb : Bool → Hp → Prop} {Ki : Int → Hp → Prop} {l : Sl}
theorem zkj {b:Bool} {P:Prop} (h:b=true↔¬P):(!b)=true↔P:=by
 rw [Bool.not_eq_true',←Bool.not_eq_true,h]
 exact ⟨fun hh=>Classical.byContradiction hh,fun hh hn=>hn hh⟩
theorem zvv {ps:List (Option Rat×Option Rat)} (hx:LR ptc 8 PTT h l ps) (hlen:ps.length≤1000000) (H:∀b h',h.le h'→(b=true↔∀p∈ps,VP p)→Kb b h'):callP (F.zc7 l) Kb h:=by
 refine za1 (fun b h'=>(b=true↔∀p∈ps,VP p)) (fun K' hk=>?_) fun b h' hl hb=>H b h' hl hb
 unfold F.zc7
 refine zdg fun a h1 hl1 hc1=>?_
 have hl:=hx.len zcs
 refine za1 (fun b h'=>(b=true↔¬∀p∈ps,VP p)) (fun K2 hk2=>?_) fun b h' hl hb=>hk _ _ (Hp.le_trans hl1 hl) (zkj hb)
 unfold F.zan
 refine za1 (fun r h'=>(0≤r↔¬∀p∈ps,VP p)) (fun K3 hk3=>?_) fun r h' hl hr=>hk2 _ _ hl (by rw [decide_eq_true_iff]; exact hr)
 unfold F.zas
 refine zjr (n:=ps.length) (g:=fun i=>∃h:i<ps.length,¬VP ps[i]) (by omega) (fun i h' k hl' hi' hb=>?_) (fun h' k hk=>za0 (fun hh=>by simp only at hh; omega) (fun _=>hk)) (fun r h' hl hr=>hk3 _ _ hl (by rw [hr,zm6]))
 refine za0 (fun _=>?_) (fun hh=>by simp only at hh; omega)
 refine (hx.le zcs (Hp.le_trans hl1 hl')).get zcs i rfl hi' fun b x hxx hc=>?_
 refine ⟨_,hc 0 _ rfl,_,hc 1 _ rfl,_,hc 2 _ rfl,_,hc 3 _ rfl,_,hc 4 _ rfl,_,hc 5 _ rfl,_,hc 6 _ rfl,_,hc 7 _ rfl,?_⟩
 refine za1 (fun b h'=>(b=true↔¬VP ps[i])) (fun K4 hk4=>?_) fun b h'' hl'' hbb=>hb b h'' hl'' (by rw [hbb]; exact ⟨fun hh=>⟨hi',hh⟩,fun ⟨_,hh⟩=>hh⟩)
 unfold F.zcj
 refine ⟨_,Hp.cell_le hl' hc1,rfl,?_⟩
 refine za1 (fun b h'=>(b=true↔VP ps[i])) (fun K5 hk5=>?_) fun b h'' hl'' hbb=>hk4 _ _ hl'' (by rw [Bool.not_eq_true',←Bool.not_eq_true,hbb])
 unfold F.zj4
 refine zom hxx.1 fun h2 hl2=>?_
 refine za7 (fun h3=>zom (hxx.2.le hl2) fun h4 hl4=>hk5 _ _ (Hp.le_trans hl2 hl4) ⟨fun hh=>⟨h3,hh⟩,fun hh=>hh.2⟩) (fun h3=>hk5 _ _ hl2 ⟨fun hh=>(by cases hh),fun hh=>by rw [hh.1] at h3; cases h3⟩)
theorem posq {q:Rat}:q.num.sign>0↔0<q.num:=by
 constructor
 · intro hh; exact Int.sign_pos_iff.1 hh
 · intro hh; exact Int.sign_pos_iff.2 hh
theorem zwo {x:TRat} {q:Rat} (hx:NR h x q) (hl1:x.num.mag.len≤35184372087808) (H:Ki q.num.sign h):callP (F.zem x) Ki h:=
 zah _ (fun K' hk=>zmk hx.1 (zkx hx.1 hl1) hk) H
theorem zvw {ps:List (Int×Option Rat)} {a0:Addr} (hx:LR rdc 5 RN h l ps) (hlen:ps.length≤1000000) (h0:h.cell a0=some (.int .i64 (S.pts.length:Int))) (H:∀b h',h.le h'→(b=true↔∀p∈ps,VR S p)→Kb b h'):callP (F.zc8 l (some a0,())) Kb h:=by
 refine za1 (fun b h'=>(b=true↔∀p∈ps,VR S p)) (fun K' hk=>?_) fun b h' hl hb=>H b h' hl hb
 unfold F.zc8
 refine zdg fun a h1 hl1 hc1=>?_
 have hl:=hx.len zdw
 refine za1 (fun b h'=>(b=true↔¬∀p∈ps,VR S p)) (fun K2 hk2=>?_) fun b h' hl hb=>hk _ _ (Hp.le_trans hl1 hl) (zkj hb)
 unfold F.zao
 refine za1 (fun r h'=>(0≤r↔¬∀p∈ps,VR S p)) (fun K3 hk3=>?_) fun r h' hl hr=>hk2 _ _ hl (by rw [decide_eq_true_iff]; exact hr)
 unfold F.zat
 refine zjr (n:=ps.length) (g:=fun i=>∃h:i<ps.length,¬VR S ps[i]) (by omega) (fun i h' k hl' hi' hb=>?_) (fun h' k hk=>za0 (fun hh=>by simp only at hh; omega) (fun _=>hk)) (fun r h' hl hr=>hk3 _ _ hl (by rw [hr,zm6]))
 refine za0 (fun _=>?_) (fun hh=>by simp only at hh; omega)
 refine (hx.le zdw (Hp.le_trans hl1 hl')).get zdw i rfl hi' fun b x hxx hc=>?_
 refine ⟨_,hc 0 _ rfl,_,hc 1 _ rfl,_,hc 2 _ rfl,_,hc 3 _ rfl,_,hc 4 _ rfl,?_⟩
 refine za1 (fun b h'=>(b=true↔¬VR S ps[i])) (fun K4 hk4=>?_) fun b h'' hl'' hbb=>hb b h'' hl'' (by rw [hbb]; exact ⟨fun hh=>⟨hi',hh⟩,fun ⟨_,hh⟩=>hh⟩)
 unfold F.zck
 refine ⟨_,Hp.cell_le hl' hc1,some a0,rfl,?_⟩
 refine za1 (fun b h'=>(b=true↔VR S ps[i])) (fun K5 hk5=>?_) fun b h'' hl'' hbb=>hk4 _ _ hl'' (by rw [Bool.not_eq_true',←Bool.not_eq_true,hbb])
 unfold F.zj5
 refine ⟨_,Hp.cell_le (Hp.le_trans hl1 hl') h0,?_⟩
 have hx1:=hxx.1
 have hx2:=hxx.2
 have no:∀h'',h'.le h''→¬VR S ps[i]→K5 false h'':=fun h'' hl hn=>hk5 _ _ hl ⟨fun hh=>(by cases hh),fun hh=>absurd hh hn⟩
 simp only
 rw [hx1]
 refine zhv fun b hb=>?_
 refine za7 (fun h2=>?_) (fun h2=>no _ (Hp.le_refl _) fun hv=>by rw [hb.2 hv.1] at h2; cases h2)
 refine zom hx2 fun h3 hl3=>?_
 refine za7 (fun h4=>?_) (fun h4=>no _ hl3 fun hv=>by obtain ⟨q,hq,_⟩:=hv.2; rw [hq] at h4; cases h4)
 obtain ⟨q,hq⟩:=Option.isSome_iff_exists.1 h4
 rw [hq] at hx2
 refine zwo (hx2.nr.le hl3) hx2.2.1 (hk5 _ _ hl3 ?_)
 rw [decide_eq_true_iff,posq]
 exact ⟨fun hh=>⟨hb.1 h2,q,hq,hh⟩,fun hh=>by obtain ⟨q',hq',h5⟩:=hh.2; rw [hq] at hq'; cases hq'; exact h5⟩
theorem zvx {ps:List TSegment} {a0:Addr} (hx:LR sgc 2 eqP h l ps) (hlen:ps.length≤1000000) (h0:h.cell a0=some (.int .i64 (S.pts.length:Int))) (H:∀b h',h.le h'→(b=true↔∀p∈ps,VG S p)→Kb b h'):callP (F.zbw l (some a0,())) Kb h:=by
 refine za1 (fun b h'=>(b=true↔∀p∈ps,VG S p)) (fun K' hk=>?_) fun b h' hl hb=>H b h' hl hb
 unfold F.zbw
 refine zdg fun a h1 hl1 hc1=>?_
 have hl:=hx.len zik
 refine za1 (fun b h'=>(b=true↔¬∀p∈ps,VG S p)) (fun K2 hk2=>?_) fun b h' hl hb=>hk _ _ (Hp.le_trans hl1 hl) (zkj hb)
 unfold F.zaj
 refine za1 (fun r h'=>(0≤r↔¬∀p∈ps,VG S p)) (fun K3 hk3=>?_) fun r h' hl hr=>hk2 _ _ hl (by rw [decide_eq_true_iff]; exact hr)
 unfold F.zak
 refine zjr (n:=ps.length) (g:=fun i=>∃h:i<ps.length,¬VG S ps[i]) (by omega) (fun i h' k hl' hi' hb=>?_) (fun h' k hk=>za0 (fun hh=>by simp only at hh; omega) (fun _=>hk)) (fun r h' hl hr=>hk3 _ _ hl (by rw [hr,zm6]))
 refine za0 (fun _=>?_) (fun hh=>by simp only at hh; omega)
 refine (hx.le zik (Hp.le_trans hl1 hl')).get zik i rfl hi' fun b x hxx hc=>?_
 refine ⟨_,hc 0 _ rfl,_,hc 1 _ rfl,?_⟩
 have hxx:x=ps[i]:=hxx
 subst hxx
 refine za1 (fun b h'=>(b=true↔¬VG S ps[i])) (fun K4 hk4=>?_) fun b h'' hl'' hbb=>hb b h'' hl'' (by rw [hbb]; exact ⟨fun hh=>⟨hi',hh⟩,fun ⟨_,hh⟩=>hh⟩)
 unfold F.zce
 refine ⟨_,Hp.cell_le hl' hc1,some a0,rfl,?_⟩
 refine za1 (fun b h'=>(b=true↔VG S ps[i])) (fun K5 hk5=>?_) fun b h'' hl'' hbb=>hk4 _ _ hl'' (by rw [Bool.not_eq_true',←Bool.not_eq_true,hbb])
 unfold F.zj6
 have c0:=Hp.cell_le (Hp.le_trans hl1 hl') h0
 have no:¬VG S ps[i]→K5 false h':=fun hn=>hk5 _ _ (Hp.le_refl _) ⟨fun hh=>(by cases hh),fun hh=>absurd hh hn⟩
 refine ⟨_,c0,?_⟩
 refine zhv fun b hb=>?_
 refine za7 (fun h2=>?_) (fun h2=>no fun hv=>by rw [hb.2 hv.1] at h2; cases h2)
 refine ⟨_,c0,?_⟩
 refine zhv fun b3 hb3=>?_
 refine za7 (fun h4=>?_) (fun h4=>no fun hv=>by rw [hb3.2 hv.2.1] at h4; cases h4)
 refine hk5 _ _ (Hp.le_refl _) ?_
 rw [bne_iff_ne]
 exact ⟨fun hh=>⟨hb.1 h2,hb3.1 h4,hh⟩,fun hh=>hh.2.2⟩
theorem za6i {i:Int} {K:Int→Prop} (hx:SK h s S) (hi:hasP S.cir.length i) (H:K (cen S i)):idxP s.circles i 5 fun a=>ldL (.int .i64) (a.add 0) K h:=by
 obtain ⟨h0,h1⟩:=hi
 have hk:i.toNat<S.cir.length:=by omega
 refine hx.2.1.get zdw i.toNat (by omega) hk fun a x hxx hc=>⟨_,hc 0 _ rfl,?_⟩
 rw [hxx.1]
 unfold cen at H
 rw [List.getD_eq_getElem?_getD,List.getElem?_eq_getElem hk] at H
 exact H
theorem zt1 {a:TArc} (hx:SK h s S) (H:∀b,(b=true↔VA S a)→Kb b h):callP (F.zgj s a) Kb h:=by
 refine za1 (fun b h'=>h'=h∧(b=true↔VA S a)) (fun K' hk=>?_) fun b h' _ hb=>by obtain ⟨rfl,hb⟩:=hb; exact H b hb
 unfold F.zgj
 have l1:=hx.1.len zcs
 have l2:=hx.2.1.len zdw
 have no:¬VA S a→K' false h:=fun hn=>hk _ _ (Hp.le_refl _) ⟨rfl,fun hh=>(by cases hh),fun hh=>absurd hh hn⟩
 refine za3 (fun _ h'=>h'=h∧hasP S.cir.length a.circle∧hasP S.pts.length a.a∧hasP S.pts.length a.b) ?_ ?_
 · rintro _ h ⟨rfl,g1,g2,g3⟩
   refine za6i hx g1 ?_
   refine zb7 (fun h1=>hk _ _ (Hp.le_refl _) ⟨rfl,?_⟩) (fun h1=>no fun hv=>hv.2.2.2.1 h1)
   rw [bne_iff_ne]
   exact ⟨fun hh=>⟨g1,g2,g3,h1,hh⟩,fun hh=>hh.2.2.2.2⟩
 · rw [l1,l2]
   refine zhv fun b hb=>za7 (fun h2=>no fun hv=>by rw [hb.2 hv.1] at h2; cases h2) fun h2=>?_
   refine zhv fun b3 hb3=>za7 (fun h4=>no fun hv=>by rw [hb3.2 hv.2.1] at h4; cases h4) fun h4=>?_
   refine zhv fun b5 hb5=>za7 (fun h6=>no fun hv=>by rw [hb5.2 hv.2.2.1] at h6; cases h6) fun h6=>?_
   exact ⟨rfl,hb.1 (by simpa using h2),hb3.1 (by simpa using h4),hb5.1 (by simpa using h6)⟩
def SKC (h:Hp) (a:Addr) (s:TSketch):Prop:=∀i v,([Lf.sl.up s.points,Lf.sl.up s.circles,Lf.sl.up s.segments,Lf.sl.up s.arcs,Lf.sl.up s.chains,Lf.sl.up s.constraints]:List Value)[i]?=some v→h.cell (a.add i)=some v
theorem SKC.le {h h':Hp} {a:Addr} {s:TSketch} (hx:SKC h a s) (hl:h.le h'):SKC h' a s:=fun i v hv=>Hp.cell_le hl (hx i v hv)
theorem zvs {ps:List TArc} {a0:Addr} (hx:LR arcc 4 eqP h l ps) (hlen:ps.length≤1000000) (h0:SKC h a0 s) (hS:SK h s S) (H:∀b h',h.le h'→(b=true↔∀p∈ps,VA S p)→Kb b h'):callP (F.zcb l (some a0,())) Kb h:=by
 refine za1 (fun b h'=>(b=true↔∀p∈ps,VA S p)) (fun K' hk=>?_) fun b h' hl hb=>H b h' hl hb
 unfold F.zcb
 refine zdg fun a h1 hl1 hc1=>?_
 have hl:=hx.len zei
 refine za1 (fun b h'=>(b=true↔¬∀p∈ps,VA S p)) (fun K2 hk2=>?_) fun b h' hl hb=>hk _ _ (Hp.le_trans hl1 hl) (zkj hb)
 unfold F.zaw
 refine za1 (fun r h'=>(0≤r↔¬∀p∈ps,VA S p)) (fun K3 hk3=>?_) fun r h' hl hr=>hk2 _ _ hl (by rw [decide_eq_true_iff]; exact hr)
 unfold F.zay
 refine zjr (n:=ps.length) (g:=fun i=>∃h:i<ps.length,¬VA S ps[i]) (by omega) (fun i h' k hl' hi' hb=>?_) (fun h' k hk=>za0 (fun hh=>by simp only at hh; omega) (fun _=>hk)) (fun r h' hl hr=>hk3 _ _ hl (by rw [hr,zm6]))
 refine za0 (fun _=>?_) (fun hh=>by simp only at hh; omega)
 refine (hx.le zei (Hp.le_trans hl1 hl')).get zei i rfl hi' fun b x hxx hc=>?_
 refine ⟨_,hc 0 _ rfl,_,hc 1 _ rfl,_,hc 2 _ rfl,_,hc 3 _ rfl,?_⟩
 have hxx:x=ps[i]:=hxx
 subst hxx
 refine za1 (fun b h'=>(b=true↔¬VA S ps[i])) (fun K4 hk4=>?_) fun b h'' hl'' hbb=>hb b h'' hl'' (by rw [hbb]; exact ⟨fun hh=>⟨hi',hh⟩,fun ⟨_,hh⟩=>hh⟩)
 unfold F.zcp
 refine ⟨_,Hp.cell_le hl' hc1,some a0,rfl,?_⟩
 refine za1 (fun b h'=>(b=true↔VA S ps[i])) (fun K5 hk5=>?_) fun b h'' hl'' hbb=>hk4 _ _ hl'' (by rw [Bool.not_eq_true',←Bool.not_eq_true,hbb])
 unfold F.zj7
 have c0:=h0.le (Hp.le_trans hl1 hl')
 refine ⟨_,c0 0 _ rfl,_,c0 1 _ rfl,_,c0 2 _ rfl,_,c0 3 _ rfl,_,c0 4 _ rfl,_,c0 5 _ rfl,?_⟩
 exact zt1 (s:=s) (hS.le (Hp.le_trans hl1 hl')) fun b hb=>hk5 _ _ (Hp.le_refl _) hb
theorem zr8 {ps:List TPiece} (hx:SK h s S) (hc:LR pic 3 eqP h l ps) (hlen:ps.length≤1000) (hs:sSk S) (H:∀b,(b=true↔VCh S ps)→Kb b h):callP (F.zf3 s l) Kb h:=by
 refine za1 (fun b h'=>h'=h∧(b=true↔VCh S ps)) (fun K' hk=>?_) fun b h' _ hb=>by obtain ⟨rfl,hb⟩:=hb; exact H b hb
 unfold F.zf3
 have l3:=hx.2.2.1.len zik
 have l4:=hx.2.2.2.1.len zei
 have lc:=hc.len zo4
 have no:¬VCh S ps→K' false h:=fun hn=>hk _ _ (Hp.le_refl _) ⟨rfl,fun hh=>(by cases hh),fun hh=>absurd hh hn⟩
 refine zbz (n:=ps.length) (by omega) (fun i a h'=>h'=h∧(∀j (hj:j<ps.length),j<i→okP S ps[j])∧(∀j (hj:j+1<ps.length),j+1<i→(endsP S ps[j]).2=(endsP S ps[j+1]).1)∧∀j (hj:j<ps.length),j+1=i→a=(endsP S ps[j]).2) ⟨rfl,fun j _ hj=>by omega,fun j _ hj=>by omega,fun j _ hj=>by omega⟩ ?_
 rintro i a h hi ⟨rfl,g1,g2,g3⟩ k hk2
 refine za0 (fun h2=>?_) (fun h2=>?_)
 · have hi':i<ps.length:=by simp only at h2; omega
   refine za3 (fun st h'=>h'=h∧okP S ps[i]∧(∀j (hj:j<ps.length),j+1=i→(endsP S ps[j]).2=(endsP S ps[i]).1)∧st.1=(endsP S ps[i]).2) ?_ ?_
   · rintro ⟨z,_⟩ h ⟨rfl,k1,k2,k3⟩
     refine hk2 _ _ hi' ⟨rfl,fun j hj hji=>?_,fun j hj hji=>?_,fun j hj hji=>?_⟩
     · rcases Nat.lt_or_ge j i with h5 | h5
       · exact g1 j hj h5
       · have:j=i:=by omega
         subst this; exact k1
     · rcases Nat.lt_or_ge (j+1) i with h5 | h5
       · exact g2 j hj h5
       · have:j+1=i:=by omega
         subst this; exact k2 j (by omega) rfl
     · have:j=i:=by omega
       subst this; exact k3
   · refine hc.get zo4 i rfl hi' fun b x hxx hcc=>?_
     refine ⟨_,hcc 0 _ rfl,_,hcc 1 _ rfl,_,hcc 2 _ rfl,?_⟩
     have hxx:x=ps[i]:=hxx
     rw [←hxx]
     refine za3 (fun st h'=>h'=h∧st.1=(((if x.arc=true then S.arc.length else S.seg.length):Nat):Int)) ?_ ?_
     · rintro ⟨z,_⟩ h ⟨rfl,hz⟩
       simp only at hz
       subst hz
       refine zhv fun b hb=>za7 (fun h4=>no fun hv=>?_) fun h4=>?_
       · have:=hv.2.1 _ (List.getElem_mem hi')
         rw [←hxx] at this
         rw [hb.2 this] at h4; cases h4
       have hok:okP S x:=hb.1 (by simpa using h4)
       refine zz8 hx (p:=x) hok ?_
       refine za0 (fun h5=>?_) (fun h5=>⟨rfl,hok,fun j hj hji=>by simp only at h5; omega,rfl⟩)
       simp only at h5
       obtain ⟨j,rfl⟩:∃j,i=j+1:=⟨i-1,by omega⟩
       have ha:=g3 j (by omega) rfl
       refine zb7 (fun h6=>no fun hv=>?_) (fun h6=>⟨rfl,hok,fun j' hj' hji=>?_,rfl⟩)
       · have:=hv.2.2 j hi'
         rw [←hxx] at this
         simp only at h6
         rw [ha] at h6
         exact h6 this.symm
       · have:j'=j:=by omega
         subst this
         simp only at h6
         rw [←ha,h6]
     · refine za7 (fun h3=>⟨rfl,?_⟩) (fun h3=>⟨rfl,?_⟩)
       · simp only; rw [if_pos h3,l4]
       · simp only; rw [h3,l3]; rfl
 · have hi':i=ps.length:=by simp only at h2; omega
   subst hi'
   refine hk _ _ (Hp.le_refl _) ⟨rfl,?_⟩
   rw [decide_eq_true_iff]
   constructor
   · intro hh
     refine ⟨fun h0=>by rw [h0] at lc; simp at lc; omega,fun p hp=>?_,fun j hj=>g2 j hj (by omega)⟩
     obtain ⟨j,hj,rfl⟩:=List.mem_iff_getElem.1 hp
     exact g1 j hj hj
   · intro hh
     have:=List.length_pos_iff.2 hh.1
     omega
theorem zvt {ps:List (List TPiece)} {a0:Addr} (hx:LR slc 1 CHN h l ps) (hlen:ps.length≤1000000) (hp20:∀c∈ps,c.length≤20) (h0:SKC h a0 s) (hS:SK h s S) (hs:sSk S) (H:∀b h',h.le h'→(b=true↔∀p∈ps,VCh S p)→Kb b h'):callP (F.zc6 l (some a0,())) Kb h:=by
 refine za1 (fun b h'=>(b=true↔∀p∈ps,VCh S p)) (fun K' hk=>?_) fun b h' hl hb=>H b h' hl hb
 unfold F.zc6
 refine zdg fun a h1 hl1 hc1=>?_
 have hl:=hx.len zh5
 refine za1 (fun b h'=>(b=true↔¬∀p∈ps,VCh S p)) (fun K2 hk2=>?_) fun b h' hl hb=>hk _ _ (Hp.le_trans hl1 hl) (zkj hb)
 unfold F.zam
 refine za1 (fun r h'=>(0≤r↔¬∀p∈ps,VCh S p)) (fun K3 hk3=>?_) fun r h' hl hr=>hk2 _ _ hl (by rw [decide_eq_true_iff]; exact hr)
 unfold F.zar
 refine zjr (n:=ps.length) (g:=fun i=>∃h:i<ps.length,¬VCh S ps[i]) (by omega) (fun i h' k hl' hi' hb=>?_) (fun h' k hk=>za0 (fun hh=>by simp only at hh; omega) (fun _=>hk)) (fun r h' hl hr=>hk3 _ _ hl (by rw [hr,zm6]))
 refine za0 (fun _=>?_) (fun hh=>by simp only at hh; omega)
 refine (hx.le zh5 (Hp.le_trans hl1 hl')).get zh5 i rfl hi' fun b x hxx hc=>?_
 have e0:=hc 0 _ rfl
 rw [zba] at e0
 refine ⟨_,e0,?_⟩
 refine za1 (fun b h'=>(b=true↔¬VCh S ps[i])) (fun K4 hk4=>?_) fun b h'' hl'' hbb=>hb b h'' hl'' (by rw [hbb]; exact ⟨fun hh=>⟨hi',hh⟩,fun ⟨_,hh⟩=>hh⟩)
 unfold F.zci
 refine ⟨_,Hp.cell_le hl' hc1,some a0,rfl,?_⟩
 refine za1 (fun b h'=>(b=true↔VCh S ps[i])) (fun K5 hk5=>?_) fun b h'' hl'' hbb=>hk4 _ _ hl'' (by rw [Bool.not_eq_true',←Bool.not_eq_true,hbb])
 unfold F.zj8
 have c0:=h0.le (Hp.le_trans hl1 hl')
 refine ⟨_,c0 0 _ rfl,_,c0 1 _ rfl,_,c0 2 _ rfl,_,c0 3 _ rfl,_,c0 4 _ rfl,_,c0 5 _ rfl,?_⟩
 exact zr8 (s:=s) (hS.le (Hp.le_trans hl1 hl')) hxx (by have:=hp20 _ (List.getElem_mem hi'); omega) hs fun b hb=>hk5 _ _ (Hp.le_refl _) hb
theorem zvu {ps:List PCon} {a0 a1:Addr} {n m:Int} (hx:LR cc 5 CO h l ps) (hlen:ps.length≤1000000) (hps:∀c∈ps,sC c) (h0:h.cell a0=some (.int .i64 n)) (h1:h.cell a1=some (.int .i64 m)) (ht:GT h) (H:∀b h',h.le h'→(b=true↔∀p∈ps,VC p n m)→Kb b h'):callP (F.zbs l (some a0,some a1,())) Kb h:=by
 refine za1 (fun b h'=>(b=true↔∀p∈ps,VC p n m)) (fun K' hk=>?_) fun b h' hl hb=>H b h' hl hb
 unfold F.zbs
 refine zdg fun a h2 hl2 hc1=>?_
 have hl:=hx.len zad
 refine za1 (fun b h'=>(b=true↔¬∀p∈ps,VC p n m)) (fun K2 hk2=>?_) fun b h' hl hb=>hk _ _ (Hp.le_trans hl2 hl) (zkj hb)
 unfold F.zag
 refine za1 (fun r h'=>(0≤r↔¬∀p∈ps,VC p n m)) (fun K3 hk3=>?_) fun r h' hl hr=>hk2 _ _ hl (by rw [decide_eq_true_iff]; exact hr)
 unfold F.zai
 refine zjr (n:=ps.length) (g:=fun i=>∃h:i<ps.length,¬VC ps[i] n m) (by omega) (fun i h' k hl' hi' hb=>?_) (fun h' k hk=>za0 (fun hh=>by simp only at hh; omega) (fun _=>hk)) (fun r h' hl hr=>hk3 _ _ hl (by rw [hr]; exact zm6 (P:=fun c=>VC c n m)))
 refine za0 (fun _=>?_) (fun hh=>by simp only at hh; omega)
 refine (hx.le zad (Hp.le_trans hl2 hl')).get zad i rfl hi' fun b x hxx hc=>?_
 refine ⟨_,hc 0 _ rfl,_,hc 1 _ rfl,_,hc 2 _ rfl,_,hc 3 _ rfl,_,hc 4 _ rfl,?_⟩
 refine za1 (fun b h'=>(b=true↔¬VC ps[i] n m)) (fun K4 hk4=>?_) fun b h'' hl'' hbb=>hb b h'' hl'' (by rw [hbb]; exact ⟨fun hh=>⟨hi',hh⟩,fun ⟨_,hh⟩=>hh⟩)
 unfold F.zca
 refine ⟨_,Hp.cell_le hl' hc1,some a0,some a1,rfl,?_⟩
 refine za1 (fun b h'=>(b=true↔VC ps[i] n m)) (fun K5 hk5=>?_) fun b h'' hl'' hbb=>hk4 _ _ hl'' (by rw [Bool.not_eq_true',←Bool.not_eq_true,hbb])
 unfold F.zj9
 have hle:=Hp.le_trans hl2 hl'
 refine ⟨_,Hp.cell_le hle h0,_,Hp.cell_le hle h1,?_⟩
 exact zw3 hxx (hps _ (List.getElem_mem hi')) (ht.le hle) fun b h'' hl hb=>hk5 _ _ hl hb
theorem zo9 (hx:SK h s S) (hs:sSk S) (ht:GT h) (H:∀r h',h.le h'→(r=0↔VS S)→(r=0∨r=1)→Ki r h'):callP (F.zeh s) Ki h:=by
 refine za1 (fun r h'=>(r=0↔VS S)∧(r=0∨r=1)) (fun K' hk0=>?_) fun b h' hl hb=>H b h' hl hb.1 hb.2
 have hk:∀v h',h.le h'→(v=0↔VS S)→(v=0∨v=1)→K' v h':=fun v h' hl h1 h2=>hk0 v h' hl ⟨h1,h2⟩
 unfold F.zeh
 refine zid fun p1 h1 hl1 hc=>?_
 have c0:SKC h1 p1 s:=hc
 have hx1:=hx.le hl1
 refine ⟨_,c0 0 _ rfl,_,c0 1 _ rfl,_,c0 2 _ rfl,_,c0 3 _ rfl,_,c0 4 _ rfl,_,c0 5 _ rfl,?_⟩
 refine zte (s:=s) hx1 hs fun h2 hl2=>zal rfl ?_
 have c2:=c0.le hl2
 refine ⟨_,c2 0 _ rfl,_,c2 1 _ rfl,?_⟩
 refine zdg fun p6 h3 hl3 e6=>zdg fun p7 h4 hl4 e7=>?_
 have hle4:=Hp.le_trans hl1 (Hp.le_trans hl2 (Hp.le_trans hl3 hl4))
 have hx4:=hx.le hle4
 have c4:=(c2.le hl3).le hl4
 have l1:=hx.1.len zcs
 have l2:=hx.2.1.len zdw
 obtain ⟨s1,s2,s3,s4,s5,s6,s7,s8⟩:=hs
 have e64:h4.cell p6=some (.int .i64 (S.pts.length:Int)):=by have:=Hp.cell_le hl4 e6; rw [l1] at this; exact this
 have e74:h4.cell p7=some (.int .i64 (S.cir.length:Int)):=by rw [l2] at e7; exact e7
 refine za3 (fun st h'=>h.le h'∧(st.1=true↔VS S)) ?_ ?_
 · rintro ⟨b,_⟩ h5 ⟨hl5,hb⟩
   simp only at hb
   refine za7 (fun h6=>hk _ _ hl5 ⟨fun hh=>(by cases hh),fun hh=>?_⟩ (.inr rfl)) (fun h6=>hk _ _ hl5 ⟨fun _=>hb.1 (by simpa using h6),fun _=>rfl⟩ (.inl rfl))
   simp only at h6
   rw [hb.2 hh] at h6; cases h6
 · have fl:∀(b:Bool) {P:Prop},(b=true↔P)→b=false→¬P:=fun b P hb h0 hp=>by rw [hb.2 hp] at h0; cases h0
   refine ⟨_,c4 0 _ rfl,?_⟩
   refine zvv hx4.1 (by omega) fun b1 h5 hl5 hb1=>za7 (fun t1=>?_) (fun t1=>⟨Hp.le_trans hle4 hl5,fun hh=>(by cases hh),fun hv=>absurd hv.1 (fl _ hb1 t1)⟩)
   refine ⟨_,c4.le hl5 1 _ rfl,?_⟩
   refine zvw (S:=S) (hx4.le hl5).2.1 (by omega) (Hp.cell_le hl5 e64) fun b2 h6 hl6 hb2=>za7 (fun t2=>?_) (fun t2=>⟨Hp.le_trans hle4 (Hp.le_trans hl5 hl6),fun hh=>(by cases hh),fun hv=>absurd hv.2.1 (fl _ hb2 t2)⟩)
   have l56:=Hp.le_trans hl5 hl6
   refine ⟨_,c4.le l56 2 _ rfl,?_⟩
   refine zvx (S:=S) (hx4.le l56).2.2.1 (by omega) (Hp.cell_le l56 e64) fun b3 h7 hl7 hb3=>za7 (fun t3=>?_) (fun t3=>⟨Hp.le_trans hle4 (Hp.le_trans l56 hl7),fun hh=>(by cases hh),fun hv=>absurd hv.2.2.1 (fl _ hb3 t3)⟩)
   have l57:=Hp.le_trans l56 hl7
   refine ⟨_,c4.le l57 3 _ rfl,?_⟩
   refine zvs (s:=s) (S:=S) (hx4.le l57).2.2.2.1 (by omega) (c4.le l57) (hx4.le l57) fun b4 h8 hl8 hb4=>za7 (fun t4=>?_) (fun t4=>⟨Hp.le_trans hle4 (Hp.le_trans l57 hl8),fun hh=>(by cases hh),fun hv=>absurd hv.2.2.2.1 (fl _ hb4 t4)⟩)
   have l58:=Hp.le_trans l57 hl8
   refine ⟨_,c4.le l58 4 _ rfl,?_⟩
   refine zvt (s:=s) (S:=S) (hx4.le l58).2.2.2.2.1 (by omega) s7 (c4.le l58) (hx4.le l58) ⟨s1,s2,s3,s4,s5,s6,s7,s8⟩ fun b5 h9 hl9 hb5=>za7 (fun t5=>?_) (fun t5=>⟨Hp.le_trans hle4 (Hp.le_trans l58 hl9),fun hh=>(by cases hh),fun hv=>absurd hv.2.2.2.2.1 (fl _ hb5 t5)⟩)
   have l59:=Hp.le_trans l58 hl9
   refine ⟨_,c4.le l59 5 _ rfl,?_⟩
   refine zvu (hx4.le l59).2.2.2.2.2 (by omega) s8 (Hp.cell_le l59 e64) (Hp.cell_le l59 e74) (ht.le (Hp.le_trans hle4 l59)) fun b6 h10 hl10 hb6=>⟨Hp.le_trans hle4 (Hp.le_trans l59 hl10),?_⟩
   rw [hb6]
   exact ⟨fun hh=>⟨hb1.1 t1,hb2.1 t2,hb3.1 t3,hb4.1 t4,hb5.1 t5,hh⟩,fun hh=>hh.2.2.2.2.2⟩
theorem zp9 (hx:SK h s S) (hs:sSk S) (ht:GT h) (H:∀r h',h.le h'→(r=0↔VS S)→Ki r h'):callP (F.zeh s) Ki h:=zo9 hx hs ht fun r h' h1 h2 _=>H r h' h1 h2
end
end Den
end

section
namespace Den
open Go Iv Lx
section
variable {h : Hp} {s : TSketch} {S : PSk} {Kb : Bool → Hp → Prop} {Ki : Int → Hp → Prop} {l : Sl}
theorem upto {α:Type} {l:List α} {P:α→Prop} {i:Nat} (h:∀j (hj:j<l.length),j<i→P l[j]) (hi:i<l.length) (hp:P l[i]):∀j (hj:j<l.length),j<i+1→P l[j]:=fun j hj hji=>by
 rcases Nat.lt_or_ge j i with h5 | h5
 · exact h j hj h5
 · have:j=i:=by omega
   subst this; exact hp
theorem upall {α:Type} {l:List α} {P:α→Prop} {i:Nat} (h:∀j (hj:j<l.length),j<i→P l[j]) (hi:l.length≤i):∀x∈l,P x:=fun x hx=>by
 obtain ⟨j,hj,rfl⟩:=List.mem_iff_getElem.1 hx
 exact h j hj (by omega)
theorem zy3 (hx:SK h s S) (H:∀b h',h.le h'→(b=true→sSk S)→Kb b h'):callP (F.zjj s) Kb h:=by
 refine za1 (fun b h'=>b=true→sSk S) (fun K' hk=>?_) fun b h' hl hb=>H b h' hl hb
 unfold F.zjj
 have l1:=hx.1.len zcs
 have l2:=hx.2.1.len zdw
 have l3:=hx.2.2.1.len zik
 have l4:=hx.2.2.2.1.len zei
 have l5:=hx.2.2.2.2.1.len zh5
 have l6:=hx.2.2.2.2.2.len zad
 have no:∀h',h.le h'→K' false h':=fun h' hl=>hk _ _ hl fun hh=>by cases hh
 refine za3 (fun _ h1=>h1=h∧S.pts.length≤10∧S.cir.length≤10∧S.seg.length≤10∧S.arc.length≤10∧S.chn.length≤10∧S.con.length≤20) ?_ ?_
 · rintro _ h ⟨rfl,s1,s2,s3,s4,s5,s6⟩
   refine zd0 (n:=S.pts.length) (by omega) (fun i h'=>h.le h') (Hp.le_refl _) ?_
   intro i h2 hi hl2 k hk2
   refine za0 (fun h3=>?_) (fun h3=>?_)
   · have hi':i<S.pts.length:=by simp only at h3; omega
     refine za3 (fun _ h'=>h.le h') (fun _ h' hh=>hk2 _ hi' hh) ?_
     refine (hx.le hl2).1.get zcs i rfl hi' fun a x hxx hc=>?_
     simp only [zcn,Nat.zero_add]
     refine ⟨_,hc 0 _ rfl,_,hc 1 _ rfl,_,hc 2 _ rfl,_,hc 3 _ rfl,?_⟩
     refine zlu (x:=x.x) hxx.1 fun b h4 hl4=>za7 (fun _=>no _ (Hp.le_trans hl2 hl4)) fun _=>?_
     refine (hx.le (Hp.le_trans hl2 hl4)).1.get zcs i rfl hi' fun a2 x2 hxx2 hc2=>?_
     refine ⟨_,hc2 4 _ rfl,_,hc2 5 _ rfl,_,hc2 6 _ rfl,_,hc2 7 _ rfl,?_⟩
     exact zlu (x:=x2.y) hxx2.2 fun b h6 hl6=>za7 (fun _=>no _ (Hp.le_trans hl2 (Hp.le_trans hl4 hl6))) fun _=>Hp.le_trans hl2 (Hp.le_trans hl4 hl6)
   · refine zd0 (n:=S.cir.length) (by omega) (fun i h'=>h.le h') hl2 ?_
     clear h3 hk2 hi hl2
     intro i h2 hi hl2 k hk2
     refine za0 (fun h3=>?_) (fun h3=>?_)
     · have hi':i<S.cir.length:=by simp only at h3; omega
       refine (hx.le hl2).2.1.get zdw i rfl hi' fun a x hxx hc=>?_
       simp only [zcn]
       refine ⟨_,hc 1 _ rfl,_,hc 2 _ rfl,_,hc 3 _ rfl,_,hc 4 _ rfl,?_⟩
       exact zlu (x:=x.radius) hxx.2 fun b h4 hl4=>za7 (fun _=>no _ (Hp.le_trans hl2 hl4)) fun _=>hk2 _ hi' (Hp.le_trans hl2 hl4)
     · refine zd0 (n:=S.chn.length) (by omega) (fun i h'=>h.le h'∧∀j (hj:j<S.chn.length),j<i→S.chn[j].length≤20) ⟨hl2,fun j _ hj=>by omega⟩ ?_
       clear h3 hk2 hi hl2
       rintro i h2 hi ⟨hl2,hno⟩ k hk2
       refine za0 (fun h3=>?_) (fun h3=>?_)
       · have hi':i<S.chn.length:=by simp only at h3; omega
         refine (hx.le hl2).2.2.2.2.1.get zh5 i rfl hi' fun a x hxx hc=>?_
         have e0:=hc 0 _ rfl
         rw [zba] at e0
         refine ⟨_,e0,?_⟩
         have hxl:=LR.len zo4 hxx
         exact za0 (fun _=>no _ hl2) (fun h5=>hk2 _ hi' ⟨hl2,upto (P:=fun c:List TPiece=>c.length≤20) hno hi' (by omega)⟩)
       · have v5:=upall (P:=fun c:List TPiece=>c.length≤20) hno (by simp only at h3; omega)
         refine zd0 (n:=S.con.length) (by omega) (fun i h'=>h.le h'∧∀j (hj:j<S.con.length),j<i→sC S.con[j]) ⟨hl2,fun j _ hj=>by omega⟩ ?_
         clear hno h3 hk2 hi hl2
         rintro i h2 hi ⟨hl2,hno⟩ k hk2
         refine za0 (fun h3=>?_) (fun h3=>?_)
         · have hi':i<S.con.length:=by simp only at h3; omega
           refine (hx.le hl2).2.2.2.2.2.get zad i rfl hi' fun a x hxx hc=>?_
           refine ⟨_,hc 0 _ rfl,_,hc 1 _ rfl,_,hc 2 _ rfl,_,hc 3 _ rfl,_,hc 4 _ rfl,?_⟩
           obtain ⟨x1,x2,x3,x4,x5⟩:=hxx
           have p1:=x2.len
           have p2:=x3.len
           have p3:=x4.len zdb
           refine za3 (fun _ h'=>h'=h2∧S.con[i].pts.length≤10∧S.con[i].cir.length≤10∧S.con[i].vals.length≤10) ?_ ?_
           · rintro _ h2 ⟨rfl,q1,q2,q3⟩
             refine zd0 (n:=S.con[i].vals.length) (by omega) (fun j h'=>h2.le h'∧∀m (hm:m<S.con[i].vals.length),m<j→sE S.con[i].vals[m]) ⟨Hp.le_refl _,fun j _ hj=>by omega⟩ ?_
             rintro j h4 hj ⟨hl4,hn4⟩ k4 hk4
             refine za0 (fun h5=>?_) (fun h5=>?_)
             · have hj':j<S.con[i].vals.length:=by simp only at h5; omega
               refine (x4.le zdb hl4).get zdb j rfl hj' fun a2 y hyy hc2=>?_
               refine ⟨_,hc2 0 _ rfl,_,hc2 1 _ rfl,_,hc2 2 _ rfl,_,hc2 3 _ rfl,_,hc2 4 _ rfl,_,hc2 5 _ rfl,_,hc2 6 _ rfl,?_⟩
               refine za3f hyy fun r h6 hl6 hr=>?_
               exact za0 (fun _=>no _ (Hp.le_trans hl2 (Hp.le_trans hl4 hl6))) (fun h7=>hk4 _ hj' ⟨Hp.le_trans hl4 hl6,upto hn4 hj' (hr (by omega))⟩)
             · refine hk2 _ hi' ⟨Hp.le_trans hl2 hl4,upto hno hi' ⟨q1,q2,q3,upall hn4 (by simp only at h5; omega)⟩⟩
           · exact za0 (fun _=>no _ hl2) fun _=>za0 (fun _=>no _ hl2) fun _=>za0 (fun _=>no _ hl2) fun _=>⟨rfl,by omega,by omega,by omega⟩
         · exact hk _ _ hl2 fun _=>⟨s1,s2,s3,s4,s5,s6,v5,upall hno (by simp only at h3; omega)⟩
 · have n0:=no h (Hp.le_refl _)
   exact za0 (fun _=>n0) fun _=>za0 (fun _=>n0) fun _=>za0 (fun _=>n0) fun _=>za0 (fun _=>n0) fun _=>za0 (fun _=>n0) fun _=>za0 (fun _=>n0) fun _=>⟨rfl,by omega,by omega,by omega,by omega,by omega,by omega⟩
end
end Den
end

section
namespace Den
open Go Iv Lx
section
variable {D h h' : Hp} {n : Nat} {l : Sl} {cs : List Value}
theorem Own.newb {K:Addr→Hp→Prop} {cells:List Value} (ho:Own D h n l cs) (H:∀a D' h',D.le D'→h.le h'→Own D' h' n l cs→(∀i v,cells[i]?=Option.some v→D'.cell (a.add i)=Option.some v)→K a h'):newP cells K h:=by
 intro b e hb
 obtain ⟨g1,g2,g3,g4⟩:=ho
 have hDb:D b=none:=by
  cases hd:D b with
  | none=>rfl
  | some x=>rw [g1 _ _ hd] at hb; cases hb
 refine H _ (D.ins b ⟨cells,e,(0,0)⟩) _ (Hp.le_ins hDb) (Hp.le_ins hb) ⟨?_,g2,g3,?_⟩ fun i v hv=>?_
 · intro k x hk
   by_cases hkb:k=b
   · subst hkb; rw [Hp.ins_same] at hk ⊢; exact hk
   · rw [Hp.ins_ne hkb] at hk ⊢; exact g1 _ _ hk
 · cases ha:l.a with
   | none=>rw [ha] at g4; exact g4
   | some a=>
     rw [ha] at g4
     obtain ⟨k1,k2,k3,x,k4,k5⟩:=g4
     have hne:a.block≠b:=fun hh=>by rw [hh,hb] at k4; cases k4
     exact ⟨k1,k2,by rw [Hp.ins_ne hne]; exact k3,x,by rw [Hp.ins_ne hne]; exact k4,k5⟩
 · unfold Hp.cell
   rw [zbf,zdd rfl,zcl]
   simpa [Hp.ins_same] using hv
theorem Own.preN {x:Sl} {k:Nat} (ho:Own D h n x cs) (hk:k≤x.len):Own D h n (x.cut 0 k n) (cs.take (k*n)):=by
 have hc:=ho.2.2.1
 obtain ⟨g1,g2,g3,g4⟩:=ho
 have hkl:k*n≤cs.length:=by rw [←g2]; exact Nat.mul_le_mul_right _ hk
 have el:(cs.take (k*n)).length=k*n:=by rw [List.length_take]; omega
 refine ⟨g1,?_,?_,?_⟩
 · show (k-0)*n=_
   rw [el,Nat.sub_zero]
 · show k-0≤x.cap-0; omega
 · rw [cut_a]
   cases ha:x.a with
   | none=>
     rw [ha] at g4
     simp only at g4 ⊢
     show x.cap-0=0; omega
   | some a=>
     rw [ha] at g4
     obtain ⟨k1,k2,k3,b,k4,k5,k6,k7⟩:=g4
     refine ⟨k1,k2,k3,b,k4,k5,k6,?_⟩
     rw [el]
     have:=congrArg (List.take (k*n)) k7
     rw [List.take_take,Nat.min_eq_left (by omega)] at this
     exact this
end
section
variable {α β : Type} {c : α → List Value} {n : Nat} {P : Hp → α → β → Prop} {D h h' : Hp} {l : Sl} {ps : List β}
theorem LO.newb {K:Addr→Hp→Prop} {cells:List Value} (hR:Rec c n P) (hx:LO c n P D h l ps) (H:∀a D' h',D.le D'→h.le h'→LO c n P D' h' l ps→(∀i v,cells[i]?=Option.some v→D'.cell (a.add i)=Option.some v)→K a h'):newP cells K h:=by
 obtain ⟨xs,h1,h3,h4⟩:=hx
 exact h1.newb fun a D' h' g1 g2 g3 g4=>H a D' h' g1 g2 ⟨xs,g3,h3,fun k k1 k2=>hR.mono (h4 k k1 k2) g1⟩ g4
theorem LO.le (hx:LO c n P D h l ps) (hl:h.le h'):LO c n P D h' l ps:=by
 obtain ⟨xs,h1,h3,h4⟩:=hx
 exact ⟨xs,h1.le hl,h3,h4⟩
theorem LO.appAll {K:Sl→Hp→Prop} {m:Sl} {qs:List β} {bytes:Nat} {zero:List Value} (hR:Rec c n P) (hx:LO c n P D h l ps) (hm:LR c n P D m qs) (hz:zero.length=n) (hlen:(ps.length+qs.length)*bytes≤140737488355328) (hlen2:ps.length+qs.length≤140737488355328)
 (H:∀y h',LO c n P D h' y (ps++qs)→K y h'):rdO m.a (m.len*n) (fun vs=>appP n bytes zero l m.len vs K h) h:=by
 have hl:=hx.len hR
 have hml:=hm.len hR
 obtain ⟨ys,g1,g2,g3,g4⟩:=hm
 obtain ⟨xs,h1,h3,h4⟩:=hx
 refine ⟨ys.flatMap c,?_,?_⟩
 · have:=(g1.le h1.1).2
   rwa [←g1.1] at this
 · refine zhz h1 (n:=m.len) (new:=ys.flatMap c) g1.1.symm hz ?_ (by rw [hl,hml]; exact hlen) (by rw [hl,hml]; exact hlen2) fun y h' hy hyl=>H y h' ⟨xs++ys,by rw [List.flatMap_append]; exact hy,by simp [h3,g3],fun k k1 k2=>?_⟩
   · rw [List.all_flatMap,List.all_eq_true]
     exact fun x _=>hR.leaf x
   · rcases Nat.lt_or_ge k xs.length with h5 | h5
     · rw [List.getElem_append_left h5,List.getElem_append_left (by omega)]
       exact h4 k h5 (by omega)
     · rw [List.getElem_append_right h5,List.getElem_append_right (by omega)]
       have e:k-xs.length=k-ps.length:=by omega
       have k1':k-xs.length<ys.length:=by simp at k1; omega
       have:=g4 (k-xs.length) k1' (by omega)
       simp only [e] at this ⊢
       exact this
theorem za2v {K:Addr→Hp→Prop} (H:∀a h',LO c n P h h' ⟨some a,0,0⟩ []→K a h'):newP [] K h:=by
 refine zi1 (n:=0) (size:=n) (by simp) fun b h' hb ho=>H _ _ ⟨[],?_,rfl,fun k h1 _=>by simp at h1⟩
 exact ho
theorem LR.drop {k m:Nat} (hR:Rec c n P) (hx:LR c n P h l ps) (hk:k≤ps.length) (hm:m=ps.length):LR c n P h (l.cut k m n) (ps.drop k):=by
 have hl:=hx.len hR
 have hn:=hR.pos
 obtain ⟨xs,h1,h2,h3,h4⟩:=hx
 subst hm
 refine ⟨xs.drop k,⟨?_,?_⟩,?_,by simp; omega,fun j k1 k2=>?_⟩
 · show (ps.length-k)*n=_
   rw [zfk hR.len,List.length_drop,h3]
 · rw [zfk hR.len,List.length_drop]
   have h5:=h1.2
   rw [zfk hR.len] at h5
   have e:(xs.drop k).flatMap c=(xs.flatMap c).drop (k*n):=by
    have e1:xs.flatMap c=(xs.take k).flatMap c++(xs.drop k).flatMap c:=by rw [←List.flatMap_append,List.take_append_drop]
    have e2:((xs.take k).flatMap c).length=k*n:=by rw [zfk hR.len,List.length_take,Nat.min_eq_left (by omega)]
    rw [e1,←e2,List.drop_left]
   rw [e]
   show cellsAtO h (if l.cap=k then l.a else l.a.map (·.add (k*n))) _=_
   by_cases hc:l.cap=k
   · have:xs.length-k=0:=by omega
     rw [if_pos hc,this,Nat.zero_mul]
     have e3:(xs.flatMap c).drop (k*n)=[]:=by
      apply List.drop_eq_nil_of_le
      rw [zfk hR.len]
      exact Nat.mul_le_mul_right _ (by omega)
     rw [e3]
     cases l.a<;>rfl
   · rw [if_neg hc]
     cases ha:l.a with
     | none=>
       rw [ha] at h5
       simp only [cellsAtO] at h5
       split at h5
       · rename_i h6
         have h7:xs.length=0:=by
          rcases Nat.eq_zero_or_pos xs.length with h7 | h7
          · exact h7
          · have:=Nat.mul_pos h7 hn; omega
         have:xs=[]:=List.eq_nil_of_length_eq_zero h7
         subst this
         simp [cellsAtO]
       · cases h5
     | some a=>
       rw [ha] at h5
       simp only [Option.map_some,cellsAtO] at h5 ⊢
       have key:=zln (h:=h) (a:=a.add (k*n)) (cells:=(xs.flatMap c).drop (k*n)) (fun i v hv=>by
        rw [zcn]
        exact zg0 h5 _ _ (by rwa [List.getElem?_drop] at hv)) ((xs.flatMap c).drop (k*n)).length (Nat.le_refl _)
       rw [List.take_length,List.length_drop,zfk hR.len,←Nat.sub_mul] at key
       exact key
 · show ps.length-k≤l.cap-k; omega
 · rw [List.getElem_drop,List.getElem_drop]
   exact h4 (k+j) (by simp at k1; omega) (by simp at k2; omega)
end
section
variable {D h h' : Hp} {l m : Sl} {xs ys : List Int} {K : Sl → Hp → Prop}
theorem OI.le (ho:OI D h l xs) (hl:h.le h'):OI D h' l xs:=Own.le ho hl
theorem OI.base {h0:Hp} (ho:OI D h l xs) (hl:h0.le D):OI h0 h l xs:=Own.base ho hl
end
theorem za8l {z vs:List Value} {K:Addr→Hp→Prop} {h:Hp} (hlen:vs.length=z.length) (hleaf:vs.all Value.leaf=true) (H:newP vs K h):newP z (fun a h'=>stP a vs (K a) h') h:=by
 intro b e hb
 refine ⟨_,Hp.ins_same _ _ _,rfl,rfl,by simp [hlen],hleaf,?_⟩
 have e2:splice z 0 vs=vs:=by unfold splice; simp [hlen]
 simp only [e2]
 rw [Hp.ins_ins]
 exact H b e hb
def onC (c:PCon) (p k:Int):Prop:=c.kind=13∧c.pts=[p]∧c.cir=[k]
instance (c:PCon) (p k:Int):Decidable (onC c p k):=by unfold onC; infer_instance
def mkOn (p k:Int):PCon:=⟨13,[p],[k],[],0⟩
def addOn (con out:List PCon) (p k:Int):List PCon:=if (∃c∈con++out,onC c p k) then out else out++[mkOn p k]
def addArc (con out:List PCon) (a:TArc):List PCon:=addOn con (addOn con out a.a a.circle) a.b a.circle
def impL (con:List PCon) (l:List TArc):List PCon:=l.foldl (addArc con) []
def imp (S:PSk):List PCon:=impL S.con S.arc
def allC (S:PSk):List PCon:=S.con++imp S
def cens (S:PSk):List Int:=S.cir.map (·.1)
theorem zld {con:List PCon} {l:List TArc} {i:Nat} (hi:i<l.length):impL con (l.take (i+1))=addArc con (impL con (l.take i)) l[i]:=by
 unfold impL
 rw [←List.take_append_getElem hi,List.foldl_append]
 rfl
theorem zl9 (con out:List PCon) (p k:Int):(addOn con out p k).length≤out.length+1:=by
 unfold addOn; split<;>simp
theorem zmr (con:List PCon) (l:List TArc):∀i,i≤l.length→(impL con (l.take i)).length≤2*i
 | 0,_=>by simp [impL]
 | i+1,hi=>by
   rw [zld (by omega)]
   have:=zmr con l i (by omega)
   unfold addArc
   have h1:=zl9 con (addOn con (impL con (l.take i)) l[i].a l[i].circle) l[i].b l[i].circle
   have h2:=zl9 con (impL con (l.take i)) l[i].a l[i].circle
   omega
theorem zoh (S:PSk):(imp S).length≤2*S.arc.length:=by
 have:=zmr S.con S.arc S.arc.length (Nat.le_refl _)
 rwa [List.take_length] at this
def VC1 (c:PCon):Prop:=c.pts.length≤10∧c.cir.length≤10∧(c.kind=13→c.pts.length=1∧c.cir.length=1∧c.vals=[]∧c.side=0)
theorem VC.one {c:PCon} {n m:Int} (hv:VC c n m) (hs:sC c):VC1 c:=⟨hs.1,hs.2.1,fun hk=>by
 obtain ⟨_,h2,h3,h4,_,h6,_⟩:=hv
 rw [hk] at h2 h3 h4 h6
 exact ⟨h2.1,h3.1,List.eq_nil_of_length_eq_zero h4,by simpa [shK,tabK] using h6⟩⟩
theorem vc_on {n m:Nat} {p k:Int} (hp:hasP n p) (hk:hasP m k):VC (mkOn p k) n m:=by
 unfold hasP at hp hk
 refine ⟨⟨by simp [mkOn],by simp [mkOn]⟩,⟨rfl,?_⟩,⟨rfl,?_⟩,rfl,by simp [mkOn],by simp [mkOn,shK,tabK],?_⟩
 · intro x hx
   have:x=p:=by simpa [mkOn] using hx
   omega
 · intro x hx
   have:x=k:=by simpa [mkOn] using hx
   omega
 · rw [if_neg (show ¬fourK (mkOn p k).kind by unfold fourK mkOn; simp only; omega)]
   exact ⟨by simp [mkOn],by simp [mkOn]⟩
theorem sc_on {p k:Int}:sC (mkOn p k):=⟨by simp [mkOn],by simp [mkOn],by simp [mkOn],by simp [mkOn]⟩
theorem zl8 {P:PCon→Prop} {con out:List PCon} {p k:Int} (ho:∀c∈out,P c) (hp:P (mkOn p k)):∀c∈addOn con out p k,P c:=by
 unfold addOn
 split
 · exact ho
 · intro c hc
   rcases List.mem_append.1 hc with hc | hc
   · exact ho c hc
   · rw [List.mem_singleton.1 hc]; exact hp
theorem zpn {P:PCon→Prop} {con:List PCon} {l:List TArc} (hp:∀a∈l,P (mkOn a.a a.circle)∧P (mkOn a.b a.circle)):∀i,i≤l.length→∀c∈impL con (l.take i),P c
 | 0,_=>by simp [impL]
 | i+1,hi=>by
   rw [zld (by omega)]
   have h1:=zpn (con:=con) hp i (by omega)
   have h2:=hp _ (List.getElem_mem (show i<l.length by omega))
   exact zl8 (zl8 h1 h2.1) h2.2
theorem za6t {P:PCon→Prop} {S:PSk} (hp:∀a∈S.arc,P (mkOn a.a a.circle)∧P (mkOn a.b a.circle)):∀c∈imp S,P c:=by
 have:=zpn (con:=S.con) hp S.arc.length (Nat.le_refl _)
 rwa [List.take_length] at this
theorem zf5 {S:PSk} (hv:VS S) (hs:sSk S):∀c∈allC S,VC c S.pts.length S.cir.length∧sC c:=by
 intro c hc
 rcases List.mem_append.1 hc with hc | hc
 · exact ⟨hv.2.2.2.2.2 c hc,hs.2.2.2.2.2.2.2 c hc⟩
 · refine za6t (P:=fun c=>VC c S.pts.length S.cir.length∧sC c) (fun a ha=>?_) c hc
   have:=hv.2.2.2.1 a ha
   exact ⟨⟨vc_on this.2.1 this.1,sc_on⟩,⟨vc_on this.2.2.1 this.1,sc_on⟩⟩
theorem zis {S:PSk} (hs:sSk S):(allC S).length≤40:=by
 have h1:=zoh S
 have h2:=hs.2.2.2.1
 have h3:=hs.2.2.2.2.2.1
 unfold allC
 rw [List.length_append]; omega
section
variable {h : Hp} {s : TSketch} {S : PSk} {Kb : Bool → Hp → Prop} {Ki : Int → Hp → Prop} {Ks : Sl → Hp → Prop} {l m : Sl} {xs ys : List Int}
theorem za4u {s:Sl} {ps:List PCon} {g:PCon→Prop} {G:TConstraint→(Bool→Hp→Prop)→Hp→Prop} (hx:LR cc 5 CO h s ps) (hlen:ps.length≤1000000)
 (hG:∀x c h',h.le h'→CO h' x c→c∈ps→∀K:Bool→Hp→Prop,(∀b h'',h'.le h''→(b=true↔g c)→K b h'')→callP (G x) K h') (H:∀r h',h.le h'→(0≤r↔∃c∈ps,g c)→Ki r h') :
 (loopP (S:=Int×Unit) (fun s1 k2 h1=>
 (ifP (decide (s1.1<(s.len:Int)))
 (idxP s s1.1 5 fun a3=>
 (ldL (.int .i64) (a3.add 0) (fun x4_0=>
 (ldL (.sl) (a3.add 1) (fun x4_1=>
 (ldL (.sl) (a3.add 2) (fun x4_2=>
 (ldL (.sl) (a3.add 3) (fun x4_3=>
 (ldL (.int .i64) (a3.add 4) (fun x4_4=>
 (callP (G (⟨x4_0,x4_1,x4_2,x4_3,x4_4⟩:TConstraint)) (fun r5 h2=>
 (ifP r5
 (Ki s1.1 h2)
 (k2 ((IntKind.i64.wrap (s1.1+1)),()) h2))) h1)) h1)) h1)) h1)) h1)) h1))
 (Ki (-1) h1)))
 (0,()) h):=by
  have hl:=hx.len zad
  refine zjr (n:=ps.length) (g:=fun i=>∃h:i<ps.length,g ps[i]) (by omega) (fun i h' k hl' hi' hb=>?_) (fun h' k hk=>za0 (fun hh=>by simp only at hh; omega) (fun _=>hk)) (fun r h' hl hr=>H _ _ hl (by
   rw [hr]
   constructor
   · rintro ⟨i,hi,hi2,hg⟩; exact ⟨_,List.getElem_mem hi2,hg⟩
   · rintro ⟨c,hc,hg⟩
     obtain ⟨i,hi,rfl⟩:=List.mem_iff_getElem.1 hc
     exact ⟨i,hi,hi,hg⟩))
  refine za0 (fun _=>?_) (fun hh=>by simp only at hh; omega)
  refine (hx.le zad hl').get zad i rfl hi' fun a x hxx hc=>?_
  refine ⟨_,hc 0 _ rfl,_,hc 1 _ rfl,_,hc 2 _ rfl,_,hc 3 _ rfl,_,hc 4 _ rfl,?_⟩
  exact hG _ _ _ hl' hxx (List.getElem_mem _) _ fun b h3 hl3 hbb=>hb b h3 hl3 (by rw [hbb]; exact ⟨fun hh=>⟨hi',hh⟩,fun ⟨_,hh⟩=>hh⟩)
theorem zlq (hx:IL h l xs) (hy:IL h m ys) (hlen:xs.length≤1000000) (H:∀b h',h.le h'→(b=true↔xs=ys)→Kb b h'):callP (F.zcr l m) Kb h:=by
 refine za1 (fun b h'=>b=true↔xs=ys) (fun K' hk=>?_) fun b h' hl hb=>H b h' hl hb
 unfold F.zcr
 have hl:=hx.len
 have hm:=hy.len
 refine zb7 (fun h1=>hk _ _ (Hp.le_refl _) ⟨fun hh=>(by cases hh),fun hh=>?_⟩) (fun h1=>?_)
 · exfalso
   subst hh
   omega
 have hl2:xs.length=ys.length:=by omega
 refine zd0 (n:=xs.length) (by omega) (fun i h'=>h'=h∧xs.take i=ys.take i) ⟨rfl,by simp⟩ ?_
 rintro i h hi ⟨rfl,heq⟩ k hk2
 refine za0 (fun h2=>?_) (fun h2=>?_)
 · have hi':i<xs.length:=by simp only at h2; omega
   refine hx.get i rfl hi' (hy.get i rfl (by omega) ?_)
   refine zb7 (fun h3=>hk _ _ (Hp.le_refl _) ⟨fun hh=>(by cases hh),fun hh=>?_⟩) (fun h3=>hk2 _ hi' ⟨rfl,?_⟩)
   · subst hh
     exact absurd rfl h3
   · rw [←List.take_append_getElem hi',←List.take_append_getElem (show i<ys.length by omega),heq,h3]
 · have:i=xs.length:=by simp only at h2; omega
   subst this
   refine hk _ _ (Hp.le_refl _) ⟨fun _=>?_,fun _=>rfl⟩
   rw [List.take_length,hl2,List.take_length] at heq
   exact heq
theorem zw1 {x y:TConstraint} {c:PCon} {p k:Int} (hx:CO h x (mkOn p k)) (hy:CO h y c) (hv:VC1 c) (H:∀b h',h.le h'→(b=true↔onC c p k)→Kb b h'):callP (F.zfg x y) Kb h:=by
 refine za1 (fun b h'=>b=true↔onC c p k) (fun K' hk=>?_) fun b h' hl hb=>H b h' hl hb
 unfold F.zfg
 obtain ⟨x1,x2,x3,x4,x5⟩:=hx
 obtain ⟨y1,y2,y3,y4,y5⟩:=hy
 obtain ⟨v1,v2,v3⟩:=hv
 have no:∀h',h.le h'→¬onC c p k→K' false h':=fun h' hl hn=>hk _ _ hl ⟨fun hh=>(by cases hh),fun hh=>absurd hh hn⟩
 rw [x1,x5,y1,y5]
 refine zaa (fun h1=>?_) (fun h1=>no _ (Hp.le_refl _) fun hv=>h1 hv.1.symm)
 have hk13:c.kind=13:=h1.symm
 obtain ⟨w1,w2,w3,w4⟩:=v3 hk13
 refine zaa (fun h2=>?_) (fun h2=>absurd (show (mkOn p k).side=c.side by rw [w4]; rfl) h2)
 refine zlq x2 y2 (by simp [mkOn]) fun b h3 hl3 hb=>?_
 refine za7 (fun h4=>?_) (fun h4=>no _ hl3 fun hv=>by rw [hb.2 hv.2.1.symm] at h4; cases h4)
 refine zlq (x3.le hl3) (y3.le hl3) (by simp [mkOn]) fun b5 h5 hl5 hb5=>?_
 have hle:=Hp.le_trans hl3 hl5
 refine za7 (fun h6=>?_) (fun h6=>no _ hle fun hv=>by rw [hb5.2 hv.2.2.symm] at h6; cases h6)
 refine za1 (fun b h'=>b=true) (fun K2 hk2=>?_) fun b h7 hl7 hb7=>hk _ _ (Hp.le_trans hle hl7) ⟨fun _=>⟨hk13,(hb.1 h4).symm,(hb5.1 h6).symm⟩,fun _=>hb7⟩
 unfold F.zb0
 refine ⟨1,?_⟩
 unfold F.za8
 have e1:=x4.len zdb
 have e2:=y4.len zdb
 rw [w3] at e2
 have e3:x.values.len=0:=e1
 have e4:y.values.len=0:=e2
 refine zb7 (fun h8=>by rw [e3,e4] at h8; exact absurd rfl h8) (fun _=>?_)
 refine zau (fun st h'=>h'=h5∧st=(0,())) (fun _=>0) ⟨rfl,rfl⟩ ?_
 rintro st h5 ⟨rfl,rfl⟩
 refine za0 (fun h8=>by rw [e3] at h8; exact absurd h8 (by decide)) (fun _=>hk2 _ _ (Hp.le_refl _) rfl)
def CKC (h:Hp) (a:Addr) (x:TConstraint):Prop:=∀i v,(cc x)[i]?=some v→h.cell (a.add i)=some v
theorem znf {s:Sl} {ps:List PCon} {a:Addr} {x:TConstraint} {p k:Int} (hx:LR cc 5 CO h s ps) (hlen:ps.length≤1000000) (hv:∀c∈ps,VC1 c) (ha:CKC h a x) (hc:CO h x (mkOn p k)) (H:∀b h',h.le h'→(b=true↔∃c∈ps,onC c p k)→Kb b h') :
 callP (F.za9 s (some a,())) Kb h:=by
 refine za1 (fun b h'=>(b=true↔∃c∈ps,onC c p k)) (fun K2 hk2=>?_) fun b h' hl hb=>H _ _ hl hb
 unfold F.za9
 refine za1 (fun r h'=>(0≤r↔∃c∈ps,onC c p k)) (fun K3 hk3=>?_) fun r h' hl hr=>hk2 _ _ hl (by rw [decide_eq_true_iff]; exact hr)
 unfold F.zb5
 refine za4u (g:=fun c=>onC c p k) (G:=fun x=>F.zfp x (some a,()).1) hx hlen (fun y c h' hl' hy hm K hK=>?_) fun r h' hl hr=>hk3 _ _ hl hr
 refine za1 (fun b h'=>(b=true↔onC c p k)) (fun K4 hk4=>?_) fun b h'' hl'' hbb=>hK b h'' hl'' hbb
 unfold F.zfp
 have c0:CKC h' a x:=fun i v hv=>Hp.cell_le hl' (ha i v hv)
 refine ⟨_,c0 0 _ rfl,_,c0 1 _ rfl,_,c0 2 _ rfl,_,c0 3 _ rfl,_,c0 4 _ rfl,?_⟩
 exact zw1 (x:=x) (hc.le hl') hy (hv c hm) fun b h'' hl hb=>hk4 _ _ hl hb
theorem za2i {a:Addr} {z:Int} {c:Nat} (hc:h.cell a=some (.int .i64 z)) (hcap:1≤c):IL h ⟨some a,1,c⟩ [z]:=by
 refine ⟨zeg (cells:=[ic z]) (fun i v hv=>?_) rfl,hcap⟩
 cases i with
 | zero=>
   rw [zba,hc]
   simpa [ic] using hv
 | succ i=>simp at hv
theorem VS.one {c:PCon} (hv:VS S) (hs:sSk S) (hc:c∈S.con):VC1 c:=(hv.2.2.2.2.2 c hc).one (hs.2.2.2.2.2.2.2 c hc)
theorem zqu {p k:Int}:VC1 (mkOn p k):=⟨by simp [mkOn],by simp [mkOn],fun _=>⟨rfl,rfl,rfl,rfl⟩⟩
theorem zxb:∀i,i≤S.arc.length→∀c∈impL S.con (S.arc.take i),VC1 c:=zpn fun a _=>⟨zqu,zqu⟩
end
end Den
end

section
namespace Den
open Go Iv Lx
def itK (c:PCon) (cs:List Int) (k:Int):List Int:=if c.kind=13∨c.kind=16∨c.kind=17 then [-1-k,cs.getD k.toNat 0] else [-1-k]
def itemsC (c:PCon) (cs:List Int):List Int:=c.pts++c.cir.flatMap (itK c cs)
theorem zxc (c:PCon) (cs:List Int) (k:Int):(itK c cs k).length≤2:=by unfold itK; split<;>simp
theorem zql {c:PCon} {cs:List Int} (hs:sC c):(itemsC c cs).length≤30:=by
 unfold itemsC
 have:∀l:List Int,(l.flatMap (itK c cs)).length≤2*l.length:=by
  intro l
  induction l with
  | nil=>simp
  | cons a r ih=>
    have:=zxc c cs a
    simp only [List.flatMap_cons,List.length_append,List.length_cons]
    omega
 have h1:=this c.cir
 have h2:=hs.1
 have h3:=hs.2.1
 rw [List.length_append]; omega
section
variable {h : Hp} {s : TSketch} {S : PSk} {Kb : Bool → Hp → Prop} {Ki : Int → Hp → Prop} {Ks : Sl → Hp → Prop} {l m : Sl} {xs ys : List Int}
theorem co_on {a b:Addr} {p k:Int} {va vs:Sl} (ha:h.cell a=some (.int .i64 p)) (hb:h.cell b=some (.int .i64 k)):CO h ⟨13,⟨some a,1,1⟩,⟨some b,1,1⟩,nilS,0⟩ (mkOn p k):=
 ⟨rfl,za2i ha (by decide),za2i hb (by decide),LR.nil,rfl⟩
theorem zwz {i:Int} {K:Addr→Prop} (hx:SK h s S) (k:Nat) (hi:i=k) (hk:k<S.arc.length) (H:∀a,(∀j v,(arcc S.arc[k])[j]?=some v→h.cell (a.add j)=some v)→K a):idxP s.arcs i 4 K:=
 hx.2.2.2.1.get zei k hi hk fun a x hxx hc=>H a (by have hxx:x=S.arc[k]:=hxx; rw [←hxx]; exact hc)
theorem zu6 {A:TArc} {out:List PCon} {p:Int} {y:Sl} {D:Hp} {K:Sl×Unit→Hp→Prop} (hv:VS S) (hs:sSk S) (hlen:out.length≤100) (hone:∀c∈out,VC1 c) (hS:SK D s S) (ho:LO cc 5 CO D h y out)
 (hK:∀y' D' h',D.le D'→LO cc 5 CO D' h' y' (addOn S.con out p A.circle)→K (y',()) h') :
 newP [.int .i64 p] (fun p12 h5=>
 (newP [.int .i64 A.circle] (fun p13 h6=>
 (newP [.int .i64 0,.slice nilS.a nilS.len nilS.cap,.slice nilS.a nilS.len nilS.cap,.slice nilS.a nilS.len nilS.cap,.int .i64 0] (fun p14 h7=>
 (stP p14 [.int .i64 13,.slice (⟨some p12,1,1⟩:Sl).a (⟨some p12,1,1⟩:Sl).len (⟨some p12,1,1⟩:Sl).cap,.slice (⟨some p13,1,1⟩:Sl).a (⟨some p13,1,1⟩:Sl).len (⟨some p13,1,1⟩:Sl).cap,.slice nilS.a nilS.len nilS.cap,.int .i64 0] (fun h8=>
 (callP (F.za9 s.constraints ((some p14),())) (fun r15 h9=>
 (ifP (!r15)
 (callP (F.za9 y ((some p14),())) (fun r16 h10=>
 (ifP (!r16)
 (ldL (.int .i64) (p14.add 0) (fun x17_0=>
 (ldL (.sl) (p14.add 1) (fun x17_1=>
 (ldL (.sl) (p14.add 2) (fun x17_2=>
 (ldL (.sl) (p14.add 3) (fun x17_3=>
 (ldL (.int .i64) (p14.add 4) (fun x17_4=>
 (appP 5 88 [.int .i64 0,.slice nilS.a nilS.len nilS.cap,.slice nilS.a nilS.len nilS.cap,.slice nilS.a nilS.len nilS.cap,.int .i64 0] y 1 [.int .i64 x17_0,.slice x17_1.a x17_1.len x17_1.cap,.slice x17_2.a x17_2.len x17_2.cap,.slice x17_3.a x17_3.len x17_3.cap,.int .i64 x17_4] (fun w18 h11=>
 (K (w18,()) h11)) h10)) h10)) h10)) h10)) h10)) h10)
 (K (y,()) h10))) h9)
 (K (y,()) h9))) h8)) h7)) h6)) h5)) h:=by
  refine ho.newb zad fun p12 D3 h4 d3 l4 ho4 c12=>ho4.newb zad fun p13 D4 h5 d4 l5 ho5 c13=>?_
  refine za8l (vs:=[.int .i64 13,.slice (⟨some p12,1,1⟩:Sl).a (⟨some p12,1,1⟩:Sl).len (⟨some p12,1,1⟩:Sl).cap,.slice (⟨some p13,1,1⟩:Sl).a (⟨some p13,1,1⟩:Sl).len (⟨some p13,1,1⟩:Sl).cap,.slice nilS.a nilS.len nilS.cap,.int .i64 0]) rfl rfl ?_
  refine ho5.newb zad fun p14 D5 h6 d5 l6 ho6 c14=>?_
  have e12:D5.cell p12=some (.int .i64 p):=by
   have:=c12 0 _ rfl
   rw [zba] at this
   exact Hp.cell_le (Hp.le_trans d4 d5) this
  have e13:D5.cell p13=some (.int .i64 A.circle):=by
   have:=c13 0 _ rfl
   rw [zba] at this
   exact Hp.cell_le d5 this
  have hDD:D.le D5:=Hp.le_trans d3 (Hp.le_trans d4 d5)
  have hco:CO D5 ⟨13,⟨some p12,1,1⟩,⟨some p13,1,1⟩,nilS,0⟩ (mkOn p A.circle):=co_on (va:=nilS) (vs:=nilS) e12 e13
  have hck:CKC D5 p14 ⟨13,⟨some p12,1,1⟩,⟨some p13,1,1⟩,nilS,0⟩:=c14
  refine ho6.call zad (K1:=fun b h'=>(b=true↔∃c∈S.con,onC c p A.circle)) ?_ fun b D6 h7 d6 ho7 hb=>?_
  · exact znf (hS.le hDD).2.2.2.2.2 (by have:=hs.2.2.2.2.2.1; omega) (fun c hc=>hv.one hs hc) hck hco fun b h' hl hb=>hb
  have hck6:CKC D6 p14 ⟨13,⟨some p12,1,1⟩,⟨some p13,1,1⟩,nilS,0⟩:=fun i v hv=>Hp.cell_le d6 (hck i v hv)
  refine za7 (fun h8=>?_) (fun h8=>?_)
  · have hb':¬∃c∈S.con,onC c p A.circle:=fun hh=>by rw [hb.2 hh] at h8; cases h8
    refine znf (ho7.lr zad) (by omega) hone (fun i v hv=>Hp.cell_le ho7.dle (hck6 i v hv)) ((hco.le d6).le ho7.dle) fun b9 h9 hl9 hb9=>?_
    have ho9:=ho7.le hl9
    refine za7 (fun h10=>?_) (fun h10=>?_)
    · have hb9':¬∃c∈out,onC c p A.circle:=fun hh=>by rw [hb9.2 hh] at h10; cases h10
      have c9:∀i v,(cc ⟨13,⟨some p12,1,1⟩,⟨some p13,1,1⟩,nilS,0⟩)[i]?=some v→h9.cell (p14.add i)=some v:=fun i v hv=>Hp.cell_le ho9.dle (hck6 i v hv)
      refine ⟨_,c9 0 _ rfl,_,c9 1 _ rfl,_,c9 2 _ rfl,_,c9 3 _ rfl,_,c9 4 _ rfl,?_⟩
      refine ho9.app zad (bytes:=88) (zero:=[.int .i64 0,.slice nilS.a nilS.len nilS.cap,.slice nilS.a nilS.len nilS.cap,.slice nilS.a nilS.len nilS.cap,.int .i64 0]) (x:=⟨13,⟨some p12,1,1⟩,⟨some p13,1,1⟩,nilS,0⟩) (b:=mkOn p A.circle) (by rfl) (by omega) (by omega) (hco.le d6) fun y' h11 ho11=>?_
      refine hK y' D6 h11 (Hp.le_trans hDD d6) ?_
      · have:addOn S.con out p A.circle=out++[mkOn p A.circle]:=by
         unfold addOn
         rw [if_neg]
         rintro ⟨c,hc,hon⟩
         rcases List.mem_append.1 hc with hc | hc
         · exact hb' ⟨c,hc,hon⟩
         · exact hb9' ⟨c,hc,hon⟩
        rw [this]; exact ho11
    · have hb9':∃c∈out,onC c p A.circle:=hb9.1 (by simpa using h10)
      refine hK y D6 h9 (Hp.le_trans hDD d6) ?_
      · have:addOn S.con out p A.circle=out:=by
         unfold addOn
         rw [if_pos]
         obtain ⟨c,hc,hon⟩:=hb9'
         exact ⟨c,List.mem_append_right _ hc,hon⟩
        rw [this]; exact ho9
  · have hb':∃c∈S.con,onC c p A.circle:=hb.1 (by simpa using h8)
    refine hK y D6 h7 (Hp.le_trans hDD d6) ?_
    · have:addOn S.con out p A.circle=out:=by
       unfold addOn
       rw [if_pos]
       obtain ⟨c,hc,hon⟩:=hb'
       exact ⟨c,List.mem_append_left _ hc,hon⟩
      rw [this]; exact ho7
theorem znl (hx:SK h s S) (hv:VS S) (hs:sSk S) (H:∀y h',h.le h'→LR cc 5 CO h' y (imp S)→Ks y h'):callP (F.zfa s) Ks h:=by
 refine za1 (fun y h'=>LR cc 5 CO h' y (imp S)) (fun K' hk=>?_) fun b h' hl hb=>H b h' hl hb
 unfold F.zfa
 have l4:=hx.2.2.2.1.len zei
 have s4:=hs.2.2.2.1
 refine zbz (n:=S.arc.length) (by omega) (fun i y h'=>∃D,h.le D∧LO cc 5 CO D h' y (impL S.con (S.arc.take i))) ⟨h,Hp.le_refl _,LO.nil⟩ ?_
 rintro i y h1 hi ⟨D,hD,ho⟩ k hk2
 refine za0 (fun h2=>?_) (fun h2=>?_)
 · have hi':i<S.arc.length:=by simp only at h2; omega
   have hlen:=zmr S.con S.arc i hi
   refine zwz (hx.le (Hp.le_trans hD ho.dle)) i rfl hi' fun a hc=>⟨_,hc 0 _ rfl,_,hc 1 _ rfl,_,hc 2 _ rfl,_,hc 3 _ rfl,?_⟩
   refine ho.newb zad fun p5 D2 h3 d2 l3 ho3 c5=>?_
   have hD2:=Hp.le_trans hD d2
   obtain ⟨A,hA⟩:∃A,A=S.arc[i]:=⟨_,rfl⟩
   rw [←hA] at c5 ⊢
   obtain ⟨out,hout⟩:∃out,out=impL S.con (S.arc.take i):=⟨_,rfl⟩
   rw [←hout] at ho3 hlen
   have hone:∀c∈out,VC1 c:=by rw [hout]; exact zxb i hi
   obtain ⟨st,hst⟩:∃st:Nat→List PCon,st=fun j=>if j=0 then out else if j=1 then addOn S.con out A.a A.circle else addArc S.con out A:=⟨_,rfl⟩
   have st0:st 0=out:=by rw [hst]; rfl
   have st1:st 1=addOn S.con out A.a A.circle:=by rw [hst]; rfl
   have st2:st 2=addArc S.con out A:=by rw [hst]; rfl
   have a1:=zl9 S.con out A.a A.circle
   have hl5:IL D2 ⟨some p5,2,2⟩ [A.a,A.b]:=⟨zeg c5 rfl,Nat.le_refl _⟩
   refine zbz (n:=2) (by omega) (fun j y h'=>∃D,D2.le D∧LO cc 5 CO D h' y (st j)) ⟨D2,Hp.le_refl _,by rw [st0]; exact ho3⟩ ?_
   rintro j z h4 hj ⟨D3,d3,ho4⟩ k2 hk3
   refine za0 (fun h5=>?_) (fun h5=>?_)
   · have hj':j<2:=by have:(j:Int)<((2:Nat):Int):=h5; omega
     refine za3 (fun s h'=>∃D,D2.le D∧LO cc 5 CO D h' s.1 (st (j+1))) (fun s h' hs=>hk3 _ _ hj' hs) ?_
     refine (hl5.le (Hp.le_trans d3 ho4.dle)).get j rfl hj' ?_
     have fin:∀(p:Int),st (j+1)=addOn S.con (st j) p A.circle→∀y' D' h',D3.le D'→LO cc 5 CO D' h' y' (addOn S.con (st j) p A.circle)→(fun (s:Sl×Unit) h'=>∃D,D2.le D∧LO cc 5 CO D h' s.1 (st (j+1))) (y',()) h':=
      fun p hp y' D' h' hd hl=>⟨D',Hp.le_trans d3 hd,by rw [hp]; exact hl⟩
     have hS3:SK D3 s S:=hx.le (Hp.le_trans hD2 d3)
     rcases (by omega:j=0∨j=1) with rfl | rfl
     · exact zu6 (A:=A) (K:=fun (s:Sl×Unit) h'=>∃D,D2.le D∧LO cc 5 CO D h' s.1 (st (0+1))) hv hs (by rw [st0]; omega) (by rw [st0]; exact hone) hS3 ho4 (fin A.a (by rw [st1,st0]))
     · exact zu6 (A:=A) (K:=fun (s:Sl×Unit) h'=>∃D,D2.le D∧LO cc 5 CO D h' s.1 (st (1+1))) hv hs (by rw [st1]; omega) (by rw [st1]; exact zl8 hone zqu) hS3 ho4 (fin A.b (by rw [st2,st1]; rfl))
   · have:j=2:=by have:¬(j:Int)<((2:Nat):Int):=h5; omega
     subst this
     refine hk2 _ _ hi' ⟨D3,Hp.le_trans hD2 d3,?_⟩
     rw [zld hi',←hout,←hA,←st2]
     exact ho4
 · have:i=S.arc.length:=by simp only at h2; omega
   subst this
   rw [List.take_length] at ho
   exact hk _ _ (Hp.le_trans hD ho.dle) (ho.lr zad)
end
end Den
end

section
namespace Den
open Go Iv Lx
def zC:List Value:=[.int .i64 0,.slice nilS.a nilS.len nilS.cap,.slice nilS.a nilS.len nilS.cap,.slice nilS.a nilS.len nilS.cap,.int .i64 0]
section
variable {h : Hp} {s : TSketch} {S : PSk} {Kb : Bool → Hp → Prop} {Ki : Int → Hp → Prop} {Ks : Sl → Hp → Prop} {l m : Sl} {xs ys : List Int}
theorem za6y {x:TConstraint} {c:PCon} {p k:Int} (hx:CO h x c) (hv:VC1 c) (H:∀b,(b=true↔onC c p k)→Kb b h):callP (F.zl2 x p k) Kb h:=by
 refine za1 (fun b h'=>h'=h∧(b=true↔onC c p k)) (fun K' hk=>?_) fun b h' _ hb=>by obtain ⟨rfl,hb⟩:=hb; exact H b hb
 unfold F.zl2
 obtain ⟨x1,x2,x3,x4,x5⟩:=hx
 rw [x1]
 have no:¬onC c p k→K' false h:=fun hn=>hk _ _ (Hp.le_refl _) ⟨rfl,fun hh=>(by cases hh),fun hh=>absurd hh hn⟩
 refine zaa (fun h1=>?_) (fun h1=>no fun hh=>h1 hh.1)
 obtain ⟨w1,w2,w3,w4⟩:=hv.2.2 h1
 obtain ⟨a,ha⟩:=List.length_eq_one_iff.1 w1
 obtain ⟨b,hb⟩:=List.length_eq_one_iff.1 w2
 rw [ha] at x2
 rw [hb] at x3
 unfold onC at no hk
 rw [ha,hb] at no hk
 refine x2.get 0 rfl (by simp) ?_
 simp only [List.getElem_cons_zero]
 refine zaa (fun h2=>?_) (fun h2=>no fun hh=>h2 (by have:=hh.2.1; simpa using this))
 refine x3.get 0 rfl (by simp) ?_
 simp only [List.getElem_cons_zero]
 refine hk _ _ (Hp.le_refl _) ⟨rfl,?_⟩
 rw [beq_iff_eq]
 exact ⟨fun hh=>⟨h1,by rw [h2],by rw [hh]⟩,fun hh=>by have:=hh.2.2; simpa using this⟩
theorem zsi {A:TArc} {out:List PCon} {p:Int} {y:Sl} {D:Hp} {p8:Addr} {j:Nat} {K:Sl×Unit→Hp→Prop} (hs:sSk S) (hlen:(S.con++out).length≤100) (hone:∀c∈S.con++out,VC1 c) (ho:LO cc 5 CO D h y (S.con++out)) (h8:IL D ⟨some p8,2,2⟩ [A.a,A.b]) (hj:j<2) (hp:p=[A.a,A.b][j])
 (hK:∀y' D' h',D.le D'→LO cc 5 CO D' h' y' (S.con++addOn S.con out p A.circle)→K (y',()) h') :
 (loopP (S:=Bool×Int×Unit) (fun s13 k14 h7=>
 (ifP (decide (s13.2.1<(y.len:Int)))
 (joinP (S:=Bool×Unit) (fun s15 h8=>
 (k14 (s15.1,(IntKind.i64.wrap (s13.2.1+1)),()) h8))
 (fun k16=>
 (ifP s13.1
 (k16 (true,()) h7)
 (idxP y s13.2.1 5 fun a17=>
 (ldL (.int .i64) (a17.add 0) (fun x18_0=>
 (ldL (.sl) (a17.add 1) (fun x18_1=>
 (ldL (.sl) (a17.add 2) (fun x18_2=>
 (ldL (.sl) (a17.add 3) (fun x18_3=>
 (ldL (.int .i64) (a17.add 4) (fun x18_4=>
 (idxP (⟨some p8,2,2⟩:Sl) (j:Int) 1 fun a19=>
 (ldL (.int .i64) a19 (fun x20=>
 (callP (F.zl2 (⟨x18_0,x18_1,x18_2,x18_3,x18_4⟩:TConstraint) x20 A.circle) (fun r21 h9=>
 (k16 (r21,()) h9)) h7)) h7))) h7)) h7)) h7)) h7)) h7)))))
 (ifP (!s13.1)
 (idxP (⟨some p8,2,2⟩:Sl) (j:Int) 1 fun a22=>
 (ldL (.int .i64) a22 (fun x23=>
 (newP [.int .i64 x23] (fun p24 h10=>
 (newP [.int .i64 A.circle] (fun p25 h11=>
 (appP 5 88 [.int .i64 0,.slice nilS.a nilS.len nilS.cap,.slice nilS.a nilS.len nilS.cap,.slice nilS.a nilS.len nilS.cap,.int .i64 0] y 1 [.int .i64 13,.slice (⟨some p24,1,1⟩:Sl).a (⟨some p24,1,1⟩:Sl).len (⟨some p24,1,1⟩:Sl).cap,.slice (⟨some p25,1,1⟩:Sl).a (⟨some p25,1,1⟩:Sl).len (⟨some p25,1,1⟩:Sl).cap,.slice nilS.a nilS.len nilS.cap,.int .i64 0] (fun w26 h12=>
 (K (w26,()) h12)) h11)) h10)) h7)) h7))
 (K (y,()) h7))))
 (false,0,()) h):=by
  have hyl:=ho.len zad
  refine zbz (n:=(S.con++out).length) (by omega) (fun i b h'=>h'=h∧(b=true↔∃c∈(S.con++out).take i,onC c p A.circle)) ⟨rfl,by simp⟩ ?_
  rintro i b h hi ⟨rfl,hb⟩ k hk2
  refine za0 (fun h2=>?_) (fun h2=>?_)
  · have hi':i<(S.con++out).length:=by simp only at h2; omega
    refine za3 (fun s h'=>h'=h∧(s.1=true↔∃c∈(S.con++out).take (i+1),onC c p A.circle)) (fun s h' hs=>hk2 _ _ hi' hs) ?_
    have e:(∃c∈(S.con++out).take (i+1),onC c p A.circle)↔(∃c∈(S.con++out).take i,onC c p A.circle)∨onC (S.con++out)[i] p A.circle:=by
     rw [←List.take_append_getElem hi']
     constructor
     · rintro ⟨c,hc,hon⟩
       rcases List.mem_append.1 hc with hc | hc
       · exact .inl ⟨c,hc,hon⟩
       · rw [List.mem_singleton.1 hc] at hon; exact .inr hon
     · rintro (⟨c,hc,hon⟩ | hon)
       · exact ⟨c,List.mem_append_left _ hc,hon⟩
       · exact ⟨_,List.mem_append_right _ (List.mem_singleton.2 rfl),hon⟩
    refine za7 (fun h3=>⟨rfl,?_⟩) (fun h3=>?_)
    · rw [e]
      exact ⟨fun _=>.inl (hb.1 h3),fun _=>rfl⟩
    · refine (ho.lr zad).get zad i rfl hi' fun a x hxx hc=>?_
      refine ⟨_,hc 0 _ rfl,_,hc 1 _ rfl,_,hc 2 _ rfl,_,hc 3 _ rfl,_,hc 4 _ rfl,?_⟩
      refine (h8.le ho.dle).get j rfl hj ?_
      rw [←hp]
      refine za6y (x:=x) hxx (hone _ (List.getElem_mem _)) fun b hbb=>⟨rfl,?_⟩
      rw [e,hbb]
      exact ⟨fun hh=>.inr hh,fun hh=>hh.resolve_left fun hh2=>by simp only at h3; rw [hb.2 hh2] at h3; cases h3⟩
  · have:i=(S.con++out).length:=by simp only at h2; omega
    subst this
    rw [List.take_length] at hb
    refine za7 (fun h3=>?_) (fun h3=>?_)
    · have hb':¬∃c∈S.con++out,onC c p A.circle:=fun hh=>by simp only at h3; rw [hb.2 hh] at h3; cases h3
      refine (h8.le ho.dle).get j rfl hj ?_
      rw [←hp]
      refine ho.newb zad fun p24 D3 h4 d3 l4 ho4 c24=>ho4.newb zad fun p25 D4 h5 d4 l5 ho5 c25=>?_
      have e24:D4.cell p24=some (.int .i64 p):=by
       have:=c24 0 _ rfl
       rw [zba] at this
       exact Hp.cell_le d4 this
      have e25:D4.cell p25=some (.int .i64 A.circle):=by
       have:=c25 0 _ rfl
       rwa [zba] at this
      have hco:CO D4 ⟨13,⟨some p24,1,1⟩,⟨some p25,1,1⟩,nilS,0⟩ (mkOn p A.circle):=co_on (va:=nilS) (vs:=nilS) e24 e25
      refine ho5.app zad (bytes:=88) (zero:=zC) (x:=⟨13,⟨some p24,1,1⟩,⟨some p25,1,1⟩,nilS,0⟩) (b:=mkOn p A.circle) rfl (by omega) (by omega) hco fun y' h11 ho11=>?_
      refine hK y' D4 h11 (Hp.le_trans d3 d4) ?_
      have:addOn S.con out p A.circle=out++[mkOn p A.circle]:=by unfold addOn; rw [if_neg hb']
      rw [this,←List.append_assoc]; exact ho11
    · have hb':∃c∈S.con++out,onC c p A.circle:=hb.1 (by simpa using h3)
      refine hK y D h (Hp.le_refl _) ?_
      have:addOn S.con out p A.circle=out:=by unfold addOn; rw [if_pos hb']
      rw [this]; exact ho
theorem znh (hx:SK h s S) (hv:VS S) (hs:sSk S) (H:∀y h',h.le h'→LR cc 5 CO h' y (imp S)→Ks y h'):callP (F.zfy s) Ks h:=by
 refine za1 (fun y h'=>LR cc 5 CO h' y (imp S)) (fun K' hk=>?_) fun b h' hl hb=>H b h' hl hb
 unfold F.zfy
 have l4:=hx.2.2.2.1.len zei
 have l6:=hx.2.2.2.2.2.len zad
 have s4:=hs.2.2.2.1
 have s6:=hs.2.2.2.2.2.1
 refine za2v (c:=cc) (n:=5) (P:=CO) fun p1 h1 ho1=>?_
 refine ho1.appAll zad (bytes:=88) (zero:=zC) hx.2.2.2.2.2 rfl (by simp; omega) (by simp; omega) fun w3 h2 ho2=>?_
 rw [List.nil_append] at ho2
 refine zbz (n:=S.arc.length) (by omega) (fun i y h'=>∃D,h.le D∧LO cc 5 CO D h' y (S.con++impL S.con (S.arc.take i))) ⟨h,Hp.le_refl _,by simpa [impL] using ho2⟩ ?_
 rintro i y h3 hi ⟨D,hD,ho⟩ k hk2
 refine za0 (fun h4=>?_) (fun h4=>?_)
 · have hi':i<S.arc.length:=by simp only at h4; omega
   have hlen:=zmr S.con S.arc i hi
   refine zwz (hx.le (Hp.le_trans hD ho.dle)) i rfl hi' fun a hc=>⟨_,hc 0 _ rfl,_,hc 1 _ rfl,_,hc 2 _ rfl,_,hc 3 _ rfl,?_⟩
   refine ho.newb zad fun p5 D2 h3 d2 l3 ho3 c5=>?_
   have hD2:=Hp.le_trans hD d2
   obtain ⟨A,hA⟩:∃A,A=S.arc[i]:=⟨_,rfl⟩
   rw [←hA] at c5 ⊢
   obtain ⟨out,hout⟩:∃out,out=impL S.con (S.arc.take i):=⟨_,rfl⟩
   rw [←hout] at ho3 hlen
   have hone:∀c∈S.con++out,VC1 c:=by
    intro c hc
    rcases List.mem_append.1 hc with hc | hc
    · exact hv.one hs hc
    · rw [hout] at hc; exact zxb i hi c hc
   obtain ⟨st,hst⟩:∃st:Nat→List PCon,st=fun j=>if j=0 then out else if j=1 then addOn S.con out A.a A.circle else addArc S.con out A:=⟨_,rfl⟩
   have st0:st 0=out:=by rw [hst]; rfl
   have st1:st 1=addOn S.con out A.a A.circle:=by rw [hst]; rfl
   have st2:st 2=addArc S.con out A:=by rw [hst]; rfl
   have a1:=zl9 S.con out A.a A.circle
   have hl5:IL D2 ⟨some p5,2,2⟩ [A.a,A.b]:=⟨zeg c5 rfl,Nat.le_refl _⟩
   refine zbz (n:=2) (by omega) (fun j y h'=>∃D,D2.le D∧LO cc 5 CO D h' y (S.con++st j)) ⟨D2,Hp.le_refl _,by rw [st0]; exact ho3⟩ ?_
   rintro j z h4 hj ⟨D3,d3,ho4⟩ k2 hk3
   refine za0 (fun h5=>?_) (fun h5=>?_)
   · have hj':j<2:=by have:(j:Int)<((2:Nat):Int):=h5; omega
     refine za3 (fun s h'=>∃D,D2.le D∧LO cc 5 CO D h' s.1 (S.con++st (j+1))) (fun s h' hs=>hk3 _ _ hj' hs) ?_
     rcases (by omega:j=0∨j=1) with rfl | rfl
     · refine zsi (A:=A) (out:=st 0) (p:=A.a) (j:=0) (K:=fun (s:Sl×Unit) h'=>∃D,D2.le D∧LO cc 5 CO D h' s.1 (S.con++st (0+1))) hs (by rw [st0,List.length_append]; omega) (by rw [st0]; exact hone) ho4 (hl5.le d3) (by decide) rfl fun y' D' h' hd hl=>⟨D',Hp.le_trans d3 hd,?_⟩
       rw [show st (0+1)=st 1 from rfl,st1,←st0]; exact hl
     · refine zsi (A:=A) (out:=st 1) (p:=A.b) (j:=1) (K:=fun (s:Sl×Unit) h'=>∃D,D2.le D∧LO cc 5 CO D h' s.1 (S.con++st (1+1))) hs (by rw [st1,List.length_append]; omega) ?_ ho4 (hl5.le d3) (by decide) rfl fun y' D' h' hd hl=>⟨D',Hp.le_trans d3 hd,?_⟩
       · intro c hc
         rcases List.mem_append.1 hc with hc | hc
         · exact hv.one hs hc
         · rw [st1] at hc
           exact zl8 (fun c hc=>hone c (List.mem_append_right _ hc)) zqu c hc
       · rw [show st (1+1)=st 2 from rfl,st2]
         have:addArc S.con out A=addOn S.con (st 1) A.b A.circle:=by rw [st1]; rfl
         rw [this]; exact hl
   · have:j=2:=by have:¬(j:Int)<((2:Nat):Int):=h5; omega
     subst this
     refine hk2 _ _ hi' ⟨D3,Hp.le_trans hD2 d3,?_⟩
     rw [zld hi',←hout,←hA,←st2]
     exact ho4
 · have:i=S.arc.length:=by simp only at h4; omega
   subst this
   rw [List.take_length] at ho
   have hyl:=ho.len zad
   have hyr:=ho.lr zad
   rw [List.length_append] at hyl
   have hcap:=hyr.cap
   refine ⟨by omega,by simp only; omega,by simp only; omega,hk _ _ (Hp.le_trans hD ho.dle) ?_⟩
   have:=hyr.drop zad (k:=S.con.length) (m:=y.len) (by rw [List.length_append]; omega) (by rw [List.length_append]; omega)
   rw [List.drop_left] at this
   have e1:((s.constraints.len:Int)).toNat=S.con.length:=by omega
   have e2:((y.len:Int)).toNat=y.len:=rfl
   simp only
   rw [e1,e2]; exact this
theorem za36 (hx:SK h s S) (hv:VS S) (hs:sSk S) (H:∀y h',h.le h'→LR cc 5 CO h' y (allC S)→Ks y h'):callP (F.zll s) Ks h:=by
 refine za1 (fun y h'=>LR cc 5 CO h' y (allC S)) (fun K' hk=>?_) fun b h' hl hb=>H b h' hl hb
 unfold F.zll
 have s6:=hs.2.2.2.2.2.1
 have hi:=zoh S
 have s4:=hs.2.2.2.1
 refine za2v (c:=cc) (n:=5) (P:=CO) fun p1 h1 ho1=>?_
 refine ho1.appAll zad (bytes:=88) (zero:=zC) hx.2.2.2.2.2 rfl (by simp; omega) (by simp; omega) fun w3 h2 ho2=>?_
 rw [List.nil_append] at ho2
 refine ho2.call zad (K1:=fun y h'=>LR cc 5 CO h' y (imp S)) (znh hx hv hs fun y h' _ hy=>hy) fun r4 D h3 d1 ho3 h4=>?_
 refine ho3.appAll zad (bytes:=88) (zero:=zC) h4 rfl (by omega) (by omega) fun w6 h5 ho5=>hk _ _ (Hp.le_trans d1 ho5.dle) (ho5.lr zad)
theorem zx5 {i:Int} {K:Addr→Prop} (hx:SK h s S) (k:Nat) (hi:i=k) (hk:k<S.cir.length) (H:∀a (x:TRound),x.center=(cens S)[k]'(by unfold cens; simpa using hk)→(∀j v,(rdc x)[j]?=some v→h.cell (a.add j)=some v)→K a):idxP s.circles i 5 K:=
 hx.2.1.get zdw k hi hk fun a x hxx hc=>H a x (by rw [hxx.1]; simp [cens]) hc
theorem zkq:(cens S).length=S.cir.length:=by simp [cens]
theorem zsp (hx:SK h s S) (hs:sSk S) (H:∀y h',h.le h'→OI h h' y (cens S)→Ks y h'):callP (F.znu s) Ks h:=by
 refine za1 (fun y h'=>OI h h' y (cens S)) (fun K' hk=>?_) fun b h' hl hb=>H b h' hl hb
 unfold F.znu
 have l2:=hx.2.1.len zdw
 have s2:=hs.2.1
 have cl:=zkq (S:=S)
 refine zbz (n:=S.cir.length) (by omega) (fun i y h'=>OI h h' y ((cens S).take i)) (by simpa using OI.nil) ?_
 intro i y h1 hi ho k hk2
 refine za0 (fun h2=>?_) (fun h2=>?_)
 · have hi':i<S.cir.length:=by simp only at h2; omega
   refine zx5 (hx.le ho.dle) i rfl hi' fun a x hxx hc=>⟨_,hc 0 _ rfl,_,hc 1 _ rfl,_,hc 2 _ rfl,_,hc 3 _ rfl,_,hc 4 _ rfl,?_⟩
   refine ho.app (by rw [List.length_take]; omega) fun z h3 ho3=>hk2 _ _ hi' ?_
   rw [hxx,List.take_append_getElem] at ho3
   exact ho3
 · have:i=S.cir.length:=by simp only at h2; omega
   subst this
   rw [←cl,List.take_length] at ho
   exact hk _ _ ho.dle ho
end
end Den
end

section
namespace Den
open Go Iv Lx
def cirOk (c:PCon) (cs:List Int):Prop:=∀k∈c.cir,0≤k∧k<cs.length
theorem VC.cirOk {c:PCon} {n:Int} {S:PSk} (hv:VC c n S.cir.length):cirOk c (cens S):=fun k hk=>by
 have:=hv.2.2.1.2 k hk
 rw [zkq]; exact this
def withC (c:PCon):Prop:=c.kind=13∨c.kind=16∨c.kind=17
instance (c:PCon):Decidable (withC c):=by unfold withC; infer_instance
theorem zxe {c:PCon} {cs:List Int} {k:Int} (h:withC c):itK c cs k=[-1-k,cs.getD k.toNat 0]:=by unfold itK; exact if_pos h
theorem zxd {c:PCon} {cs:List Int} {k:Int} (h:¬withC c):itK c cs k=[-1-k]:=by unfold itK; exact if_neg h
theorem zm7 {c:PCon} {cs:List Int}:∀l:List Int,(l.flatMap (itK c cs)).length≤2*l.length:=by
 intro l
 induction l with
 | nil=>simp
 | cons a r ih=>
   have:=zxc c cs a
   simp only [List.flatMap_cons,List.length_append,List.length_cons]
   omega
theorem zi7 {c:PCon} {cs:List Int} {l:List Int} {i:Nat} (hi:i<l.length):(l.take (i+1)).flatMap (itK c cs)=(l.take i).flatMap (itK c cs)++itK c cs l[i]:=by
 rw [←List.take_append_getElem hi,List.flatMap_append]
 simp
section
variable {h : Hp} {x : TConstraint} {c : PCon} {cs : List Int} {ce : Sl} {Kb : Bool → Hp → Prop} {Ki : Int → Hp → Prop} {Ks : Sl → Hp → Prop}
theorem zui {k:Int} {n:Nat} (h0:0≤k) (h1:k<n) (h2:n≤1000000):IntKind.i64.wrap (-1-k)=-1-k:=w64 (by omega)
theorem zw2 (hx:CO h x c) (hc:IL h ce cs) (hs:sC c) (hok:cirOk c cs) (hcl:cs.length≤1000) (H:∀y h',h.le h'→OI h h' y (itemsC c cs)→Ks y h'):callP (F.zqc x ce) Ks h:=by
 refine za1 (fun y h'=>OI h h' y (itemsC c cs)) (fun K' hk=>?_) fun b h' hl hb=>H b h' hl hb
 unfold F.zqc
 obtain ⟨x1,x2,x3,x4,x5⟩:=hx
 obtain ⟨s1,s2,s3,s4⟩:=hs
 rw [x1]
 have cl:=x3.len
 refine zp1 x2 (by omega) fun w3 h2 ho2=>?_
 refine zbz (n:=c.cir.length) (by omega) (fun i y h'=>OI h h' y (c.pts++(c.cir.take i).flatMap (itK c cs))) (by simpa using ho2) ?_
 intro i y h3 hi ho k hk2
 have hfl:=zm7 (c:=c) (cs:=cs) (c.cir.take i)
 rw [List.length_take] at hfl
 refine za0 (fun h4=>?_) (fun h4=>?_)
 · have hi':i<c.cir.length:=by simp only at h4; omega
   have hkk:=hok _ (List.getElem_mem hi')
   refine za3 (fun s h'=>OI h h' s.1 (c.pts++(c.cir.take (i+1)).flatMap (itK c cs))) (fun s h' hs=>hk2 _ _ hi' hs) ?_
   refine (x3.le ho.dle).get i rfl hi' ?_
   rw [zui hkk.1 hkk.2 (by omega)]
   refine ho.app (by rw [List.length_append]; omega) fun w h5 ho5=>?_
   refine za3 (fun s h'=>h'=h5∧s.1=decide (withC c)) ?_ ?_
   · rintro ⟨b,_⟩ h5 ⟨rfl,hb⟩
     simp only at hb
     subst hb
     refine za0 (fun hw=>?_) (fun hw=>?_)
     · refine (hc.le ho5.dle).get c.cir[i].toNat (by omega) (by omega) ?_
       refine ho5.app (by rw [List.length_append,List.length_append,List.length_singleton]; omega) fun w2 h6 ho6=>?_
       show OI _ _ _ _
       rw [zi7 hi',zxe hw,zbb (by omega)]
       simpa [List.append_assoc] using ho6
     · show OI _ _ _ _
       rw [zi7 hi',zxd hw,←List.append_assoc]
       exact ho5
   · refine zaa (fun h6=>⟨rfl,?_⟩) (fun h6=>zaa (fun h7=>⟨rfl,?_⟩) (fun h7=>⟨rfl,?_⟩))
     · simp only; rw [decide_eq_true (show withC c from .inl h6),h6]; rfl
     · simp only; rw [decide_eq_true (show withC c from .inr (.inl h7)),h7]; rfl
     · simp only
       by_cases h8:c.kind=17
       · rw [decide_eq_true (show withC c from .inr (.inr h8)),h8]; rfl
       · rw [decide_eq_false (show ¬withC c by unfold withC; omega),beq_eq_false_iff_ne]; exact h8
 · have:i=c.cir.length:=by simp only at h4; omega
   subst this
   rw [List.take_length] at ho
   exact hk _ _ ho.dle ho
end
section
variable {h : Hp} {s : TSketch} {S : PSk} {Kb : Bool → Hp → Prop} {Ki : Int → Hp → Prop} {Ks : Sl → Hp → Prop} {l m : Sl} {xs ys : List Int}
theorem zzi {n:Nat} (hn:n≤1000000) (H:∀y h',h.le h'→LO cc 5 CO h h' y []→Ks y h'):callP (F.zbo nilS (n:Int)) Ks h:=by
 refine za1 (fun y h'=>LO cc 5 CO h h' y []) (fun K' hk=>?_) fun b h' hl hb=>H b h' hl hb
 unfold F.zbo
 have e0:IntKind.i64.wrap (((nilS.cap:Nat):Int)-(nilS.len:Int))=0:=by rw [show ((nilS.cap:Nat):Int)-(nilS.len:Int)=0 from rfl]; exact w64 (by omega)
 have e1:IntKind.i64.wrap ((n:Int)-0)=(n:Int):=by rw [Int.sub_zero]; exact w64 (by omega)
 refine za3 (fun _ h'=>h'=h) ?_ (za0 (fun h1=>by omega) (fun _=>rfl))
 rintro _ h rfl
 rw [e0,e1]
 refine za0 (fun h1=>?_) (fun h1=>hk _ _ (Hp.le_refl _) LO.nil)
 refine ⟨by omega,by decide,by decide,by omega,?_⟩
 have hown:Own h h 5 (nilS.cut 0 0 5) ([]:List Value):=⟨Hp.le_refl _,rfl,Nat.le_refl _,rfl⟩
 have ez:repl n zC=(List.replicate n (⟨0,nilS,nilS,nilS,0⟩:TConstraint)).flatMap cc:=by
  unfold repl
  rw [List.flatMap_replicate]
  rfl
 have key:appP 5 88 zC (nilS.cut 0 0 5) n (repl n zC) (fun w4 h2=>slP w4 0 ((nilS.len:Nat):Int) 5 fun c5=>K' c5 h2) h:=by
  refine zhz hown (n:=n) ?_ rfl ?_ (by show (0+n)*88≤_; omega) (by show 0+n≤_; omega) fun y h' hy hyl=>?_
  · rw [zn8]; rfl
  · rw [ez,List.all_flatMap,List.all_eq_true]
    exact fun x _=>rfl
  · have hcap:=hy.2.2.1
    have e9:nilS.len=0:=rfl
    refine ⟨by decide,by decide,by omega,hk _ _ hy.1 ?_⟩
    have hp:=hy.preN (k:=0) (by omega)
    refine ⟨[],?_,rfl,fun k h1 _=>by simp at h1⟩
    rw [Nat.zero_mul,List.take_zero] at hp
    exact hp
 exact key
theorem zor {qs rs:List PCon} {p:Addr} (hl:LR cc 5 CO h l qs) (hm:LR cc 5 CO h m rs) (hlen:qs.length+rs.length≤1000) (hp:Rd h 1 ⟨some p,2,2⟩ [Lf.sl.up l,Lf.sl.up m]) (H:∀y h',h.le h'→LR cc 5 CO h' y (qs++rs)→Ks y h') :
 callP (F.zb4 ⟨some p,2,2⟩) Ks h:=by
 refine za1 (fun y h'=>LR cc 5 CO h' y (qs++rs)) (fun K' hk=>?_) fun b h' hl hb=>H b h' hl hb
 unfold F.zb4
 have ll:=hl.len zad
 have ml:=hm.len zad
 have g0:∀{h':Hp} {K:Sl→Prop},h.le h'→K l→idxP (⟨some p,2,2⟩:Sl) ((0:Nat):Int) 1 fun a=>ldL .sl a K h':=fun {h'} {K} hle hK=>zr1 0 (hp.le hle) rfl rfl fun a ha=>⟨l,ha,hK⟩
 have g1:∀{h':Hp} {K:Sl→Prop},h.le h'→K m→idxP (⟨some p,2,2⟩:Sl) ((1:Nat):Int) 1 fun a=>ldL .sl a K h':=fun {h'} {K} hle hK=>zr1 1 (hp.le hle) rfl rfl fun a ha=>⟨m,ha,hK⟩
 refine zbz (n:=2) (by omega) (fun i a h'=>h'=h∧a=if i=0 then 0 else if i=1 then (qs.length:Int) else ((qs.length+rs.length:Nat):Int)) ⟨rfl,rfl⟩ ?_
 rintro i a h hi ⟨rfl,ha⟩ k hk2
 refine za0 (fun h1=>?_) (fun h1=>?_)
 · have hi':i<2:=by have:(i:Int)<((2:Nat):Int):=h1; omega
   refine za3 (fun s h'=>h'=h∧s.1=if i+1=0 then 0 else if i+1=1 then (qs.length:Int) else ((qs.length+rs.length:Nat):Int)) (fun s h' hs=>hk2 _ _ hi' hs) ?_
   rcases (by omega:i=0∨i=1) with rfl | rfl
   · refine g0 (Hp.le_refl _) ?_
     have ha:a=0:=ha
     have e:IntKind.i64.wrap (a+(l.len:Int))=(qs.length:Int):=by rw [ha,ll,Int.zero_add]; exact w64 (by omega)
     simp only
     rw [e]
     refine za0 (fun h2=>by omega) (fun _=>⟨by trivial,by trivial⟩)
   · refine g1 (Hp.le_refl _) ?_
     have ha:a=(qs.length:Int):=ha
     have e:IntKind.i64.wrap (a+(m.len:Int))=((qs.length+rs.length:Nat):Int):=by rw [ha,ml]; rw [w64 (by omega)]; omega
     simp only
     rw [e]
     refine za0 (fun h2=>by omega) (fun _=>⟨by trivial,by trivial⟩)
 · have hi':i=2:=by have:¬(i:Int)<((2:Nat):Int):=h1; omega
   subst hi'
   have ha:a=((qs.length+rs.length:Nat):Int):=ha
   simp only
   rw [ha]
   refine zzi (by omega) fun r7 h3 hl3 ho3=>?_
   refine zbz (n:=2) (by omega) (fun i y h'=>LO cc 5 CO h h' y (if i=0 then [] else if i=1 then qs else qs++rs)) ho3 ?_
   intro i y h4 hi ho4 k hk3
   refine za0 (fun h5=>?_) (fun h5=>?_)
   · have hi':i<2:=by have:(i:Int)<((2:Nat):Int):=h5; omega
     rcases (by omega:i=0∨i=1) with rfl | rfl
     · refine g0 ho4.dle ?_
       have ho4:LO cc 5 CO h h4 y []:=ho4
       exact ho4.appAll zad (bytes:=88) (zero:=zC) hl rfl (by simp; omega) (by simp; omega) fun w h6 ho6=>hk3 _ _ (by decide) ho6
     · refine g1 ho4.dle ?_
       have ho4:LO cc 5 CO h h4 y qs:=ho4
       exact ho4.appAll zad (bytes:=88) (zero:=zC) hm rfl (by omega) (by omega) fun w h6 ho6=>hk3 _ _ (by decide) ho6
   · have hi':i=2:=by have:¬(i:Int)<((2:Nat):Int):=h5; omega
     subst hi'
     have ho4:LO cc 5 CO h h4 y (qs++rs):=ho4
     exact hk _ _ ho4.dle (ho4.lr zad)
end
end Den
end

section
namespace Den
open Go Iv Lx
def ILP (h:Hp) (x:Sl) (xs:List Int):Prop:=IL h x xs
theorem ziv:Rec slc 1 ILP:=⟨fun _=>rfl,by decide,fun _=>rfl,fun hx hl=>IL.le hx hl⟩
def items9 (s:TSketch) (lS itS ceS:Sl):List Value:=[Lf.sl.up s.points,Lf.sl.up s.circles,Lf.sl.up s.segments,Lf.sl.up s.arcs,Lf.sl.up s.chains,Lf.sl.up s.constraints,Lf.sl.up lS,Lf.sl.up itS,Lf.sl.up ceS]
def MB (h:Hp) (b:Nat) (cs:List Value):Prop:=∃e,h b=some ⟨cs,e,(0,0)⟩
theorem MB.ld {h:Hp} {b:Nat} {cs:List Value} (hb:MB h b cs) (j:Nat) {v:Value} (hv:cs[j]?=some v):h.cell ((⟨b,0,none⟩:Addr).add j)=some v:=by
 obtain ⟨e,hb⟩:=hb
 unfold Hp.cell
 rw [zbf,zdd rfl,zcl]
 simpa [hb] using hv
theorem MB.le {h h':Hp} {b:Nat} {cs:List Value} (hb:MB h b cs) (hl:h.le h'):MB h' b cs:=by
 obtain ⟨e,hb⟩:=hb
 exact ⟨e,hl _ _ hb⟩
theorem MB.st {h:Hp} {b j:Nat} {cs:List Value} {v:Value} {K:Hp→Prop} (hb:MB h b cs) (hj:j<cs.length) (hv:Value.leaf v=true)
 (H:∀h',MB h' b (cs.set j v)→(∀i,i≠b→h' i=h i)→K h'):stP ((⟨b,0,none⟩:Addr).add j) [v] K h:=by
 obtain ⟨e,hb⟩:=hb
 refine ⟨_,by rw [zbf]; exact hb,zdd rfl _,rfl,?_,by simp [hv],?_⟩
 · rw [zcl]; simp; omega
 · rw [zbf,zcl]
   refine H _ ⟨e,?_⟩ fun i hi=>Hp.ins_ne hi
   rw [Hp.ins_same]
   simp only [Nat.zero_add]
   rw [zim,List.set_eq_take_append_cons_drop,if_pos hj]
theorem zu7 {h h':Hp} {b:Nat} {bl:Blk} (hb:h' b=some bl) (hs:∀i,i≠b→h' i=h i):h'=h.ins b bl:=by
 funext i
 by_cases hi:i=b
 · subst hi; rw [Hp.ins_same,hb]
 · rw [Hp.ins_ne hi,hs i hi]
theorem zps {h0 h:Hp} {x:Sl} {cs:List Value} {n m:Nat} {bl:Blk} (ho:Own h0 h m x cs) (hn:h0 n=none) (hne:∀a,x.a=some a→a.block≠n):Own h0 (h.ins n bl) m x cs:=by
 obtain ⟨h1,h2,h3,h4⟩:=ho
 refine ⟨fun k b hk=>?_,h2,h3,?_⟩
 · have:k≠n:=fun hh=>by subst hh; rw [hn] at hk; cases hk
   rw [Hp.ins_ne this]; exact h1 k b hk
 · cases ha:x.a with
   | none=>rw [ha] at h4; exact h4
   | some a=>
     rw [ha] at h4
     obtain ⟨g1,g2,g3,b,g4,g5⟩:=h4
     exact ⟨g1,g2,g3,b,by rw [Hp.ins_ne (hne a ha)]; exact g4,g5⟩
theorem zuq {h0 h D:Hp} {x:Sl} {cs:List Value} {m:Nat} (ho:Own h0 h m x cs) (hD:∀a,x.a=some a→D a.block=h a.block):Rd D m x cs:=by
 have hr:=ho.rd
 obtain ⟨h1,h2,h3,h4⟩:=ho
 refine ⟨hr.1,?_⟩
 cases ha:x.a with
 | none=>have:=hr.2; rw [ha] at this; exact this
 | some a=>
   rw [ha] at h4
   obtain ⟨g1,g2,g3,b,g4,g5,g6,g7⟩:=h4
   have hle:cs.length≤b.cells.length:=by rw [g6,←h2]; exact Nat.mul_le_mul_right _ h3
   simp only [cellsAtO]
   rw [zjz (by rw [hD a ha]; exact g4) g2 (by omega),g1]
   simp [g7]
def PR (h:Hp) (p:Addr) (S:PSk):Prop:=∃s lS itS ceS,SK h s S∧(∀j v,(items9 s lS itS ceS)[j]?=some v→h.cell (p.add j)=some v)∧LR cc 5 CO h lS (allC S)∧LR slc 1 ILP h itS ((allC S).map fun c=>itemsC c (cens S))∧IL h ceS (cens S)
theorem PR.le {h h':Hp} {p:Addr} {S:PSk} (hp:PR h p S) (hl:h.le h'):PR h' p S:=by
 obtain ⟨s,lS,itS,ceS,h1,h2,h3,h4,h5⟩:=hp
 exact ⟨s,lS,itS,ceS,h1.le hl,fun j v hv=>Hp.cell_le hl (h2 j v hv),h3.le zad hl,h4.le ziv hl,h5.le hl⟩
section
variable {h : Hp} {s : TSketch} {S : PSk} {Kp : Option Addr → Hp → Prop}
theorem zo5 (hx:SK h s S) (hv:VS S) (hs:sSk S) (H:∀p h',h.le h'→PR h' p S→Kp (some p) h'):callP (F.ze6 s) Kp h:=by
 refine za1 (fun y h'=>∃p,y=some p∧PR h' p S) (fun K' hk=>?_) fun b h' hl ⟨p,hp,hb⟩=>by subst hp; exact H p h' hl hb
 unfold F.ze6
 have hal:=zis hs
 have hok:=zf5 hv hs
 have s6:=hs.2.2.2.2.2.1
 have hi:=zoh S
 have s4:=hs.2.2.2.1
 have s2:=hs.2.1
 have cl:=zkq (S:=S)
 refine znl hx hv hs fun r1 h1 hl1 hr1=>?_
 refine zuj (cells:=[Lf.sl.up s.constraints,Lf.sl.up r1]) 1 2 rfl fun p2 h2 hl2 hp2=>?_
 refine zor ((hx.le (Hp.le_trans hl1 hl2)).2.2.2.2.2) (hr1.le zad hl2) (by omega) hp2 fun lS h3 hl3 hL=>?_
 have hle3:=Hp.le_trans hl1 (Hp.le_trans hl2 hl3)
 have hx3:=hx.le hle3
 have hL:LR cc 5 CO h3 lS (allC S):=hL
 intro b e hbf
 have l2:=hx.2.1.len zdw
 have lL:=hL.len zad
 refine zd0 (n:=S.cir.length) (by omega) (fun i h'=>∃y,MB h' b (items9 s lS nilS y)∧OI h3 h' y ((cens S).take i)∧∀a,y.a=some a→a.block≠b) ⟨nilS,⟨e,Hp.ins_same _ _ _⟩,by rw [List.take_zero]; exact Own.nil (Hp.le_ins hbf),fun a ha=>by cases ha⟩ ?_
 rintro i h5 hi ⟨y,hm,ho,hab⟩ k hk2
 have h3b:h3 b=none:=hbf
 refine za0 (fun h6=>?_) (fun h6=>?_)
 · have hi':i<S.cir.length:=by simp only at h6; omega
   refine zx5 (hx3.le ho.dle) i rfl hi' fun a x hxx hc=>⟨_,hc 0 _ rfl,_,hc 1 _ rfl,_,hc 2 _ rfl,_,hc 3 _ rfl,_,hc 4 _ rfl,_,hm.ld 8 rfl,?_⟩
   have hyl:=ho.il.len
   rw [List.length_take] at hyl
   refine zko ho (n:=1) (new:=[ic x.center]) rfl rfl rfl (by omega) (by omega) fun z h7 hz _ hs7 hb7=>?_
   have hbb:h5 b≠none:=by obtain ⟨e,hm⟩:=hm; rw [hm]; simp
   have hm7:MB h7 b (items9 s lS nilS y):=by
    obtain ⟨e,hm⟩:=hm
    exact ⟨e,by rw [hs7 b hbb fun a ha=>(hab a ha).symm]; exact hm⟩
   have hzb:∀a,z.a=some a→a.block≠b:=fun a ha hh=>by
    rcases hb7 a ha with ⟨a',h8,h9⟩ | h8
    · exact hab a' h8 (by rw [h9]; exact hh)
    · rw [hh] at h8; exact hbb h8
   refine hm7.st (j:=8) (v:=Lf.sl.up z) (by simp [items9]) rfl fun h8 hm8 hs8=>hk2 _ hi' ⟨z,hm8,?_,hzb⟩
   obtain ⟨e8,hm8'⟩:=hm8
   rw [zu7 hm8' hs8]
   have:OI h3 h7 z ((cens S).take (i+1)):=by
    unfold OI
    rw [←List.take_append_getElem (show i<(cens S).length by omega),List.map_append,←hxx]
    exact hz
   exact zps this h3b hzb
 · have hi':i=S.cir.length:=by simp only at h6; omega
   subst hi'
   rw [←cl,List.take_length] at ho
   obtain ⟨D0,hD0⟩:∃D0,D0=h5.del b:=⟨_,rfl⟩
   have hD0le:D0.le h5:=by rw [hD0]; exact Hp.del_le _ _
   have h3D:h3.le D0:=fun j bl hj=>by
    rw [hD0]
    unfold Hp.del
    rw [if_neg (fun hh=>by subst hh; rw [h3b] at hj; cases hj)]
    exact ho.dle _ _ hj
   have hce:IL D0 y (cens S):=⟨zuq ho fun a ha=>by rw [hD0]; unfold Hp.del; rw [if_neg (hab a ha)],ho.2.2.1⟩
   refine ⟨_,hm.ld 6 rfl,?_⟩
   have hLD:=hL.le zad h3D
   refine zd0 (n:=(allC S).length) (by omega) (fun i h'=>∃z D,MB h' b (items9 s lS z y)∧D0.le D∧D b=none∧LO slc 1 ILP D h' z (((allC S).map fun c=>itemsC c (cens S)).take i)∧∀a,z.a=some a→a.block≠b)
    ⟨nilS,D0,hm,Hp.le_refl _,by rw [hD0]; exact Hp.del_same _ _,⟨[],Own.nil hD0le,by simp,fun k k1 _=>by simp at k1⟩,fun a ha=>by cases ha⟩ ?_
   clear hk2
   rintro i h8 hi ⟨z,D,hm8,hD,hDb,hz,hzb⟩ k hk2
   refine za0 (fun h9=>?_) (fun h9=>?_)
   · have hi':i<(allC S).length:=by simp only at h9; omega
     have hD8:=hz.dle
     refine (hLD.le zad (Hp.le_trans hD hD8)).get zad i rfl hi' fun a x hxx hc=>?_
     refine ⟨_,hc 0 _ rfl,_,hc 1 _ rfl,_,hc 2 _ rfl,_,hc 3 _ rfl,_,hc 4 _ rfl,?_⟩
     obtain ⟨c,hcc⟩:∃c,c=(allC S)[i]:=⟨_,rfl⟩
     rw [←hcc] at hxx
     have hcok:=hok c (by rw [hcc]; exact List.getElem_mem _)
     have hcir:cirOk c (cens S):=hcok.1.cirOk
     have hsc:=hcok.2
     obtain ⟨x1,x2,x3,x4,x5⟩:=hxx
     obtain ⟨c1,c2,c3,c4⟩:=hsc
     have cll:=x3.len
     refine zp1 x2 (by omega) fun r16 h10 ho10=>?_
     rw [x1]
     refine zbz (n:=c.cir.length) (by omega) (fun j w h'=>OI h8 h' w (c.pts++(c.cir.take j).flatMap (itK c (cens S)))) (by simpa using ho10) ?_
     intro j w h11 hj ho11 k11 hk11
     have hfl:=zm7 (c:=c) (cs:=cens S) (c.cir.take j)
     rw [List.length_take] at hfl
     refine za0 (fun h12=>?_) (fun h12=>?_)
     · have hj':j<c.cir.length:=by simp only at h12; omega
       have hkk:=hcir _ (List.getElem_mem hj')
       refine za3 (fun s h'=>OI h8 h' s.1 (c.pts++(c.cir.take (j+1)).flatMap (itK c (cens S)))) (fun s h' hs=>hk11 _ _ hj' hs) ?_
       refine (x3.le ho11.dle).get j rfl hj' ?_
       rw [zui hkk.1 hkk.2 (by omega)]
       refine ho11.app (by rw [List.length_append]; omega) fun w2 h13 ho13=>?_
       have two:withC c→ldL .sl ((⟨b,0,none⟩:Addr).add 8) (fun x24=>idxP x24 c.cir[j] 1 fun a25=>ldL (.int .i64) a25 (fun x26=>appP 1 8 [.int .i64 0] w2 1 [.int .i64 x26] (fun w27 h13=>OI h8 h13 w27 (c.pts++(c.cir.take (j+1)).flatMap (itK c (cens S)))) h13) h13) h13:=by
        intro hw
        refine ⟨_,(hm8.le ho13.dle).ld 8 rfl,?_⟩
        refine (hce.le (Hp.le_trans hD (Hp.le_trans hD8 ho13.dle))).get c.cir[j].toNat (by omega) (by omega) ?_
        refine ho13.app (by rw [List.length_append,List.length_append,List.length_singleton]; omega) fun w3 h14 ho14=>?_
        rw [zi7 hj',zxe hw,zbb (by omega)]
        simpa [List.append_assoc] using ho14
       refine zaa (fun h6=>two (.inl h6)) (fun h6=>zaa (fun h7=>two (.inr (.inl h7))) (fun h7=>zaa (fun h8=>two (.inr (.inr h8))) (fun h8=>?_)))
       show OI _ _ _ _
       rw [zi7 hj',zxd (by unfold withC; omega),←List.append_assoc]
       exact ho13
     · have hj':j=c.cir.length:=by simp only at h12; omega
       subst hj'
       rw [List.take_length] at ho11
       have ho11:OI h8 h11 w (itemsC c (cens S)):=ho11
       have hm11:=hm8.le ho11.dle
       refine ⟨_,hm11.ld 7 rfl,?_⟩
       have hz11:=hz.le ho11.dle
       have hbb:h11 b≠none:=by obtain ⟨e,hm⟩:=hm11; rw [hm]; simp
       have hwb:∀a,w.a=some a→h8 a.block=none:=fun a ha=>by
        obtain ⟨_,_,_,g4⟩:=ho11
        rw [ha] at g4
        exact g4.2.2.1
       have h8b:h8 b≠none:=by obtain ⟨e,hm⟩:=hm8; rw [hm]; simp
       obtain ⟨zs,q1,q2,q3⟩:=hz11
       have hz8:∀a,z.a=some a→h8 a.block≠none:=fun a ha=>by
        obtain ⟨ys,g1,_,_⟩:=hz
        obtain ⟨_,_,_,g4⟩:=g1
        rw [ha] at g4
        obtain ⟨_,_,_,bl,g5,_⟩:=g4
        rw [g5]; simp
       have hzD:∀a,z.a=some a→D a.block=none:=fun a ha=>by
        obtain ⟨_,_,_,g4⟩:=q1
        rw [ha] at g4
        exact g4.2.2.1
       obtain ⟨D1,hD1⟩:∃D1:Hp,D1=fun j=>if j=b∨(∃a,z.a=some a∧j=a.block) then none else h11 j:=⟨_,rfl⟩
       have hD1h:D1.le h11:=fun j bl hj=>by
        rw [hD1] at hj
        simp only at hj
        split at hj
        · cases hj
        · exact hj
       have hDD1:D.le D1:=fun j bl hj=>by
        rw [hD1]
        simp only
        rw [if_neg]
        · exact Hp.le_trans hD8 ho11.dle _ _ hj
        · rintro (rfl | ⟨a,ha,rfl⟩)
          · rw [hDb] at hj; cases hj
          · rw [hzD a ha] at hj; cases hj
       have hD1b:D1 b=none:=by rw [hD1]; simp
       have hw1:IL D1 w (itemsC c (cens S)):=⟨zuq ho11 fun a ha=>by
        rw [hD1]
        simp only
        rw [if_neg]
        rintro (hh | ⟨a',ha',hh⟩)
        · exact h8b (by rw [←hh]; exact hwb a ha)
        · exact hz8 a' ha' (by rw [←hh]; exact hwb a ha),ho11.2.2.1⟩
       have hz1:Own D1 h11 1 z (zs.flatMap slc):=by
        obtain ⟨g1,g2,g3,g4⟩:=q1
        refine ⟨hD1h,g2,g3,?_⟩
        cases ha:z.a with
        | none=>rw [ha] at g4; exact g4
        | some a=>
          rw [ha] at g4
          obtain ⟨k1,k2,k3,k4⟩:=g4
          exact ⟨k1,k2,by rw [hD1]; simp only; rw [if_pos (.inr ⟨a,ha,rfl⟩)],k4⟩
       have hzl:=hz.len ziv
       rw [List.length_take,List.length_map] at hzl
       refine zko hz1 (n:=1) (new:=slc w) rfl rfl rfl (by omega) (by omega) fun z2 h15 hz2 _ hs15 hb15=>?_
       have hm15:MB h15 b (items9 s lS z y):=by
        obtain ⟨e,hm⟩:=hm11
        exact ⟨e,by rw [hs15 b hbb fun a ha=>(hzb a ha).symm]; exact hm⟩
       have hz2b:∀a,z2.a=some a→a.block≠b:=fun a ha hh=>by
        rcases hb15 a ha with ⟨a',h8,h9⟩ | h8
        · exact hzb a' h8 (by rw [h9]; exact hh)
        · rw [hh] at h8; exact hbb h8
       refine hm15.st (j:=7) (v:=Lf.sl.up z2) (by simp [items9]) rfl fun h16 hm16 hs16=>hk2 _ hi' ⟨z2,D1,hm16,Hp.le_trans hD hDD1,hD1b,⟨zs++[w],?_,?_,fun j j1 j2=>?_⟩,hz2b⟩
       · obtain ⟨e8,hm8'⟩:=hm16
         rw [zu7 hm8' hs16]
         refine zps ?_ hD1b hz2b
         rw [List.flatMap_append]
         simpa using hz2
       · rw [List.length_append,q2,List.length_take,List.length_take]
         simp; omega
       · have hlz:zs.length=i:=by rw [q2]; simp; omega
         rcases Nat.lt_or_ge j i with h5 | h5
         · rw [List.getElem_append_left (by omega),List.getElem_take]
           have:=q3 j (by omega) (by simp; omega)
           rw [List.getElem_take] at this
           exact ziv.mono this hDD1
         · have h6:j=i:=by simp at j1; omega
           subst h6
           rw [List.getElem_append_right (by omega),List.getElem_take]
           simp only [hlz,Nat.sub_self,List.getElem_cons_zero,List.getElem_map]
           rw [←hcc]
           exact hw1
   · have hi':i=(allC S).length:=by simp only at h9; omega
     subst hi'
     have hfull:((allC S).map fun c=>itemsC c (cens S)).take (allC S).length=(allC S).map fun c=>itemsC c (cens S):=List.take_of_length_le (by simp)
     rw [hfull] at hz
     have hD8:=hz.dle
     have h38:h3.le h8:=Hp.le_trans h3D (Hp.le_trans hD hD8)
     refine hk _ _ (Hp.le_trans hle3 h38) ⟨⟨b,0,none⟩,rfl,s,lS,z,y,hx3.le h38,fun j v hv=>hm8.ld j hv,hL.le zad h38,hz.lr ziv,hce.le (Hp.le_trans hD hD8)⟩
end
end Den
end

section
namespace Den
open Go Iv Lx
def cAt (cs:List Int) (c:PCon) (i:Nat):Int:=cs.getD (c.cir.getD i 0).toNat 0
def cnt (l:List Int) (t:Int):Nat:=(l.filter (·==t)).length
def kindP (c:PCon) (cs:List Int) (t:Int):Int:=
 if c.kind=13 then (if (t∈c.pts)↔cAt cs c 0=t then 0 else 2)
 else if c.kind=16 then (if cAt cs c 0=t∧t∉c.pts then 1 else 0)
 else if c.kind=17 then (if cAt cs c 0=t↔cAt cs c 1=t then 0 else 2)
 else if t∉c.pts then 0
 else if c.kind=1∨c.kind=9 then 3
 else if c.kind=2 then 2
 else if c.kind=3∨c.kind=6∨c.kind=11∨c.kind=12 then 1
 else if c.kind=4 then (if c.pts[0]?=some t then 1 else 0)
 else if c.kind=10 then (if c.pts[0]?=some t∨c.pts[1]?=some t then 3 else 0)
 else if c.kind=5∨c.kind=7 then (if cnt c.pts t=2 then 2 else 1)
 else if c.kind=8 then (if cnt c.pts t=2 then 1 else 2)
 else 0
def sizesP (c:PCon) (cs:List Int) (k:Int):Prop:=
 k∈c.cir∧(if c.kind=13∨c.kind=16 then cs.getD k.toNat 0∉c.pts else if c.kind=17 then c.side=1∧cAt cs c 0≠cAt cs c 1 else True)
instance (c:PCon) (cs:List Int) (k:Int):Decidable (sizesP c cs k):=by unfold sizesP; infer_instance
def suitP (c:PCon) (cs:List Int) (item:Int):Prop:=
 if item<0 then sizesP c cs (-1-item) else if eqK c.kind=2 then kindP c cs item=3 else kindP c cs item=1∨kindP c cs item=2
instance (c:PCon) (cs:List Int) (k:Int):Decidable (suitP c cs k):=by unfold suitP; infer_instance
def keepP (l:List Int) (item:Int) (R:List Int):Prop:=item∈l∧∀x∈l,x∉R
instance (l:List Int) (item:Int) (R:List Int):Decidable (keepP l item R):=by unfold keepP; infer_instance
def remN (its:List (List Int)) (item:Int) (R:List Int):Nat→List Int
 | 0=>[]
 | k+1=>remN its item R k++(if keepP (its.getD k []) item R then [(k:Int)] else [])
def remL (its:List (List Int)) (item:Int) (R:List Int):List Int:=remN its item R its.length
theorem zn7 {its:List (List Int)} {item:Int} {R:List Int}:∀{k:Nat} {j:Int},j∈remN its item R k↔∃i:Nat,i<k∧j=i∧keepP (its.getD i []) item R
 | 0,j=>by simp [remN]
 | k+1,j=>by
   unfold remN
   rw [List.mem_append,zn7]
   constructor
   · rintro (⟨i,hi,h1,h2⟩ | h)
     · exact ⟨i,by omega,h1,h2⟩
     · split at h
       · rename_i h3
         exact ⟨k,by omega,List.mem_singleton.1 h,h3⟩
       · cases h
   · rintro ⟨i,hi,h1,h2⟩
     rcases Nat.lt_or_ge i k with h3 | h3
     · exact .inl ⟨i,h3,h1,h2⟩
     · have:i=k:=by omega
       subst this
       right
       rw [if_pos h2]; exact List.mem_singleton.2 h1
theorem zpw (its:List (List Int)) (item:Int) (R:List Int):∀k,(remN its item R k).length≤k
 | 0=>by simp [remN]
 | k+1=>by
   unfold remN
   have:=zpw its item R k
   rw [List.length_append]
   split<;>simp<;>omega
def dC:PCon:=⟨0,[],[],[],0⟩
def wtL (L:List PCon) (l:List Int):Nat:=(l.map fun i=>eqK (L.getD i.toNat dC).kind).sum
def most (item:Int):Nat:=if item<0 then 1 else 2
def canP (L:List PCon) (cs:List Int) (R:List Int) (item:Int):Prop:=
 item∉R∧wtL L (remL (L.map fun c=>itemsC c cs) item R)≤most item∧∀i∈remL (L.map fun c=>itemsC c cs) item R,suitP (L.getD i.toNat dC) cs item
instance (L:List PCon) (cs:List Int) (R:List Int) (item:Int):Decidable (canP L cs R item):=by unfold canP; infer_instance
def allI (n m:Nat):List Int:=(List.range n).map (fun i:Nat=>(i:Int))++(List.range m).map (fun i:Nat=>-1-(i:Int))
theorem zpq {n m:Nat} {x:Int}:x∈allI n m↔(0≤x∧x<n)∨(x<0∧-1-x<m):=by
 unfold allI
 rw [List.mem_append,List.mem_map,List.mem_map]
 constructor
 · rintro (⟨a,ha,rfl⟩ | ⟨a,ha,rfl⟩)
   · rw [List.mem_range] at ha; omega
   · rw [List.mem_range] at ha; omega
 · rintro (⟨h1,h2⟩ | ⟨h1,h2⟩)
   · exact .inl ⟨x.toNat,List.mem_range.2 (by omega),by omega⟩
   · exact .inr ⟨(-1-x).toNat,List.mem_range.2 (by omega),by omega⟩
theorem zt6 {n m:Nat}:(allI n m).length=n+m:=by simp [allI]
def peelF (can:List Int→Int→Bool) (pref:List Int):Nat→List Int→List Int
 | 0,R=>R
 | f+1,R=>match pref.find? (can R) with
   | none=>R
   | some i=>peelF can pref f (R++[i])
def peelL (can:List Int→Int→Bool) (pref:List Int):List Int:=peelF can pref pref.length []
def leftL (pref R:List Int):List Int:=pref.filter fun x=>decide (x∉R)
def canB (L:List PCon) (cs:List Int) (R:List Int) (item:Int):Bool:=decide (canP L cs R item)
theorem zqq {pref R:List Int} {i:Int} (hi:i∈pref) (hR:i∉R):(leftL pref (R++[i])).length<(leftL pref R).length:=by
 have e:leftL pref (R++[i])=(leftL pref R).filter fun x=>decide (x≠i):=by
  unfold leftL
  rw [List.filter_filter]
  congr 1
  funext x
  simp only [List.mem_append,List.mem_singleton,not_or]
  by_cases h1:x∈R<;>by_cases h2:x=i<;>simp [h1,h2]
 rw [e]
 refine List.length_filter_lt_length_iff_exists.2 ⟨i,?_,by simp⟩
 unfold leftL
 exact List.mem_filter.2 ⟨hi,by simpa using hR⟩
def lenC (c:PCon):Prop:=c.pts.length=(shK c.kind).1∧c.cir.length=(shK c.kind).2.1∧1≤c.kind∧c.kind≤17∧(fourK c.kind→PairsP c.pts)∧(¬fourK c.kind→c.pts.Nodup)
theorem VC.lenC {c:PCon} {n m:Int} (hv:VC c n m):lenC c:=by
 obtain ⟨h1,h2,h3,h4,h5,h6,h7⟩:=hv
 refine ⟨h2.1,h3.1,h1.1,h1.2,fun h=>?_,fun h=>?_⟩
 · rw [if_pos h] at h7; exact h7
 · rw [if_neg h] at h7; exact h7.1
section
variable {h : Hp} {x : TConstraint} {c : PCon} {cs : List Int} {ce : Sl} {t : Int} {Kb : Bool → Hp → Prop} {Ki : Int → Hp → Prop} {Ks : Sl → Hp → Prop}
def posF (l:List Int) (t:Int):Nat→List Int
 | 0=>[]
 | k+1=>posF l t k++(if l[k]?=some t then [(k:Int)] else [])
theorem zux (l:List Int) (t:Int):∀k,k≤l.length→(posF l t k).length=cnt (l.take k) t
 | 0,_=>by simp [posF,cnt]
 | k+1,hk=>by
   unfold posF
   rw [List.length_append,zux l t k (by omega)]
   unfold cnt
   rw [←List.take_append_getElem (show k<l.length by omega),List.filter_append,List.length_append]
   congr 1
   rw [List.getElem?_eq_getElem (by omega)]
   by_cases h:l[k]=t<;>simp [h]
theorem zxo (l:List Int) (t:Int):∀k,(posF l t k).length≤k
 | 0=>by simp [posF]
 | k+1=>by
   unfold posF
   have:=zxo l t k
   rw [List.length_append]
   split<;>simp<;>omega
theorem zsh {l:List Int} {t:Int}:∀{k:Nat} (hne:posF l t k≠[]),∃i:Nat,(posF l t k)[0]?=some (i:Int)∧l[i]?=some t∧∀j,j<i→l[j]?≠some t
 | 0,h=>absurd rfl h
 | k+1,h=>by
   unfold posF at h ⊢
   by_cases h0:posF l t k=[]
   · rw [h0,List.nil_append] at h ⊢
     split at h
     · rename_i h3
       rw [if_pos h3]
       refine ⟨k,rfl,h3,fun j hj hh=>?_⟩
       have:(j:Int)∈posF l t k:=by
        have key:∀m,j<m→(j:Int)∈posF l t m:=by
         intro m
         induction m with
         | zero=>intro hm; omega
         | succ m ih=>
           intro hm
           unfold posF
           rcases Nat.lt_or_ge j m with h4 | h4
           · exact List.mem_append_left _ (ih h4)
           · have:j=m:=by omega
             subst this
             rw [if_pos hh]; simp
        exact key k hj
       rw [h0] at this; cases this
     · exact absurd rfl h
   · obtain ⟨i,h1,h2⟩:=zsh h0
     refine ⟨i,?_,h2⟩
     have:0<(posF l t k).length:=List.length_pos_iff.2 h0
     rw [List.getElem?_append_left this]; exact h1
theorem za6j {l:List Int} {t:Int}:cnt l t≠0↔t∈l:=by
 unfold cnt
 rw [←Nat.pos_iff_ne_zero,List.length_pos_iff_exists_mem]
 constructor
 · rintro ⟨a,ha⟩
   have:=List.mem_filter.1 ha
   rw [beq_iff_eq] at this
   rw [←this.2]; exact this.1
 · intro h
   exact ⟨t,List.mem_filter.2 ⟨h,by simp⟩⟩
theorem zwm (hx:CO h x c) (hs:sC c) (H:∀y h',h.le h'→IL h' y (posF c.pts t c.pts.length)→Ks y h'):callP (F.zia x t) Ks h:=by
 refine za1 (fun y h'=>IL h' y (posF c.pts t c.pts.length)) (fun K' hk=>?_) fun b h' hl hb=>H b h' hl hb
 unfold F.zia
 have hp:=hx.2.1
 have hl:=hp.len
 have s1:=hs.1
 refine zbz (n:=c.pts.length) (by omega) (fun i y h'=>OI h h' y (posF c.pts t i)) OI.nil ?_
 intro i y h1 hi ho k hk2
 refine za0 (fun h2=>?_) (fun h2=>?_)
 · have hi':i<c.pts.length:=by simp only at h2; omega
   refine za3 (fun s h'=>OI h h' s.1 (posF c.pts t (i+1))) (fun s h' hs=>hk2 _ _ hi' hs) ?_
   refine (hp.le ho.dle).get i rfl hi' ?_
   have hle:=zxo c.pts t i
   refine zaa (fun h3=>?_) (fun h3=>?_)
   · refine ho.app (by omega) fun z h4 ho4=>?_
     show OI _ _ _ _
     unfold posF
     rw [List.getElem?_eq_getElem hi',h3,if_pos rfl]; exact ho4
   · show OI _ _ _ _
     unfold posF
     rw [List.getElem?_eq_getElem hi',if_neg (fun hh=>h3 (Option.some.inj hh)),List.append_nil]; exact ho
 · have:i=c.pts.length:=by simp only at h2; omega
   subst this
   exact hk _ _ ho.dle ho.il
theorem zrd {K:Int→Prop} {i:Nat} (hx:CO h x c) (hc:IL h ce cs) (hok:cirOk c cs) (hi:i<c.cir.length) (H:K (cAt cs c i)):idxP x.circles (i:Int) 1 fun a5=>ldL (.int .i64) a5 (fun x6=>idxP ce x6 1 fun a7=>ldL (.int .i64) a7 K h) h:=by
 refine hx.2.2.1.get i rfl hi ?_
 have hkk:=hok _ (List.getElem_mem hi)
 refine hc.get c.cir[i].toNat (by omega) (by omega) ?_
 unfold cAt at H
 rw [zbb hi,zbb (by omega)] at H
 exact H
theorem zrx (hx:CO h x c) (hc:IL h ce cs) (hs:sC c) (hok:cirOk c cs) (hv:lenC c) (H:∀h',h.le h'→Ki (kindP c cs t) h'):callP (F.zi9 x ce t) Ki h:=by
 refine za1 (fun r h'=>r=kindP c cs t) (fun K' hk=>?_) fun b h' hl hb=>by subst hb; exact H h' hl
 unfold F.zi9
 obtain ⟨v1,v2,v3,v4,v5,v6⟩:=hv
 have x1:=hx.1
 have s1:=hs.1
 refine zid fun p1 h1 hl1 c1=>zdg fun p2 h2 hl2 c2=>zdg fun p3 h3 hl3 c3=>?_
 have hle:h.le h3:=Hp.le_trans hl1 (Hp.le_trans hl2 hl3)
 have k1:CKC h3 p1 x:=fun i v hv=>Hp.cell_le (Hp.le_trans hl2 hl3) (c1 i v hv)
 refine ⟨_,k1 0 _ rfl,_,k1 1 _ rfl,_,k1 2 _ rfl,_,k1 3 _ rfl,_,k1 4 _ rfl,_,c3,?_⟩
 refine zwm (x:=x) (hx.le hle) hs fun r6 h4 hl4 hr6=>?_
 have hle4:=Hp.le_trans hle hl4
 have k4:CKC h4 p1 x:=fun i v hv=>Hp.cell_le hl4 (k1 i v hv)
 have hr:=hr6.len
 have hpl:=zux c.pts t c.pts.length (Nat.le_refl _)
 rw [List.take_length] at hpl
 have hat:(posF c.pts t c.pts.length).length≠0↔t∈c.pts:=by rw [hpl]; exact za6j
 have cen:∀i h' (K:Bool→Hp→Prop),i<c.cir.length→h4.le h'→K (decide (cAt cs c i=t)) h'→callP (F.zee (i:Int) (some p2) (some p1) (some p3)) K h':=by
  intro i h' K hi hl' hK
  refine zah _ (fun K'' hk''=>?_) hK
  unfold F.zee
  have hl3':=Hp.le_trans hl4 hl'
  refine ⟨_,Hp.cell_le (Hp.le_trans hl3 hl3') c2,_,Hp.cell_le hl' (k4 2 _ rfl),?_⟩
  refine zrd (x:=x) (ce:=ce) (hx.le (Hp.le_trans hle4 hl')) (hc.le (Hp.le_trans hle4 hl')) hok hi ?_
  refine ⟨_,Hp.cell_le hl3' c3,?_⟩
  have:(cAt cs c i==t)=decide (cAt cs c i=t):=by
   by_cases hh:cAt cs c i=t
   · rw [decide_eq_true hh,hh]; simp
   · rw [decide_eq_false hh,beq_eq_false_iff_ne]; exact hh
  show K'' (cAt cs c i==t) h'
  rw [this]; exact hk''
 refine ⟨_,k4 0 _ rfl,?_⟩
 rw [x1]
 have hk':∀r,r=kindP c cs t→K' r h4:=fun r hr=>hk _ _ hle4 hr
 unfold kindP at hk'
 refine zaa (fun e13=>?_) (fun e13=>?_)
 · refine cen 0 h4 _ (by rw [v2,e13]; decide) (Hp.le_refl _) ?_
   rw [if_pos e13] at hk'
   have ha:decide ((r6.len:Int)>0)=decide (t∈c.pts):=decide_eq_decide.2 (by rw [←hat]; omega)
   rw [ha]
   refine za7 (fun h5=>hk' _ ?_) (fun h5=>hk' _ ?_)
   · rw [if_neg]
     intro hh
     by_cases g:t∈c.pts
     · rw [decide_eq_true g,decide_eq_true (hh.1 g)] at h5; cases h5
     · rw [decide_eq_false g,decide_eq_false (fun z=>g (hh.2 z))] at h5; cases h5
   · rw [if_pos]
     by_cases g:t∈c.pts
     · rw [decide_eq_true g] at h5
       exact ⟨fun _=>by simpa using h5,fun _=>g⟩
     · rw [decide_eq_false g] at h5
       exact ⟨fun z=>absurd z g,fun z=>by rw [decide_eq_true z] at h5; cases h5⟩
 rw [if_neg e13] at hk'
 refine zaa (fun e16=>?_) (fun e16=>?_)
 · refine cen 0 h4 _ (by rw [v2,e16]; decide) (Hp.le_refl _) ?_
   rw [if_pos e16] at hk'
   refine za0 (fun h5=>zaa (fun h6=>hk' _ ?_) (fun h6=>hk' _ ?_)) (fun h5=>hk' _ ?_)
   · rw [if_pos ⟨h5,fun hh=>absurd (hat.2 hh) (by omega)⟩]
   · rw [if_neg (fun hh=>hh.2 (hat.1 (by omega)))]
   · rw [if_neg (fun hh=>h5 hh.1)]
 rw [if_neg e16] at hk'
 refine zaa (fun e17=>?_) (fun e17=>?_)
 · refine cen 0 h4 _ (by rw [v2,e17]; decide) (Hp.le_refl _) (cen 1 h4 _ (by rw [v2,e17]; decide) (Hp.le_refl _) ?_)
   rw [if_pos e17] at hk'
   refine za7 (fun h5=>hk' _ ?_) (fun h5=>hk' _ ?_)
   · rw [if_neg]
     intro hh
     have e:decide (cAt cs c 0=t)=decide (cAt cs c 1=t):=decide_eq_decide.2 hh
     rw [e] at h5
     simp at h5
   · rw [if_pos]
     have h6:decide (cAt cs c 0=t)=decide (cAt cs c 1=t):=by simpa using h5
     exact decide_eq_decide.1 h6
 rw [if_neg e17] at hk'
 refine zaa (fun e0=>?_) (fun e0=>?_)
 · refine hk' _ ?_
   rw [if_pos (fun hh=>absurd (hat.2 hh) (by omega))]
 have hin:t∈c.pts:=hat.1 (by omega)
 rw [if_neg (fun hh=>hh hin)] at hk'
 have hne:posF c.pts t c.pts.length≠[]:=fun hh=>by rw [hh] at hr; simp at hr; omega
 obtain ⟨i0,hi0,hi1,hi2⟩:=zsh hne
 have hlen0:0<(posF c.pts t c.pts.length).length:=List.length_pos_iff.2 hne
 have hget0:(posF c.pts t c.pts.length)[0]=(i0:Int):=by rw [List.getElem?_eq_getElem hlen0] at hi0; exact Option.some.inj hi0
 refine ⟨_,k4 0 _ rfl,?_⟩
 rw [x1]
 have dk:∀(n:Int),(c.kind==n)=decide (c.kind=n):=fun n=>by
  by_cases hh:c.kind=n
  · rw [decide_eq_true hh,hh]; simp
  · rw [decide_eq_false hh,beq_eq_false_iff_ne]; exact hh
 refine za3 (fun s h'=>h'=h4∧s.1=decide (c.kind=1∨c.kind=9)) ?_ ?_
 · rintro ⟨b,_⟩ h4 ⟨rfl,hb⟩
   simp only at hb
   subst hb
   refine za0 (fun e=>?_) (fun e1=>?_)
   · rw [if_pos e] at hk'; exact hk' _ rfl
   rw [if_neg e1] at hk'
   refine zaa (fun e=>?_) (fun e2=>?_)
   · rw [if_pos e] at hk'; exact hk' _ rfl
   rw [if_neg e2] at hk'
   refine za3 (fun s h'=>h'=h4∧s.1=decide (c.kind=3∨c.kind=6∨c.kind=11∨c.kind=12)) ?_ ?_
   · rintro ⟨b,_⟩ h4 ⟨rfl,hb⟩
     simp only at hb
     subst hb
     refine za0 (fun e=>?_) (fun e3=>?_)
     · rw [if_pos e] at hk'; exact hk' _ rfl
     rw [if_neg e3] at hk'
     refine zaa (fun e=>?_) (fun e4=>?_)
     · rw [if_pos e] at hk'
       refine hr6.get 0 rfl hlen0 ?_
       rw [hget0]
       refine zaa (fun h5=>hk' _ ?_) (fun h5=>hk' _ ?_)
       · have:i0=0:=by omega
         subst this
         rw [if_pos hi1]
       · rw [if_neg (hi2 0 (by omega))]
     rw [if_neg e4] at hk'
     refine zaa (fun e=>?_) (fun e5=>?_)
     · rw [if_pos e] at hk'
       refine hr6.get 0 rfl hlen0 ?_
       rw [hget0]
       refine za0 (fun h5=>hk' _ ?_) (fun h5=>hk' _ ?_)
       · have h5:(i0:Int)<2:=h5
         rcases (by omega:i0=0∨i0=1) with rfl | rfl
         · rw [if_pos (.inl hi1)]
         · rw [if_pos (.inr hi1)]
       · have h5:¬(i0:Int)<2:=h5
         rw [if_neg]
         rintro (hh | hh)
         · exact hi2 0 (by omega) hh
         · exact hi2 1 (by omega) hh
     rw [if_neg e5] at hk'
     have hc2:((r6.len:Int)==2)=decide (cnt c.pts t=2):=by
      rw [hr,hpl]
      by_cases hh:cnt c.pts t=2
      · rw [decide_eq_true hh,hh]; rfl
      · rw [decide_eq_false hh,beq_eq_false_iff_ne]; omega
     rw [hc2]
     refine za3 (fun s h'=>h'=h4∧s.1=decide (c.kind=5∨c.kind=7)) ?_ ?_
     · rintro ⟨b,_⟩ h4 ⟨rfl,hb⟩
       simp only at hb
       subst hb
       refine za0 (fun e=>?_) (fun e6=>?_)
       · rw [if_pos e] at hk'
         exact za0 (fun h5=>hk' _ (by rw [if_pos h5])) (fun h5=>hk' _ (by rw [if_neg h5]))
       rw [if_neg e6] at hk'
       refine zaa (fun e=>?_) (fun e7=>?_)
       · rw [if_pos e] at hk'
         exact za0 (fun h5=>hk' _ (by rw [if_pos h5])) (fun h5=>hk' _ (by rw [if_neg h5]))
       rw [if_neg e7] at hk'
       exact hk' _ rfl
     · rw [dk 5,dk 7]
       refine za0 (fun e=>⟨rfl,?_⟩) (fun e=>⟨rfl,?_⟩)
       · rw [decide_eq_true e,decide_eq_true (Or.inl e)]
       · exact decide_eq_decide.2 (by omega)
   · rw [dk 3,dk 6,dk 11,dk 12]
     refine za0 (fun e=>⟨rfl,?_⟩) (fun e=>za0 (fun e2=>⟨rfl,?_⟩) (fun e2=>za0 (fun e3=>⟨rfl,?_⟩) (fun e3=>⟨rfl,?_⟩)))
     all_goals exact decide_eq_decide.2 (by omega)
 · rw [dk 1,dk 9]
   refine za0 (fun e=>⟨rfl,?_⟩) (fun e=>⟨rfl,?_⟩)
   all_goals exact decide_eq_decide.2 (by omega)
end
end Den
end

section
namespace Den
open Go Iv Lx
section
variable {h : Hp} {x : TConstraint} {c : PCon} {cs : List Int} {ce : Sl} {t k : Int} {Kb : Bool → Hp → Prop} {Ki : Int → Hp → Prop} {Ks : Sl → Hp → Prop}
theorem za4t (hv:lenC c) (hm:k∈c.cir):c.kind=13∨c.kind=14∨c.kind=15∨c.kind=16∨c.kind=17:=by
 obtain ⟨v1,v2,v3,v4,_⟩:=hv
 have h1:c.cir.length≠0:=fun hh=>by rw [List.eq_nil_of_length_eq_zero hh] at hm; cases hm
 apply Classical.byContradiction
 intro hn
 have:(shK c.kind).2.1=0:=by
  rcases (by omega:c.kind=1∨c.kind=2∨c.kind=3∨c.kind=4∨c.kind=5∨c.kind=6∨c.kind=7∨c.kind=8∨c.kind=9∨c.kind=10∨c.kind=11∨c.kind=12) with e | e | e | e | e | e | e | e | e | e | e | e<;>rw [e]<;>rfl
 omega
theorem zq4 (hx:CO h x c) (hc:IL h ce cs) (hs:sC c) (hok:cirOk c cs) (hv:lenC c) (H:∀b h',h.le h'→(b=true↔sizesP c cs k)→Kb b h'):callP (F.zhf x ce k) Kb h:=by
 refine za1 (fun b h'=>b=true↔sizesP c cs k) (fun K' hk=>?_) fun b h' hl hb=>H b h' hl hb
 unfold F.zhf
 have x1:=hx.1
 have x5:=hx.2.2.2.2
 refine zqk hx.2.2.1 (by have:=hs.2.1; omega) fun r h1 hl1 hr=>?_
 have no:∀h',h.le h'→¬sizesP c cs k→K' false h':=fun h' hl hn=>hk _ _ hl ⟨fun hh=>(by cases hh),fun hh=>absurd hh hn⟩
 refine za0 (fun h2=>no _ hl1 fun hh=>?_) (fun h2=>?_)
 · have:=hr.2 hh.1; omega
 have hm:=hr.1 (by omega)
 have hkd:=za4t hv hm
 have hkk:=hok _ hm
 have dk:∀(n:Int),(c.kind==n)=decide (c.kind=n):=fun n=>by
  by_cases hh:c.kind=n
  · rw [decide_eq_true hh,hh]; simp
  · rw [decide_eq_false hh,beq_eq_false_iff_ne]; exact hh
 rw [x1,x5]
 unfold sizesP at hk no
 refine za3 (fun s h'=>h'=h1∧s.1=decide (c.kind=14∨c.kind=15)) ?_ ?_
 · rintro ⟨b,_⟩ h1 ⟨rfl,hb⟩
   simp only at hb
   subst hb
   refine za0 (fun e=>hk _ _ hl1 ⟨fun _=>⟨hm,?_⟩,fun _=>rfl⟩) (fun e1=>?_)
   · rw [if_neg (by omega),if_neg (by omega)]; trivial
   refine za3 (fun s h'=>h'=h1∧s.1=decide (c.kind=13∨c.kind=16)) ?_ ?_
   · rintro ⟨b,_⟩ h1 ⟨rfl,hb⟩
     simp only at hb
     subst hb
     refine za0 (fun e=>?_) (fun e2=>?_)
     · rw [if_pos e] at hk no
       refine (hc.le hl1).get k.toNat (by omega) (by omega) ?_
       refine zej (hx.2.1.le hl1) (by have:=hs.1; omega) fun h3 hl3=>hk _ _ (Hp.le_trans hl1 hl3) ?_
       rw [zbb (show k.toNat<cs.length by omega)]
       by_cases g:cs[k.toNat]∈c.pts
       · rw [decide_eq_true g]
         exact ⟨fun hh=>(by cases hh),fun hh=>absurd g hh.2⟩
       · rw [decide_eq_false g]
         exact ⟨fun _=>⟨hm,g⟩,fun _=>rfl⟩
     · rw [if_neg e2] at hk no
       refine zaa (fun e17=>?_) (fun e17=>by omega)
       rw [if_pos e17] at hk no
       refine zaa (fun e5=>?_) (fun e5=>no _ hl1 fun hh=>e5 hh.2.1)
       refine zrd (i:=0) (hx.le hl1) (hc.le hl1) hok (by rw [hv.2.1,e17]; decide) ?_
       refine zrd (i:=1) (hx.le hl1) (hc.le hl1) hok (by rw [hv.2.1,e17]; decide) ?_
       refine hk _ _ hl1 ?_
       rw [bne_iff_ne]
       exact ⟨fun hh=>⟨hm,e5,hh⟩,fun hh=>hh.2.2⟩
   · rw [dk 13,dk 16]
     refine za0 (fun e=>⟨rfl,?_⟩) (fun e=>⟨rfl,?_⟩)
     all_goals exact decide_eq_decide.2 (by omega)
 · rw [dk 14,dk 15]
   refine za0 (fun e=>⟨rfl,?_⟩) (fun e=>⟨rfl,?_⟩)
   all_goals exact decide_eq_decide.2 (by omega)
end
end Den
end

section
namespace Den
open Go Iv Lx
def its (S:PSk):List (List Int):=(allC S).map fun c=>itemsC c (cens S)
theorem ze0 {S:PSk}:(its S).length=(allC S).length:=by simp [its]
theorem znx (k:Int):eqK k≤2:=by
 unfold eqK shK
 split
 · have:∀i:Nat,(tabK.getD i (0,0,0,0,false)).2.2.2.1≤2:=by
    intro i
    rcases Nat.lt_or_ge i 17 with h | h
    · have:∀i:Fin 17,(tabK.getD i (0,0,0,0,false)).2.2.2.1≤2:=by decide
      exact this ⟨i,h⟩
    · rw [List.getD_eq_getElem?_getD,List.getElem?_eq_none (by exact h)]; decide
   exact this _
 · decide
theorem za67 {L:List PCon} {l:List Int} {i:Int}:wtL L (l++[i])=wtL L l+eqK (L.getD i.toNat dC).kind:=by simp [wtL]
theorem za4j {L:List PCon}:∀l:List Int,wtL L l≤2*l.length
 | []=>by simp [wtL]
 | a :: r=>by
   have h1:=za4j (L:=L) r
   have h2:=znx (L.getD a.toNat dC).kind
   unfold wtL at h1 ⊢
   simp only [List.map_cons,List.sum_cons,List.length_cons]
   omega
theorem za76 {its:List (List Int)} {item:Int} {R:List Int}:(remL its item R).length≤its.length:=zpw _ _ _ _
theorem zon {its:List (List Int)} {item:Int} {R:List Int} {j:Int} (h:j∈remL its item R):∃k:Nat,k<its.length∧j=k∧keepP (its.getD k []) item R:=zn7.1 h
section
variable {h : Hp} {s : TSketch} {S : PSk} {p : Addr} {item : Int} {R : List Int} {rs : Sl} {Kb : Bool → Hp → Prop} {Ki : Int → Hp → Prop} {Ks : Sl → Hp → Prop}
theorem za6d {n m:Nat} {D:Hp} {K:Sl→Hp→Prop} (hn:n≤1000) (hm:m≤1000) (H:∀y h',OI D h' y (allI n m)→K y h') {y:Sl} {h1:Hp} (ho:OI D h1 y ((List.range n).map fun i:Nat=>(i:Int))) :
 (loopP (S:=Sl×Int×Unit) (fun s8 k9 h3=>
 (ifP (decide (s8.2.1<(m:Int)))
 (appP 1 8 [.int .i64 0] s8.1 1 [.int .i64 (IntKind.i64.wrap ((-1)-s8.2.1))] (fun w10 h4=>
 (k9 (w10,(IntKind.i64.wrap (s8.2.1+1)),()) h4)) h3)
 (K s8.1 h3)))
 (y,0,()) h1):=by
  refine zbz (n:=m) (by omega) (fun i y h'=>OI D h' y ((List.range n).map (fun i:Nat=>(i:Int))++(List.range i).map fun i:Nat=>-1-(i:Int))) (by simpa using ho) ?_
  intro i z h2 hi ho2 k hk2
  refine za0 (fun h3=>?_) (fun h3=>?_)
  · have hi':i<m:=by simp only at h3; omega
    simp only
    rw [show IntKind.i64.wrap (-1-(i:Int))=-1-(i:Int) from w64 (by omega)]
    refine ho2.app (by simp; omega) fun w h4 ho4=>hk2 _ _ hi' ?_
    rw [List.range_succ,List.map_append,←List.append_assoc]
    exact ho4
  · have:i=m:=by simp only at h3; omega
    subst this
    exact H _ _ ho2
theorem zo3 (hp:PR h p S) (hs:sSk S) (H:∀y h',h.le h'→OI h h' y (allI S.pts.length S.cir.length)→Ks y h'):callP (F.y_henneberg_peeler_all (some p)) Ks h:=by
 refine za1 (fun y h'=>OI h h' y (allI S.pts.length S.cir.length)) (fun K' hk=>?_) fun b h' hl hb=>H b h' hl hb
 unfold F.y_henneberg_peeler_all
 obtain ⟨s,lS,itS,ceS,hx,hc,_⟩:=hp
 have l1:=hx.1.len zcs
 have l2:=hx.2.1.len zdw
 have:=hs.1
 have:=hs.2.1
 simp only [zcn,Nat.zero_add]
 refine ⟨_,hc 0 _ rfl,?_⟩
 simp only
 rw [l1]
 refine zbz (n:=S.pts.length) (by omega) (fun i y h'=>OI h h' y ((List.range i).map fun i:Nat=>(i:Int))) OI.nil ?_
 intro i y h2 hi ho k hk2
 refine za0 (fun h3=>?_) (fun h3=>?_)
 · have hi':i<S.pts.length:=by simp only at h3; omega
   refine ho.app (by simp; omega) fun w h4 ho4=>hk2 _ _ hi' ?_
   rw [List.range_succ,List.map_append]
   exact ho4
 have:i=S.pts.length:=by simp only at h3; omega
 subst this
 refine ⟨_,Hp.cell_le ho.dle (hc 1 _ rfl),?_⟩
 simp only
 rw [l2]
 exact za6d (n:=S.pts.length) (m:=S.cir.length) (by omega) (by omega) (fun z h2 ho2=>hk _ _ ho2.dle ho2) ho
theorem zme (hp:PR h p S) (hs:sSk S) (hv:VS S) (hr:IL h rs R) (hR:R.length≤100000) (H:∀y h',h.le h'→OI h h' y (remL (its S) item R)→Ks y h'):callP (F.y_henneberg_peeler_remaining (some p) item rs) Ks h:=by
 refine za1 (fun y h'=>OI h h' y (remL (its S) item R)) (fun K' hk=>?_) fun b h' hl hb=>H b h' hl hb
 unfold F.y_henneberg_peeler_remaining
 obtain ⟨s,lS,itS,ceS,hx,hc,hL,hI,hC⟩:=hp
 have hal:=zis hs
 have hok:=zf5 hv hs
 have hIl:=hI.len ziv
 rw [List.length_map] at hIl
 refine zdg fun p1 h1 hl1 c1=>?_
 refine ⟨_,Hp.cell_le hl1 (hc 7 _ rfl),?_⟩
 refine zbz (n:=(allC S).length) (by omega) (fun i y h'=>OI h1 h' y (remN (its S) item R i)) OI.nil ?_
 intro i y h2 hi ho k hk2
 have hle:=Hp.le_trans hl1 ho.dle
 refine za0 (fun h3=>?_) (fun h3=>?_)
 · have hi':i<(allC S).length:=by simp only at h3; omega
   refine za3 (fun s h'=>OI h1 h' s.1 (remN (its S) item R (i+1))) (fun s h' hs=>hk2 _ _ hi' hs) ?_
   refine (hI.le ziv hle).get ziv i rfl (by simpa using hi') fun a x hxx hcx=>?_
   have e0:=hcx 0 _ rfl
   rw [zba] at e0
   refine ⟨_,e0,?_⟩
   rw [List.getElem_map] at hxx
   have hlen:=zql (cs:=cens S) (hok _ (List.getElem_mem hi')).2
   have hxx:IL h2 x (itemsC (allC S)[i] (cens S)):=hxx
   have hg:(its S).getD i []=itemsC (allC S)[i] (cens S):=by
    rw [zbb (by rw [ze0]; exact hi')]
    simp [its]
   have hstep:remN (its S) item R (i+1)=remN (its S) item R i++(if keepP (itemsC (allC S)[i] (cens S)) item R then [(i:Int)] else []):=by
    conv=>lhs; unfold remN
    rw [hg]
   have hrl:=zpw (its S) item R i
   refine zej hxx (by omega) fun h4 hl4=>?_
   have ho4:=ho.le hl4
   refine za0 (fun h5=>?_) (fun h5=>?_)
   · refine za1 (fun b h'=>b=true↔∃x∈itemsC (allC S)[i] (cens S),x∈R) (fun K2 hk3=>?_) fun b h6 hl6 hb=>?_
     · unfold F.zbd
       refine za1 (fun r h'=>Fnd (fun x=>x∈R) (itemsC (allC S)[i] (cens S)) r) (fun K4 hk4=>?_) fun r h' hl hr=>hk3 _ _ hl (by rw [decide_eq_true_iff]; exact hr.iff)
       unfold F.zbj
       refine zm8 (hxx.le hl4) (by omega) (fun x _ h7 hl7 K5 hK5=>?_) fun r h' hl hr=>hk4 _ _ hl hr
       refine za1 (fun b h'=>b=decide (x∈R)) (fun K6 hk6=>?_) fun b h8 hl8 hb=>hK5 _ _ hl8 (by rw [hb,decide_eq_true_iff])
       unfold F.y_henneberg_peeler_remaining_1
       have l7:=Hp.le_trans ho4.dle hl7
       refine ⟨_,Hp.cell_le l7 c1,?_⟩
       exact zej (hr.le (Hp.le_trans hl1 l7)) (by omega) fun h8 hl8=>hk6 _ _ hl8 rfl
     · have ho6:=ho4.le hl6
       refine za7 (fun h7=>?_) (fun h7=>?_)
       · have hkp:keepP (itemsC (allC S)[i] (cens S)) item R:=⟨h5,fun x hx hxR=>by rw [hb.2 ⟨x,hx,hxR⟩] at h7; cases h7⟩
         refine ho6.app (by omega) fun z h8 ho8=>?_
         show OI _ _ _ _
         rw [hstep,if_pos hkp]; exact ho8
       · have hkp:¬keepP (itemsC (allC S)[i] (cens S)) item R:=fun hh=>by
          obtain ⟨x,hx,hxR⟩:=hb.1 (by simpa using h7)
          exact hh.2 x hx hxR
         show OI _ _ _ _
         rw [hstep,if_neg hkp,List.append_nil]; exact ho6
   · show OI _ _ _ _
     rw [hstep,if_neg (fun hh=>h5 hh.1),List.append_nil]; exact ho4
 · have:i=(allC S).length:=by simp only at h3; omega
   subst this
   refine hk _ _ hle ?_
   have ho:=ho.base hl1
   unfold remL
   rw [ze0]; exact ho
theorem ziu {k:Nat} (hp:PR h p S) (hs:sSk S) (hv:VS S) (ht:GT h) (hk:k<(allC S).length) (H:Ki ((eqK ((allC S).getD k dC).kind:Nat):Int) h):callP (F.y_henneberg_peeler_equations (some p) (k:Int)) Ki h:=by
 refine zah _ (fun K' hkk=>?_) H
 unfold F.y_henneberg_peeler_equations
 obtain ⟨s,lS,itS,ceS,hx,hc,hL,hI,hC⟩:=hp
 refine ⟨_,hc 6 _ rfl,?_⟩
 refine hL.get zad k rfl hk fun a x hxx hcx=>⟨_,hcx 0 _ rfl,?_⟩
 rw [hxx.1]
 have:=(zf5 hv hs _ (List.getElem_mem hk)).1.1
 rw [zbb hk] at hkk
 exact znn ht.2.2 (fun _ _ ln ps=>hkk) (fun hn=>absurd this hn)
theorem zpe {l:Sl} {xs:List Int} (hp:PR h p S) (hs:sSk S) (hv:VS S) (ht:GT h) (hl:IL h l xs) (hlen:xs.length≤100000) (hin:∀i∈xs,∃k:Nat,k<(allC S).length∧i=k) (H:∀h',h.le h'→Ki ((wtL (allC S) xs:Nat):Int) h'):callP (F.y_henneberg_peeler_weight (some p) l) Ki h:=by
 refine za1 (fun b h'=>b=((wtL (allC S) xs:Nat):Int)) (fun K' hk=>?_) fun b h' hl hb=>by subst hb; exact H h' hl
 unfold F.y_henneberg_peeler_weight
 have hll:=hl.len
 refine zbz (n:=xs.length) (by omega) (fun i a h'=>h.le h'∧a=((wtL (allC S) (xs.take i):Nat):Int)) ⟨Hp.le_refl _,by simp [wtL]⟩ ?_
 rintro i a h2 hi ⟨hl2,ha⟩ k hk2
 refine za0 (fun h3=>?_) (fun h3=>?_)
 · have hi':i<xs.length:=by simp only at h3; omega
   refine (hl.le hl2).get i rfl hi' ?_
   obtain ⟨q,hq1,hq2⟩:=hin _ (List.getElem_mem hi')
   rw [hq2]
   have hw:=za4j (L:=allC S) (xs.take i)
   rw [List.length_take] at hw
   have hw2:=znx ((allC S).getD q dC).kind
   refine ziu (hp.le hl2) hs hv (ht.le hl2) hq1 (hk2 _ _ hi' ⟨hl2,?_⟩)
   rw [←List.take_append_getElem hi',za67,hq2]
   simp only
   rw [ha,w64 (by omega)]
   rfl
 · have:i=xs.length:=by simp only at h3; omega
   subst this
   rw [List.take_length] at ha
   rw [ha]
   exact hk _ _ hl2 rfl
theorem zmx {k:Nat} {t:Int} (hp:PR h p S) (hs:sSk S) (hv:VS S) (hk:k<(allC S).length) (H:∀h',h.le h'→Ki (kindP ((allC S).getD k dC) (cens S) t) h'):callP (F.y_henneberg_peeler_kind (some p) (k:Int) t) Ki h:=by
 refine za1 (fun b h'=>b=kindP ((allC S).getD k dC) (cens S) t) (fun K' hkk=>?_) fun b h' hl hb=>by subst hb; exact H h' hl
 unfold F.y_henneberg_peeler_kind
 obtain ⟨s,lS,itS,ceS,hx,hc,hL,hI,hC⟩:=hp
 refine ⟨_,hc 6 _ rfl,?_⟩
 refine hL.get zad k rfl hk fun a x hxx hcx=>⟨_,hcx 0 _ rfl,_,hcx 1 _ rfl,_,hcx 2 _ rfl,_,hcx 3 _ rfl,_,hcx 4 _ rfl,?_⟩
 refine ⟨_,hc 8 _ rfl,?_⟩
 have:=zf5 hv hs _ (List.getElem_mem hk)
 rw [zbb hk] at hkk
 exact zrx (x:=x) hxx hC this.2 this.1.cirOk this.1.lenC fun h' hl=>hkk _ _ hl rfl
def smI (item:Int):Prop:=-1000000≤item∧item≤1000000
theorem zrp (hp:PR h p S) (hs:sSk S) (hv:VS S) (ht:GT h) (hr:IL h rs R) (hR:R.length≤100000) (hi:smI item) (H:∀b h',h.le h'→(b=true↔canP (allC S) (cens S) R item)→Kb b h'):callP (F.y_henneberg_peeler_removable (some p) item rs) Kb h:=by
 refine za1 (fun b h'=>b=true↔canP (allC S) (cens S) R item) (fun K' hk=>?_) fun b h' hl hb=>H b h' hl hb
 unfold F.y_henneberg_peeler_removable
 have no:∀h',h.le h'→¬canP (allC S) (cens S) R item→K' false h':=fun h' hl hn=>hk _ _ hl ⟨fun hh=>(by cases hh),fun hh=>absurd hh hn⟩
 have hits:its S=(allC S).map fun c=>itemsC c (cens S):=rfl
 unfold canP at no hk
 rw [←hits] at no hk
 refine zdg fun p1 h1 hl1 c1=>zdg fun p2 h2 hl2 c2=>?_
 have hle2:=Hp.le_trans hl1 hl2
 refine ⟨_,c2,?_⟩
 refine zej (hr.le hle2) (by omega) fun h3 hl3=>?_
 have hle3:=Hp.le_trans hle2 hl3
 refine za0 (fun h4=>no _ hle3 fun hh=>hh.1 h4) (fun h4=>?_)
 have d1:∀{h'},h3.le h'→h'.cell p1=some (.pointer (some p)):=fun hl=>Hp.cell_le (Hp.le_trans hl2 (Hp.le_trans hl3 hl)) c1
 have d2:∀{h'},h3.le h'→h'.cell p2=some (.int .i64 item):=fun hl=>Hp.cell_le (Hp.le_trans hl3 hl) c2
 refine ⟨_,d1 (Hp.le_refl _),_,d2 (Hp.le_refl _),?_⟩
 refine zme (hp.le hle3) hs hv (hr.le hle3) hR fun r7 h5 hl5 ho5=>?_
 have hle5:=Hp.le_trans hle3 hl5
 have hrl:(remL (its S) item R).length≤(its S).length:=za76
 rw [ze0] at hrl
 have hal:=zis hs
 have hin:∀i∈remL (its S) item R,∃k:Nat,k<(allC S).length∧i=k:=fun i hi=>by
  obtain ⟨k,h1,h2,_⟩:=zon hi
  rw [ze0] at h1
  exact ⟨k,h1,h2⟩
 refine ⟨_,d2 hl5,?_⟩
 obtain ⟨s,lS,itS,ceS,hpp⟩:=hp
 have hp:PR h p S:=⟨s,lS,itS,ceS,hpp⟩
 obtain ⟨hx,hc,hL,hI,hC⟩:=hpp
 refine za0 (fun h6=>?_) (fun h6=>?_)
 · have h6:item<0:=h6
   refine ⟨_,d1 hl5,?_⟩
   refine zpe (hp.le hle5) hs hv (ht.le hle5) ho5.il (by omega) hin fun h7 hl7=>?_
   have hle7:=Hp.le_trans hle5 hl7
   have hm:most item=1:=by unfold most; rw [if_pos h6]
   refine za0 (fun h8=>?_) (fun h8=>no _ hle7 fun hh=>by have:=hh.2.1; omega)
   refine za1 (fun b h'=>b=true↔∃i∈remL (its S) item R,¬suitP ((allC S).getD i.toNat dC) (cens S) item) (fun K2 hk3=>?_) fun b h9 hl9 hb=>hk _ _ (Hp.le_trans hle7 hl9) ?_
   · unfold F.zbe
     refine za1 (fun r h'=>Fnd (fun i=>¬suitP ((allC S).getD i.toNat dC) (cens S) item) (remL (its S) item R) r) (fun K4 hk4=>?_) fun r h' hl hr=>hk3 _ _ hl (by rw [decide_eq_true_iff]; exact hr.iff)
     unfold F.zbk
     refine zm8 (ho5.il.le hl7) (by omega) (fun i hi2 h9 hl9 K5 hK5=>?_) fun r h' hl hr=>hk4 _ _ hl hr
     refine za1 (fun b h'=>b=true↔¬suitP ((allC S).getD i.toNat dC) (cens S) item) (fun K6 hk6=>?_) fun b h8 hl8 hb=>hK5 _ _ hl8 hb
     unfold F.y_henneberg_peeler_removable_1
     obtain ⟨k,hk1,rfl⟩:=hin i hi2
     have hle9:=Hp.le_trans hle7 hl9
     have l39:=Hp.le_trans hl5 (Hp.le_trans hl7 hl9)
     refine ⟨_,d1 l39,_,Hp.cell_le hle9 (hc 6 _ rfl),?_⟩
     refine (hL.le zad hle9).get zad k rfl hk1 fun a x hxx hcx=>⟨_,hcx 0 _ rfl,_,hcx 1 _ rfl,_,hcx 2 _ rfl,_,hcx 3 _ rfl,_,hcx 4 _ rfl,?_⟩
     refine ⟨_,d1 l39,_,Hp.cell_le hle9 (hc 8 _ rfl),_,d2 l39,?_⟩
     have hok:=zf5 hv hs _ (List.getElem_mem hk1)
     have e1:IntKind.i64.wrap (-1-item)=-1-item:=by unfold smI at hi; exact w64 (by omega)
     simp only
     rw [e1]
     refine zq4 (x:=x) hxx (hC.le hle9) hok.2 hok.1.cirOk hok.1.lenC fun b h' hl hb=>hk6 _ _ hl ?_
     rw [show ((k:Nat):Int).toNat=k from rfl,zbb hk1]
     unfold suitP
     rw [if_pos h6,←hb]
     cases b<;>simp
   · rw [Bool.not_eq_true',←Bool.not_eq_true,hb]
     constructor
     · intro hh
       exact ⟨h4,by omega,fun i hi=>Classical.byContradiction fun hn=>hh ⟨i,hi,hn⟩⟩
     · rintro ⟨_,_,h10⟩ ⟨i,hi,hn⟩
       exact hn (h10 i hi)
 · have h6:¬item<0:=h6
   refine ⟨_,d1 hl5,?_⟩
   refine zpe (hp.le hle5) hs hv (ht.le hle5) ho5.il (by omega) hin fun h7 hl7=>?_
   have hle7:=Hp.le_trans hle5 hl7
   have hm:most item=2:=by unfold most; rw [if_neg h6]
   refine za0 (fun h8=>no _ hle7 fun hh=>by have:=hh.2.1; omega) (fun h8=>?_)
   have hr7:=ho5.il.le hl7
   have hr7l:=hr7.len
   refine zd0 (n:=(remL (its S) item R).length) (by omega) (fun i h'=>h7.le h'∧∀j (hj:j<(remL (its S) item R).length),j<i→suitP ((allC S).getD (remL (its S) item R)[j].toNat dC) (cens S) item) ⟨Hp.le_refl _,fun j _ hj=>by omega⟩ ?_
   rintro i h9 hi9 ⟨hl9,hno⟩ kk hk2
   have hle9:=Hp.le_trans hle7 hl9
   have l39:=Hp.le_trans hl5 (Hp.le_trans hl7 hl9)
   refine za0 (fun h10=>?_) (fun h10=>?_)
   · have hi':i<(remL (its S) item R).length:=by simp only at h10; omega
     refine (hr7.le hl9).get i rfl hi' ?_
     obtain ⟨k,hk1,hk2e⟩:=hin _ (List.getElem_mem hi')
     rw [hk2e]
     refine ⟨_,d1 l39,_,d2 l39,?_⟩
     refine zmx (hp.le hle9) hs hv hk1 fun h11 hl11=>?_
     have hle11:=Hp.le_trans hle9 hl11
     have l311:=Hp.le_trans l39 hl11
     obtain ⟨kd,hkd⟩:∃kd,kd=kindP ((allC S).getD k dC) (cens S) item:=⟨_,rfl⟩
     have hsuit:suitP ((allC S).getD (remL (its S) item R)[i].toNat dC) (cens S) item↔(if eqK ((allC S).getD k dC).kind=2 then kd=3 else kd=1∨kd=2):=by
      rw [hk2e,hkd]
      unfold suitP
      rw [if_neg h6]
      rfl
     rw [←hkd]
     refine za3 (fun s h'=>h'=h11∧s.1=decide (kd=1∨kd=2)) ?_ ?_
     · rintro ⟨b,_⟩ h11 ⟨rfl,hb⟩
       simp only at hb
       subst hb
       refine za3 (fun s h'=>h'=h11∧(s.1=true↔suitP ((allC S).getD (remL (its S) item R)[i].toNat dC) (cens S) item)) ?_ ?_
       · rintro ⟨b,_⟩ h11 ⟨rfl,hb⟩
         simp only at hb
         refine za7 (fun h12=>no _ hle11 fun hh=>?_) (fun h12=>hk2 _ hi' ⟨Hp.le_trans hl9 hl11,?_⟩)
         · rw [hb.2 (hh.2.2 _ (List.getElem_mem hi'))] at h12; cases h12
         · exact upto (P:=fun i:Int=>suitP ((allC S).getD i.toNat dC) (cens S) item) hno hi' (hb.1 (by simpa using h12))
       · refine ⟨_,d1 l311,?_⟩
         refine ziu (hp.le hle11) hs hv (ht.le hle11) hk1 ?_
         refine zaa (fun h12=>⟨rfl,?_⟩) (fun h12=>⟨rfl,?_⟩)
         · rw [hsuit,if_pos (by omega)]
           simp
         · rw [hsuit,if_neg (by omega)]
           simp
     · refine zaa (fun h12=>⟨rfl,?_⟩) (fun h12=>⟨rfl,?_⟩)
       · rw [h12]; rfl
       · by_cases h13:kd=2
         · rw [h13]; rfl
         · rw [decide_eq_false (by omega)]; simpa using h13
   · refine hk _ _ hle9 ⟨fun _=>⟨h4,by omega,?_⟩,fun _=>rfl⟩
     exact upall (P:=fun i:Int=>suitP ((allC S).getD i.toNat dC) (cens S) item) hno (by simp only at h10; omega)
end
end Den
end

section
namespace Den
open Go Iv Lx
section
variable {h : Hp} {s : TSketch} {S : PSk} {x : TConstraint} {c : PCon} {cs : List Int} {ce : Sl} {item : Int} {R : List Int} {rs : Sl} {Kb : Bool → Hp → Prop} {Ki : Int → Hp → Prop} {Ks : Sl → Hp → Prop}
theorem zr0 (hx:x.kind=c.kind) (hv:1≤c.kind∧c.kind≤17) (H:∀h',h.le h'→Ki ((eqK c.kind:Nat):Int) h'):callP (F.zgi x) Ki h:=by
 refine za1 (fun b h'=>b=((eqK c.kind:Nat):Int)) (fun K' hk=>?_) fun b h' hl hb=>by subst hb; exact H h' hl
 unfold F.zgi
 rw [hx]
 exact za6c (fun _ _ nm vs h' hl=>hk _ _ hl rfl) (fun hn=>absurd hv hn)
end
theorem zi3 {can:List Int→Int→Bool} {pref:List Int} (hc:∀R i,can R i=true→i∉R):∀{f:Nat} {R:List Int},(leftL pref R).length≤f→pref.find? (can R)=none→peelF can pref f R=R
 | 0,R,_,_=>rfl
 | f+1,R,_,h=>by unfold peelF; rw [h]
theorem zju {can:List Int→Int→Bool} {pref:List Int} (hc:∀R i,can R i=true→i∉R) {f:Nat} {R:List Int} {i:Int} (hf:(leftL pref R).length≤f) (h:pref.find? (can R)=some i) :
 ∃g,f=g+1∧peelF can pref f R=peelF can pref g (R++[i])∧(leftL pref (R++[i])).length≤g:=by
 have h1:=List.find?_some h
 have h2:=List.mem_of_find?_eq_some h
 have h3:=zqq h2 (hc _ _ h1)
 obtain ⟨g,rfl⟩:∃g,f=g+1:=⟨f-1,by omega⟩
 refine ⟨g,rfl,?_,by omega⟩
 conv=>lhs; unfold peelF
 rw [h]
theorem zmo {L:List PCon} {cs:List Int}:∀R i,canB L cs R i=true→i∉R:=fun R i h=>(of_decide_eq_true h).1
def peelS (S:PSk) (pref:List Int):List Int:=peelL (canB (allC S) (cens S)) pref
theorem za2c {can:Int→Bool} {l:List Int} {i:Nat} (hi:i<l.length) (hno:∀j (hj:j<l.length),j<i→can l[j]=false) (h:can l[i]=true):l.find? can=some l[i]:=by
 rw [List.find?_eq_some_iff_append]
 refine ⟨h,l.take i,l.drop (i+1),?_,fun a ha=>?_⟩
 · rw [List.getElem_cons_drop,List.take_append_drop]
 · obtain ⟨j,hj,rfl⟩:=List.mem_take_iff_getElem.1 ha
   rw [hno j (by omega) (by omega)]; rfl
section
variable {h : Hp} {s : TSketch} {S : PSk} {l : Sl} {pref : List Int} {K : (Sl × Sl) → Hp → Prop}
end
end Den
end

section
namespace Den
open Go Iv Lx
theorem Own.clr {h0 h:Hp} {x:Sl} {cs:List Value} {n:Nat} {K:Hp→Prop} (ho:Own h0 h 1 x cs) (hn:n≤cs.length) (H:∀h',Own h0 h' 1 (x.cut 0 n 1) (cs.take n)→K h'):clrP (x.cut n x.len 1) [.int .i64 0] K h:=by
 have hlen:=ho.2.1
 have hcap:=ho.2.2.1
 refine ⟨fun h1=>H h (ho.pre (by omega)),fun h1=>?_⟩
 have hl:(x.cut n x.len 1).len=x.len-n:=rfl
 have hlt:n<x.len:=by omega
 have ho':=ho
 obtain ⟨g1,g2,g3,g4⟩:=ho
 cases ha:x.a with
 | none=>rw [ha] at g4; simp only at g4; omega
 | some a=>
   rw [ha] at g4
   obtain ⟨k1,k2,k3,b,k4,k5,k6,k7⟩:=g4
   have hca:(x.cut n x.len 1).a=Option.some (a.add (n*1)):=by
    show (if x.cap=n then x.a else x.a.map (·.add (n*1)))=_
    rw [if_neg (by omega),ha]; rfl
   rw [hca]
   simp only [stO]
   rw [zba]
   have hrl:(repl (x.cut n x.len 1).len [Value.int .i64 0]).length=x.len-n:=by rw [zn8,hl]; simp
   refine ⟨b,by rw [zbf]; exact k4,zdd k2 _,k5,?_,?_,?_⟩
   · rw [zcl,hrl]; omega
   · unfold repl
     rw [List.all_flatten,List.all_eq_true]
     intro l hl
     rw [(List.mem_replicate.1 hl).2]; rfl
   · rw [zbf,zcl,k1,Nat.zero_add,Nat.mul_one]
     refine H _ ⟨?_,?_,?_,?_⟩
     · intro kk bk hkk
       rw [Hp.ins_ne (fun hh=>by subst hh; rw [k3] at hkk; cases hkk)]
       exact g1 kk bk hkk
     · show (n-0)*1=_
       rw [List.length_take]; omega
     · show n-0≤x.cap-0; omega
     · rw [cut_a,ha]
       refine ⟨k1,k2,k3,_,Hp.ins_same _ _ _,k5,?_,?_⟩
       · show (splice b.cells n _).length=(x.cap-0)*1
         rw [zdo (by omega)]
         exact k6
       · have e:(cs.take n).length=n:=by rw [List.length_take]; omega
         rw [e]
         show (splice b.cells n _).take n=_
         unfold splice
         rw [List.append_assoc,List.take_append_of_le_length (by rw [List.length_take]; omega),List.take_take,Nat.min_self]
         have:=congrArg (List.take n) k7
         rw [List.take_take,Nat.min_eq_left (by omega)] at this
         exact this
def kept (xs R:List Int) (j:Nat):List Int:=(xs.take j).filter fun x=>decide (x∉R)
theorem znz {xs R:List Int} {j:Nat} (hj:j<xs.length):kept xs R (j+1)=kept xs R j++(if xs[j]∈R then [] else [xs[j]]):=by
 unfold kept
 rw [←List.take_append_getElem hj,List.filter_append]
 congr 1
 by_cases hm:xs[j]∈R<;>simp [List.filter,hm]
section
variable {h D : Hp} {S : PSk} {p p1 p2 : Addr} {rs l : Sl} {xs R : List Int} {Kb : Bool → Hp → Prop} {Ki : Int → Hp → Prop} {Ks : Sl → Hp → Prop} {K : (Sl × Sl) → Hp → Prop}
theorem zzx {G:Int→(Bool→Hp→Prop)→Hp→Prop} {r:Int} (ho:OI D h l xs) (hlen:xs.length≤1000)
 (hG:∀x h',D.le h'→∀K:Bool→Hp→Prop,(∀h'',h'.le h''→K (decide (x∈R)) h'')→callP (G x) K h') (hr:Fnd (fun x=>x∈R) xs r) (H:∀y h',OI D h' y (xs.filter fun x=>decide (x∉R))→Ks y h') :
 (ifP (r==(-1))
 (Ks l h)
 (loopP (S:=Int×Int×Unit) (fun s2 k3 h2=>
 (ifP (decide (s2.2.1<(l.len:Int)))
 (joinP (S:=Int×Unit) (fun s4 h3=>
 (k3 (s4.1,(IntKind.i64.wrap (s2.2.1+1)),()) h3))
 (fun k5=>
 (idxP l s2.2.1 1 fun a6=>
 (ldL (.int .i64) a6 (fun x7=>
 (callP (G x7) (fun r8 h4=>
 (ifP (!r8)
 (idxP l s2.1 1 fun a9=>
 (stP a9 [.int .i64 x7] (fun h5=>
 (k5 ((IntKind.i64.wrap (s2.1+1)),()) h5)) h4))
 (k5 (s2.1,()) h4))) h2)) h2))))
 (slP l s2.1 (l.len:Int) 1 fun c10=>
 (clrP c10 [.int .i64 0] (fun h6=>
 (slP l 0 s2.1 1 fun c11=>
 (Ks c11 h6))) h2))))
 (r,(IntKind.i64.wrap (r+1)),()) h)):=by
  have hll:=ho.il.len
  have hcap:=ho.2.2.1
  rcases hr with ⟨rfl,hno⟩ | ⟨k,hk,rfl,hk1,hk2⟩
  · refine zcd rfl (H _ _ ?_)
    have:xs.filter (fun x=>decide (x∉R))=xs:=by
     rw [List.filter_eq_self]
     exact fun a ha=>decide_eq_true (hno a ha)
    rw [this]; exact ho
  · refine zal (by rw [beq_eq_false_iff_ne]; omega) ?_
    have hkk:kept xs R k=xs.take k:=by
     unfold kept
     rw [List.filter_eq_self]
     intro a ha
     obtain ⟨j,hj,rfl⟩:=List.mem_take_iff_getElem.1 ha
     exact decide_eq_true (hk2 j (by omega) (by omega))
    have hks:kept xs R (k+1)=xs.take k:=by
     rw [znz hk,if_pos hk1,List.append_nil,hkk]
    refine zau (fun st h'=>∃(j m:Nat) (ys:List Int),st=((m:Int),(j:Int),())∧k<j∧j≤xs.length∧OI D h' l ys∧ys.length=xs.length∧m=(kept xs R j).length∧m≤j∧ys.take m=kept xs R j∧ys.drop j=xs.drop j)
     (fun st=>(xs.length-st.2.1).toNat) ⟨k+1,k,xs,by rw [w64 (by omega)]; rfl,by omega,by omega,ho,rfl,by rw [hks]; simp; omega,by omega,by rw [hks],rfl⟩ ?_
    rintro _ h2 ⟨j,m,ys,rfl,hkj,hj,ho2,hyl,hm,hmj,htk,hdr⟩
    refine za0 (fun h3=>?_) (fun h3=>?_)
    · have hj':j<xs.length:=by simp only at h3; omega
      have hyj:ys[j]'(by omega)=xs[j]:=by
       have:=congrArg (fun l:List Int=>l[0]?) hdr
       simp only [List.getElem?_drop,Nat.add_zero] at this
       rw [List.getElem?_eq_getElem (by omega),List.getElem?_eq_getElem hj'] at this
       exact Option.some.inj this
      refine za3 (fun st h'=>∃(m':Nat) (ys':List Int),st.1=(m':Int)∧OI D h' l ys'∧ys'.length=xs.length∧m'=(kept xs R (j+1)).length∧m'≤j+1∧ys'.take m'=kept xs R (j+1)∧ys'.drop (j+1)=xs.drop (j+1)) ?_ ?_
      · rintro ⟨_,_⟩ h4 ⟨m',ys',rfl,g1,g2,g3,g4,g5,g6⟩
        exact ⟨⟨j+1,m',ys',by simp only; rw [w64 (by omega)]; rfl,by omega,by omega,g1,g2,g3,g4,g5,g6⟩,by simp only; rw [w64 (by omega)]; omega⟩
      · refine ho2.il.get j rfl (by omega) ?_
        have hdr1:ys.drop (j+1)=xs.drop (j+1):=by
         have:=congrArg (List.drop 1) hdr
         rw [List.drop_drop,List.drop_drop] at this
         exact this
        refine hG _ _ ho2.dle _ fun h4 hl4=>?_
        have ho4:=ho2.le hl4
        rw [hyj]
        refine za7 (fun h5=>?_) (fun h5=>?_)
        · have hx:xs[j]∉R:=by simpa using h5
          have hs:=znz (xs:=xs) (R:=R) hj'
          rw [if_neg hx] at hs
          refine zvc m ho4 rfl (by omega) rfl (by decide) rfl fun h6 ho6=>⟨m+1,ys.set m xs[j],by simp only; rw [w64 (by omega)]; rfl,?_,by simpa using hyl,by rw [hs]; simp; omega,by omega,?_,?_⟩
          · rw [Nat.mul_one] at ho6
            have e:splice (ys.map ic) m [Value.int .i64 xs[j]]=(ys.set m xs[j]).map ic:=by
             rw [zim,List.map_set,List.set_eq_take_append_cons_drop,if_pos (by simp; omega)]
             rfl
            unfold OI
            rw [←e]; exact ho6
          · rw [hs,←htk,List.take_add_one,List.take_set_of_le (Nat.le_refl _),List.getElem?_set_self (by omega)]
            rfl
          · rw [List.drop_set_of_lt (by omega)]; exact hdr1
        · have hx:xs[j]∈R:=by simpa using h5
          have hs:=znz (xs:=xs) (R:=R) hj'
          rw [if_pos hx,List.append_nil] at hs
          exact ⟨m,ys,rfl,ho4,hyl,by rw [hs]; exact hm,by omega,by rw [hs]; exact htk,hdr1⟩
    · have:j=xs.length:=by simp only at h3; omega
      subst this
      have hl2:=ho2.il.len
      refine ⟨by omega,by simp only; omega,by omega,?_⟩
      have e1:((l.len:Nat):Int).toNat=l.len:=rfl
      have e2:((m:Nat):Int).toNat=m:=rfl
      simp only
      rw [e1,e2]
      refine Own.clr ho2 (n:=m) (by simp; omega) fun h6 ho6=>⟨by decide,by omega,by omega,?_⟩
      have e3:(0:Int).toNat=0:=rfl
      rw [e3,e2]
      refine H _ _ ?_
      unfold OI
      have:xs.filter (fun x=>decide (x∉R))=ys.take m:=by
       rw [htk]
       unfold kept
       rw [List.take_length]
      rw [this,List.map_take]
      exact ho6
theorem zqx {x:Int} (hc:h.cell p2=some (Lf.sl.up rs)) (hr:IL h rs R) (hlen:R.length≤1000) (H:∀h',h.le h'→Kb (decide (x∈R)) h'):callP (F.y_henneberg_peeler_peel_2 x (some p2)) Kb h:=by
 refine za1 (fun b h'=>b=decide (x∈R)) (fun K' hk=>?_) fun b h' hl hb=>by subst hb; exact H h' hl
 unfold F.y_henneberg_peeler_peel_2
 exact ⟨_,hc,zej hr (by omega) fun h' hl=>hk _ _ hl rfl⟩
theorem zwa (ho:OI D h l xs) (hxl:xs.length≤1000) (hc:D.cell p2=some (Lf.sl.up rs)) (hr:IL D rs R) (hlen:R.length≤1000) (H:∀y h',OI D h' y (xs.filter fun x=>decide (x∉R))→Ks y h'):callM (F.zb6 l (some p2,())) Ks h:=by
 refine zgl ?_
 unfold F.zb6
 refine za1 (fun r h'=>Fnd (fun x=>x∈R) xs r) (fun K2 hk=>?_) fun r h1 hl1 hr1=>?_
 · unfold F.zbt
   refine zm8 ho.il (by omega) (fun x _ h5 hl5 K5 hK5=>?_) fun r h' hl hr=>hk _ _ hl hr
   have hD5:=Hp.le_trans ho.dle hl5
   exact zqx (Hp.cell_le hD5 hc) (hr.le hD5) hlen fun h6 hl6=>hK5 _ _ hl6 (by rw [decide_eq_true_iff])
 · exact zzx (G:=fun x=>F.y_henneberg_peeler_peel_2 x (some p2,()).1) (ho.le hl1) hxl (fun x h' hl' K' hK'=>zqx (Hp.cell_le hl' hc) (hr.le hl') hlen hK') hr1 H
end
end Den
end

section
namespace Den
open Go Iv Lx
theorem za30 {can:List Int→Int→Bool} {pref:List Int} (hcn:∀R i,can R i=true→i∉R):∀(f1 f2:Nat) (Q:List Int),(leftL pref Q).length≤f1→(leftL pref Q).length≤f2→peelF can pref f1 Q=peelF can pref f2 Q:=by
 intro f1
 induction f1 with
 | zero=>
   intro f2 Q h1 h2
   cases hq:pref.find? (can Q) with
   | none=>rw [zi3 hcn h1 hq,zi3 hcn h2 hq]
   | some z=>
     obtain ⟨g,hg,_⟩:=zju hcn h1 hq
     omega
 | succ f1 ih=>
   intro f2 Q h1 h2
   cases hq:pref.find? (can Q) with
   | none=>rw [zi3 hcn h1 hq,zi3 hcn h2 hq]
   | some z=>
     obtain ⟨g,hg,e1,e2⟩:=zju hcn h1 hq
     obtain ⟨g',hg',e1',e2'⟩:=zju hcn h2 hq
     rw [e1,e1']
     have:g=f1:=by omega
     subst this
     exact ih g' _ e2 e2'
def allS (S:PSk):List Int:=allI S.pts.length S.cir.length
theorem zt7 {S:PSk} (hs:sSk S):(allS S).length≤20:=by
 unfold allS
 rw [zt6]
 have:=hs.1
 have:=hs.2.1
 omega
theorem zrb {S:PSk} (hs:sSk S) {x:Int} (hx:x∈allS S):smI x:=by
 have:=zpq.1 hx
 have:=hs.1
 have:=hs.2.1
 unfold smI; omega
section
variable {h D : Hp} {s : TSketch} {S : PSk} {p p1 p2 : Addr} {rs l : Sl} {xs R : List Int} {Kb : Bool → Hp → Prop} {Ki : Int → Hp → Prop} {Ks : Sl → Hp → Prop} {K : (Sl × Sl) → Hp → Prop}
theorem zyx (hp:PR h p S) (hs:sSk S) (hv:VS S) (ht:GT h) (c1:h.cell p1=some (.pointer (some p))) (c2:h.cell p2=some (Lf.sl.up rs)) (hr:IL h rs R) (hR:R.length≤100000) (hl:IL h l xs) (hxl:xs.length≤1000) (hsm:∀x∈xs,smI x)
 (H:∀r h',h.le h'→Fnd (fun x=>canB (allC S) (cens S) R x=true) xs r→Ki r h'):callP (F.zb8 l (some p1,some p2,())) Ki h:=by
 refine za1 (fun r h'=>Fnd (fun x=>canB (allC S) (cens S) R x=true) xs r) (fun K' hk=>?_) fun b h' hl hb=>H b h' hl hb
 unfold F.zb8
 refine zm8 hl (by omega) (fun x hx h5 hl5 K5 hK5=>?_) fun r h' hl hr=>hk _ _ hl hr
 refine za1 (fun b h'=>b=true↔canB (allC S) (cens S) R x=true) (fun K6 hk6=>?_) fun b h8 hl8 hb=>hK5 _ _ hl8 hb
 unfold F.y_henneberg_peeler_peel_1
 refine ⟨_,Hp.cell_le hl5 c1,_,Hp.cell_le hl5 c2,?_⟩
 exact zrp (hp.le hl5) hs hv (ht.le hl5) (hr.le hl5) hR (hsm x hx) fun b h' hl hb=>hk6 _ _ hl (by rw [hb]; unfold canB; rw [decide_eq_true_iff])
theorem za52 {can:Int→Bool} {xs:List Int} {r:Int} (hf:Fnd (fun x=>can x=true) xs r):(r=-1∧xs.find? can=none)∨∃k,∃hk:k<xs.length,r=(k:Int)∧xs.find? can=some xs[k]:=by
 rcases hf with ⟨h1,h2⟩ | ⟨k,hk,h1,h2,h3⟩
 · exact .inl ⟨h1,by rw [List.find?_eq_none]; exact fun x hx=>by simpa using h2 x hx⟩
 · exact .inr ⟨k,hk,h1,za2c hk (fun j hj hjk=>by simpa using h3 j hj hjk) h2⟩
theorem zsd (hp:PR h p S) (hs:sSk S) (hv:VS S) (ht:GT h) (H:∀a b h',h.le h'→IL h' a (peelS S (allS S))→IL h' b (leftL (allS S) (peelS S (allS S)))→K (a,b) h'):callP (F.y_henneberg_peeler_peel (some p)) K h:=by
 refine za1 (fun r h'=>IL h' r.1 (peelS S (allS S))∧IL h' r.2 (leftL (allS S) (peelS S (allS S)))) (fun K' hk=>?_) fun r h' hl hr=>H r.1 r.2 h' hl hr.1 hr.2
 unfold F.y_henneberg_peeler_peel
 obtain ⟨can,hcan⟩:∃can,can=canB (allC S) (cens S):=⟨_,rfl⟩
 have hcn:∀R i,can R i=true→i∉R:=by rw [hcan]; exact zmo
 have hal:=zt7 hs
 refine zdg fun p1 h1 hl1 c1=>?_
 intro b e hbf
 have hp1:=hp.le hl1
 have ht1:=ht.le hl1
 refine zrl (fun f st h'=>∃(R:List Int) (y:Sl) (D:Hp),st=(some ⟨b,0,none⟩,())∧h1.le D∧D b=none∧MB h' b [Lf.sl.up y]∧OI D h' y R∧(∀a,y.a=some a→a.block≠b)∧R.length+(leftL (allS S) R).length≤(allS S).length∧(leftL (allS S) R).length≤f ∧
  peelF can (allS S) (leftL (allS S) R).length R=peelS S (allS S)) (n0:=(allS S).length)
  ⟨[],nilS,h1,rfl,Hp.le_refl _,hbf,⟨e,Hp.ins_same _ _ _⟩,Own.nil (Hp.le_ins hbf),fun a ha=>(by cases ha),?_⟩ ?_
 · have e:leftL (allS S) []=allS S:=by unfold leftL; rw [List.filter_eq_self]; simp
   rw [e]
   exact ⟨by simp,Nat.le_refl _,by rw [hcan]; rfl⟩
 rintro f _ h2 ⟨R,y,D,rfl,hD,hDb,hm,ho,hyb,hRl,hf,hpf⟩ K2 hK2
 have hD2:=ho.dle
 have hle2:h1.le h2:=Hp.le_trans hD hD2
 refine ⟨_,Hp.cell_le hle2 c1,?_⟩
 refine zo3 (hp1.le hle2) hs fun r6 h3 hl3 ho6=>?_
 have hle3:=Hp.le_trans hle2 hl3
 have hm3:=hm.le hl3
 have ho3:=ho.le hl3
 have c2:∀{h':Hp},MB h' b [Lf.sl.up y]→h'.cell ⟨b,0,none⟩=some (Lf.sl.up y):=fun hm=>by
  have:=hm.ld 0 rfl
  rwa [zba] at this
 refine zyx (hp1.le hle3) hs hv (ht1.le hle3) (Hp.cell_le hle3 c1) (c2 hm3) ho3.il (by omega) (xs:=allS S) ho6.il (by omega) (fun x hx=>zrb hs hx) fun r7 h4 hl4 hr7=>?_
 have hle4:=Hp.le_trans hle3 hl4
 have hm4:=hm3.le hl4
 have ho4:=ho3.le hl4
 rw [←hcan] at hr7
 rcases za52 hr7 with ⟨hr,hnone⟩ | ⟨k,hk0,hr,hsome⟩
 · refine zcd (decide_eq_true (by omega)) ?_
   have hRp:R=peelS S (allS S):=by rw [←hpf,zi3 hcn (Nat.le_refl _) hnone]
   refine ⟨_,Hp.cell_le hle4 c1,?_⟩
   refine zo3 (hp1.le hle4) hs fun r9 h5 hl5 ho9=>?_
   have hm5:=hm4.le hl5
   have ho5:=ho4.le hl5
   refine zwa (D:=h4) (xs:=allS S) (R:=R) (rs:=y) ho9 (by omega) (c2 hm4) ho4.il (by omega) fun z h6 ho6z=>?_
   have l46:h4.le h6:=ho6z.dle
   have hm6:=hm4.le l46
   refine ⟨_,c2 hm6,?_⟩
   refine hk _ _ (Hp.le_trans hl1 (Hp.le_trans hle4 l46)) ⟨?_,?_⟩
   · rw [←hRp]
     exact (ho4.le l46).il
   · have:leftL (allS S) (peelS S (allS S))=(allS S).filter fun x=>decide (x∉R):=by rw [←hRp]; rfl
     rw [this]
     exact ho6z.il
 · refine zal (decide_eq_false (by omega)) ?_
   refine ⟨_,c2 hm4,_,Hp.cell_le hle4 c1,?_⟩
   refine zo3 (hp1.le hle4) hs fun r16 h5 hl5 ho16=>?_
   have hm5:=hm4.le hl5
   have ho5:=ho4.le hl5
   rw [hr]
   refine ho16.il.get (xs:=allS S) k rfl hk0 ?_
   have hyl:=ho5.il.len
   have hbb:h5 b≠none:=by obtain ⟨e,hm⟩:=hm5; rw [hm]; simp
   refine zko ho5 (n:=1) (new:=[ic (allS S)[k]]) rfl rfl rfl (by omega) (by omega) fun w h6 hw _ hs6 hb6=>?_
   have hm6:MB h6 b [Lf.sl.up y]:=by
    obtain ⟨e,hm⟩:=hm5
    exact ⟨e,by rw [hs6 b hbb fun a ha=>(hyb a ha).symm]; exact hm⟩
   have hwb:∀a,w.a=some a→a.block≠b:=fun a ha hh=>by
    rcases hb6 a ha with ⟨a',h8,h9⟩ | h8
    · exact hyb a' h8 (by rw [h9]; exact hh)
    · rw [hh] at h8; exact hbb h8
   obtain ⟨g,hg1,hg2,hg3⟩:=zju hcn (Nat.le_refl _) hsome
   have hlt:(leftL (allS S) (R++[(allS S)[k]])).length<(leftL (allS S) R).length:=by omega
   have key:=hm6.st (j:=0) (v:=Lf.sl.up w) (K:=fun h=>K2 (some ⟨b,0,none⟩,()) h) (by simp) rfl fun h8 hm8 hs8=>hK2 (leftL (allS S) (R++[(allS S)[k]])).length _ _ (by omega) ⟨R++[(allS S)[k]],w,D,rfl,hD,hDb,hm8,?_,hwb,by simp; omega,Nat.le_refl _,?_⟩
   · rw [zba] at key
     exact key
   · obtain ⟨e8,hm8'⟩:=hm8
     rw [zu7 hm8' hs8]
     have:OI D h6 w (R++[(allS S)[k]]):=by
      unfold OI
      rw [List.map_append]
      exact hw
     exact zps this hDb hwb
   · rw [←hpf,hg2]
     exact za30 hcn _ _ _ (Nat.le_refl _) hg3
theorem zzm (hx:SK h s S) (hs:sSk S) (ht:GT h) (H0:∀h',h.le h'→¬VS S→K (nilS,nilS) h') (H:∀a b h',h.le h'→VS S→IL h' a (peelS S (allS S))→IL h' b (leftL (allS S) (peelS S (allS S)))→K (a,b) h'):callP (F.zh7 s) K h:=by
 refine za1 (fun r h'=>(¬VS S∧r=(nilS,nilS))∨(VS S∧IL h' r.1 (peelS S (allS S))∧IL h' r.2 (leftL (allS S) (peelS S (allS S))))) (fun K' hk=>?_) fun r h' hl hr=>by
  rcases hr with ⟨h1,rfl⟩ | ⟨h1,h2,h3⟩
  · exact H0 h' hl h1
  · exact H r.1 r.2 h' hl h1 h2 h3
 unfold F.zh7
 refine zp9 hx hs ht fun r h1 hl1 hr=>?_
 refine zb7 (fun h2=>hk _ _ hl1 (.inl ⟨fun hv=>h2 (hr.2 hv),rfl⟩)) (fun h2=>?_)
 have hv:=hr.1 h2
 refine zo5 (hx.le hl1) hv hs fun p h3 hl3 hp=>?_
 refine zsd hp hs hv (ht.le (Hp.le_trans hl1 hl3)) fun a b h4 hl4 ha hb=>hk _ _ (Hp.le_trans hl1 (Hp.le_trans hl3 hl4)) (.inr ⟨hv,ha,hb⟩)
end
end Den
end

section
namespace Den
open Go Iv Lx
abbrev PStep:=Int×Int×List Int×Int
def stc (x:TStep):List Value:=[.int .i64 x.kind,.int .i64 x.target,Lf.sl.up x.uses,.int .i64 x.branch]
def STP (h:Hp) (x:TStep) (b:PStep):Prop:=x.kind=b.1∧x.target=b.2.1∧IL h x.uses b.2.2.1∧x.branch=b.2.2.2
theorem zcf:Rec stc 4 STP:=⟨fun _=>rfl,by decide,fun _=>rfl,fun hx hl=>⟨hx.1,hx.2.1,hx.2.2.1.le hl,hx.2.2.2⟩⟩
def stepP (L:List PCon) (cs:List Int) (item:Int) (u:List Int):PStep:=
 if item<0 then (if u.length=0 then 5 else 6,-1-item,u,0)
 else if u.length=0 then (1,item,u,0)
 else if u.length=1 then (if eqK (L.getD (u.getD 0 0).toNat dC).kind=2 then 4 else 2,item,u,0)
 else (3,item,u,if kindP (L.getD (u.getD 0 0).toNat dC) cs item=1∧kindP (L.getD (u.getD 1 0).toNat dC) cs item=1 then 0 else 1)
def planN (S:PSk) (R:List Int):Nat→List PStep
 | 0=>[]
 | k+1=>stepP (allC S) (cens S) (R.getD k 0) (remL (its S) (R.getD k 0) (R.take k)) :: planN S R k
theorem zd8 {S:PSk} {R:List Int}:∀k,(planN S R k).length=k
 | 0=>rfl
 | k+1=>by unfold planN; rw [List.length_cons,zd8 k]
def planS (S:PSk):List PStep:=planN S (peelS S (allS S)) (peelS S (allS S)).length
theorem za2d {α:Type} {l m:List α} {d:α} {k:Nat} (h:k<l.length):(l++m).getD k d=l.getD k d:=by
 rw [List.getD_eq_getElem?_getD,List.getD_eq_getElem?_getD,List.getElem?_append_left h]
theorem za2e {α:Type} {l m:List α} {d:α} {k:Nat} (h:l.length≤k):(l++m).getD k d=m.getD (k-l.length) d:=by
 rw [List.getD_eq_getElem?_getD,List.getD_eq_getElem?_getD,List.getElem?_append_right h]
theorem zus {can:List Int→Int→Bool} {pref:List Int}:∀{f:Nat} {R:List Int},(∀k,k<R.length→can (R.take k) (R.getD k 0)=true∧R.getD k 0∈pref)→∀k,k<(peelF can pref f R).length→can ((peelF can pref f R).take k) ((peelF can pref f R).getD k 0)=true∧(peelF can pref f R).getD k 0∈pref
 | 0,R,h=>h
 | f+1,R,h=>by
   unfold peelF
   cases hq:pref.find? (can R) with
   | none=>exact h
   | some i=>
     refine zus fun k hk=>?_
     rw [List.length_append,List.length_singleton] at hk
     rcases Nat.lt_or_ge k R.length with h1 | h1
     · have:=h k h1
       rw [List.take_append_of_le_length (by omega),za2d h1]
       exact this
     · have:k=R.length:=by omega
       subst this
       rw [List.take_append_of_le_length (Nat.le_refl _),List.take_length,za2e (Nat.le_refl _)]
       simp only [Nat.sub_self,List.getD_cons_zero]
       exact ⟨List.find?_some hq,List.mem_of_find?_eq_some hq⟩
theorem zut {S:PSk} {pref:List Int} {k:Nat} (hk:k<(peelS S pref).length):canP (allC S) (cens S) ((peelS S pref).take k) ((peelS S pref).getD k 0)∧(peelS S pref).getD k 0∈pref:=by
 have:=zus (can:=canB (allC S) (cens S)) (pref:=pref) (f:=pref.length) (R:=[]) (fun k hk=>by simp at hk) k hk
 exact ⟨of_decide_eq_true this.1,this.2⟩
theorem zx7 {k:Int} (h:1≤k) (h2:k≤17):1≤eqK k:=by
 have:∀i:Fin 17,1≤eqK ((i:Nat)+1:Int):=by decide
 have:=this ⟨(k-1).toNat,by omega⟩
 rw [show (((⟨(k-1).toNat,by omega⟩:Fin 17):Nat)+1:Int)=k by simp; omega] at this
 exact this
theorem zvp {L:List PCon}:∀{l:List Int},(∀i∈l,1≤eqK (L.getD i.toNat dC).kind)→l.length≤wtL L l
 | [],_=>Nat.zero_le _
 | a :: r,h=>by
   have h1:=zvp (L:=L) (l:=r) fun i hi=>h i (List.mem_cons_of_mem _ hi)
   have h2:=h a (List.mem_cons_self ..)
   unfold wtL at h1 ⊢
   simp only [List.map_cons,List.sum_cons,List.length_cons]
   omega
theorem zrc {S:PSk} {R:List Int} {item:Int} (hs:sSk S) (hv:VS S) (hc:canP (allC S) (cens S) R item):(remL (its S) item R).length≤most item:=by
 have h1:wtL (allC S) (remL (its S) item R)≤most item:=hc.2.1
 refine Nat.le_trans (zvp fun i hi=>?_) h1
 obtain ⟨k,h1,rfl,_⟩:=zon hi
 rw [ze0] at h1
 have h3:(allC S).getD ((k:Nat):Int).toNat dC=(allC S)[k]:=zbb h1
 rw [h3]
 have:=(zf5 hv hs _ (List.getElem_mem h1)).1.1
 exact zx7 this.1 this.2
section
variable {h : Hp} {s : TSketch} {S : PSk} {p : Addr} {item : Int} {us : Sl} {u : List Int} {Kb : Bool → Hp → Prop} {Ki : Int → Hp → Prop} {K : TStep → Hp → Prop}
theorem za62 {u:List Int} (h:u.length≤2):u=[]∨(∃a,u=[a])∨∃a b,u=[a,b]:=by
 rcases u with _ | ⟨a,_ | ⟨b,_ | ⟨c,r⟩⟩⟩
 · exact .inl rfl
 · exact .inr (.inl ⟨a,rfl⟩)
 · exact .inr (.inr ⟨a,b,rfl⟩)
 · simp at h
theorem za3h (hp:PR h p S) (hs:sSk S) (hv:VS S) (ht:GT h) (hu:IL h us u) (hul:u.length≤2) (hin:∀i∈u,∃k:Nat,k<(allC S).length∧i=k) (hi:smI item) (H:∀x h',h.le h'→STP h' x (stepP (allC S) (cens S) item u)→K x h'):callP (F.y_henneberg_peeler_step (some p) item us) K h:=by
 refine za1 (fun x h'=>STP h' x (stepP (allC S) (cens S) item u)) (fun K' hk=>?_) fun b h' hl hb=>H b h' hl hb
 unfold F.y_henneberg_peeler_step
 have ul:=hu.len
 have e1:IntKind.i64.wrap (-1-item)=-1-item:=w64 (by unfold smI at hi; omega)
 rw [e1]
 refine za0 (fun h1=>?_) (fun h1=>?_)
 · refine za3 (fun s h'=>h.le h'∧STP h' ⟨s.1.1,s.1.2.1,s.1.2.2.1,s.1.2.2.2.1⟩ (stepP (allC S) (cens S) item u)) (fun s h' hs=>hk _ _ hs.1 hs.2) ?_
   refine za0 (fun h2=>⟨Hp.le_refl _,?_⟩) (fun h2=>⟨Hp.le_refl _,?_⟩)
   · unfold stepP
     rw [if_pos h1,if_neg (by omega)]
     exact ⟨rfl,rfl,hu,rfl⟩
   · unfold stepP
     rw [if_pos h1,if_pos (by omega)]
     exact ⟨rfl,rfl,hu,rfl⟩
 · refine za3 (fun s h'=>h.le h'∧STP h' ⟨s.1.1,s.1.2.1,s.1.2.2.1,s.1.2.2.2.1⟩ (stepP (allC S) (cens S) item u)) (fun s h' hs=>hk _ _ hs.1 hs.2) ?_
   rcases za62 hul with rfl | ⟨a,rfl⟩ | ⟨a,b,rfl⟩
   · simp only [List.length_nil] at ul
     refine zaa (fun h2=>by omega) (fun _=>zaa (fun h2=>by omega) (fun _=>zaa (fun h2=>by omega) (fun _=>⟨Hp.le_refl _,?_⟩)))
     unfold stepP
     rw [if_neg h1,if_pos (show ([]:List Int).length=0 from rfl)]
     exact ⟨rfl,rfl,hu,rfl⟩
   · simp only [List.length_singleton] at ul
     refine zaa (fun h2=>by omega) (fun _=>zaa (fun h2=>?_) (fun h2=>by omega))
     refine hu.get 0 rfl (by simp) ?_
     obtain ⟨k,hk1,hk2⟩:=hin a (by simp)
     simp only [List.getElem_cons_zero]
     rw [hk2]
     refine ziu hp hs hv ht hk1 ?_
     have fin:∀kd:Int,kd=(if eqK ((allC S).getD k dC).kind=2 then 4 else 2)→h.le h∧STP h ⟨kd,item,us,0⟩ (stepP (allC S) (cens S) item [(k:Int)]):=fun kd e=>⟨Hp.le_refl _,by
      unfold stepP
      rw [if_neg h1,if_neg (by simp),if_pos (show [(k:Int)].length=1 from rfl)]
      exact ⟨e,rfl,by rw [←hk2]; exact hu,rfl⟩⟩
     refine zaa (fun h3=>fin _ (by rw [if_pos (by omega)])) (fun h3=>zaa (fun h4=>fin _ (by rw [if_neg (by omega)])) (fun h4=>by omega))
   · have ul2:us.len=2:=by simpa using ul
     refine zaa (fun h2=>?_) (fun h2=>by omega)
     refine hu.get 0 rfl (by simp) ?_
     obtain ⟨k,hk1,hk2⟩:=hin a (by simp)
     obtain ⟨j,hj1,hj2⟩:=hin b (by simp)
     simp only [List.getElem_cons_zero]
     have fin:∀(br:Int) h',h.le h'→br=(if kindP ((allC S).getD k dC) (cens S) item=1∧kindP ((allC S).getD j dC) (cens S) item=1 then 0 else 1)→h.le h'∧STP h' ⟨3,item,us,br⟩ (stepP (allC S) (cens S) item [a,b]):=fun kd h' hl e=>⟨hl,by
      unfold stepP
      rw [if_neg h1,if_neg (by simp),if_neg (by simp)]
      refine ⟨rfl,rfl,hu.le hl,?_⟩
      rw [hk2,hj2]
      exact e⟩
     rw [show (a:Int)=((k:Nat):Int) from hk2]
     refine zmx hp hs hv hk1 fun h3 hl3=>?_
     rw [←hk2]
     refine zb7 (fun h4=>fin _ _ hl3 (by rw [if_neg (fun hh=>h4 hh.1)])) (fun h4=>?_)
     refine (hu.le hl3).get 1 rfl (by simp) ?_
     simp only [List.getElem_cons_succ,List.getElem_cons_zero]
     rw [show (b:Int)=((j:Nat):Int) from hj2]
     refine zmx (hp.le hl3) hs hv hj1 fun h5 hl5=>?_
     rw [←hj2]
     have hl:=Hp.le_trans hl3 hl5
     refine zb7 (fun h6=>fin _ _ hl (by rw [if_neg (fun hh=>h6 hh.2)])) (fun h6=>fin _ _ hl (by rw [if_pos ⟨h4,h6⟩]))
end
section
variable {h : Hp} {s : TSketch} {S : PSk} {p : Addr} {K : (TPlan × Int) → Hp → Prop} {Kb : Bool → Hp → Prop}
def PLN (h:Hp) (S:PSk) (r:TPlan×Int):Prop:=
 (¬VS S∧r=(⟨nilS,nilS⟩,1))∨(VS S∧leftL (allS S) (peelS S (allS S))≠[]∧r=(⟨nilS,nilS⟩,13)) ∨
 (VS S∧leftL (allS S) (peelS S (allS S))=[]∧r.2=0∧r.1.checks=nilS∧LR stc 4 STP h r.1.steps (planS S))
theorem zpu {S:PSk} (hs:sSk S):(peelS S (allS S)).length≤20:=by
 have h1:=zt7 hs
 suffices H:∀(f:Nat) (R:List Int),(leftL (allS S) R).length≤f→R.length+(leftL (allS S) R).length≤(allS S).length→(peelF (canB (allC S) (cens S)) (allS S) f R).length≤(allS S).length by
  have e:leftL (allS S) []=allS S:=by unfold leftL; rw [List.filter_eq_self]; simp
  have:=H (allS S).length [] (by rw [e]; exact Nat.le_refl _) (by rw [e]; simp)
  unfold peelS peelL
  omega
 intro f
 induction f with
 | zero=>intro R h2 h3; unfold peelF; omega
 | succ f ih=>
   intro R h2 h3
   cases hq:(allS S).find? (canB (allC S) (cens S) R) with
   | none=>rw [zi3 zmo h2 hq]; omega
   | some z=>
     obtain ⟨g,hg,e1,e2⟩:=zju zmo h2 hq
     have:g=f:=by omega
     subst this
     rw [e1]
     have h4:=zqq (List.mem_of_find?_eq_some hq) (zmo _ _ (List.find?_some hq))
     exact ih _ e2 (by simp; omega)
theorem za8f {D:Hp} {l:Sl} {xs:List Int} {i:Int} {K:Sl→Prop} (hx:IL D l xs) (k:Nat) (hi:i=k) (hk:k≤xs.length) (H:K (l.cut 0 k 1)):slP l 0 i 1 K:=by
 subst hi
 have h1:=hx.len
 have h2:=hx.2
 exact ⟨Int.le_refl _,by omega,by omega,H⟩
theorem znm (hx:SK h s S) (hs:sSk S) (ht:GT h) (H:∀r h',h.le h'→PLN h' S r→K r h'):callP (F.ze8 s) K h:=by
 refine za1 (fun r h'=>PLN h' S r) (fun K' hk=>?_) fun b h' hl hb=>H b h' hl hb
 unfold F.ze8
 refine zo9 hx hs ht fun r h1 hl1 hr hr2=>?_
 refine zb7 (fun h2=>hk _ _ hl1 (.inl ⟨fun hv=>h2 (hr.2 hv),by rw [show r=1 by omega]⟩)) (fun h2=>?_)
 have hv:=hr.1 h2
 refine zo5 (hx.le hl1) hv hs fun p h3 hl3 hp=>?_
 have hle3:=Hp.le_trans hl1 hl3
 refine zsd hp hs hv (ht.le hle3) fun a b h4 hl4 ha hb=>?_
 have hle4:=Hp.le_trans hle3 hl4
 have hbl:=hb.len
 refine za0 (fun h5=>hk _ _ hle4 (.inr (.inl ⟨hv,fun hh=>by rw [hh] at hbl; simp only at h5; simp at hbl; omega,rfl⟩))) (fun h5=>?_)
 have hleft:leftL (allS S) (peelS S (allS S))=[]:=List.eq_nil_of_length_eq_zero (by simp only at h5; omega)
 have hal:=ha.len
 have hpl:=zpu hs
 simp only
 rw [show IntKind.i64.wrap ((a.len:Int)-1)=(a.len:Int)-1 from w64 (by omega)]
 refine zrl (fun n st h'=>∃(y:Sl) (D:Hp) (ps:List PStep),st=((y,nilS,()),(n:Int)-1,())∧h4.le D∧LO stc 4 STP D h' y ps∧n≤(peelS S (allS S)).length∧ps++planN S (peelS S (allS S)) n=planS S) (n0:=(peelS S (allS S)).length)
  ⟨nilS,h4,[],by rw [hal],Hp.le_refl _,LO.nil,Nat.le_refl _,rfl⟩ ?_
 rintro n _ h6 ⟨y,D,ps,rfl,hD,ho,hn,hps⟩ K2 hK2
 have hD6:=ho.dle
 have hle6:=Hp.le_trans hD hD6
 have hpsl:ps.length+n=(peelS S (allS S)).length:=by
  have:=congrArg List.length hps
  rw [List.length_append,zd8] at this
  rw [this]; exact zd8 _
 refine za0 (fun h7=>?_) (fun h7=>?_)
 · obtain ⟨m,rfl⟩:∃m,n=m+1:=⟨n-1,by simp only at h7; omega⟩
   have hi:(((m+1:Nat):Int)-1)=(m:Int):=by omega
   simp only [hi]
   have hok:=zut (S:=S) (pref:=allS S) (k:=m) (by omega)
   have hg:(peelS S (allS S)).getD m 0=(peelS S (allS S))[m]:=zbb (by omega)
   refine (ha.le hle6).get m rfl (by omega) ((ha.le hle6).get m rfl (by omega) (za8f (ha.le hle6) m rfl (by omega) ?_))
   refine ho.call zcf (K1:=fun v h'=>OI D h' v (remL (its S) (peelS S (allS S))[m] ((peelS S (allS S)).take m))) (zme (hp.le (Hp.le_trans hl4 hD)) hs hv ((ha.le hD).cut (n:=m) (by omega)) (by rw [List.length_take]; omega) fun y h' hl ho=>ho) fun r11 D1 h8 hl8 ho8 hr11=>?_
   have hrl:=zrc hs hv hok.1
   have hm2:most ((peelS S (allS S)).getD m 0)≤2:=by unfold most; split<;>omega
   rw [hg] at hrl hm2
   have hin:∀i∈remL (its S) (peelS S (allS S))[m] ((peelS S (allS S)).take m),∃k:Nat,k<(allC S).length∧i=k:=fun i hi=>by
    obtain ⟨k,h1,h2,_⟩:=zon hi
    rw [ze0] at h1
    exact ⟨k,h1,h2⟩
   have hsm:smI (peelS S (allS S))[m]:=by rw [←hg]; exact zrb hs hok.2
   refine ho8.call zcf (K1:=fun v h'=>STP h' v (stepP (allC S) (cens S) (peelS S (allS S))[m] (remL (its S) (peelS S (allS S))[m] ((peelS S (allS S)).take m)))) (za3h (hp.le (Hp.le_trans hl4 (Hp.le_trans hD hl8))) hs hv (ht.le (Hp.le_trans hle4 (Hp.le_trans hD hl8))) hr11.il (by omega) hin hsm fun x h' hl hx=>hx) fun r12 D2 h9 hl9 ho9 hr12=>?_
   refine ho9.app (x:=r12) zcf rfl (by omega) (by omega) hr12 fun w h10 ho10=>hK2 m _ _ (by omega) ⟨w,D2,_,?_,Hp.le_trans hD (Hp.le_trans hl8 hl9),ho10,by omega,?_⟩
   · rw [w64 (by omega)]
   · rw [←hps]
     conv=>rhs; unfold planN
     rw [hg,List.append_assoc]; rfl
 · have:n=0:=by simp only at h7; omega
   subst this
   refine hk _ _ (Hp.le_trans hle4 hle6) (.inr (.inr ⟨hv,hleft,rfl,rfl,?_⟩))
   have:ps=planS S:=by rw [←hps]; simp [planN]
   rw [←this]
   exact ho.lr zcf
theorem zn3 {p q:TPlan} {ps qs:List PStep} (hp:LR stc 4 STP h p.steps ps) (hq:LR stc 4 STP h q.steps qs) (cp:p.checks=nilS) (cq:q.checks=nilS) (hlen:ps.length≤1000) (hus:∀x∈ps,x.2.2.1.length≤1000) (H:∀h',h.le h'→Kb (decide (ps=qs)) h'):callP (F.zij p q) Kb h:=by
 refine za1 (fun b h'=>(b=true↔ps=qs)) (fun K' hk=>?_) fun b h' hl hb=>by
  have:b=decide (ps=qs):=by rw [Bool.eq_iff_iff,hb,decide_eq_true_iff]
  rw [this]; exact H h' hl
 unfold F.zij
 have lp:=hp.len zcf
 have lq:=hq.len zcf
 refine za3 (fun _ h'=>h.le h'∧ps.length=qs.length) ?_ ?_
 · rintro _ h1 ⟨hl1,hll⟩
   refine zd0 (n:=ps.length) (by omega) (fun i h'=>h.le h'∧∀j (hj:j<ps.length),j<i→ps[j]?=qs[j]?) ⟨hl1,fun j _ hj=>by omega⟩ ?_
   rintro i h2 hi ⟨hl2,hno⟩ k hk2
   refine za0 (fun h3=>?_) (fun h3=>?_)
   · have hi':i<ps.length:=by simp only at h3; omega
     have hq':i<qs.length:=by omega
     refine za3 (fun _ h'=>h.le h'∧ps[i]?=qs[i]?) (fun _ h' hh=>hk2 _ hi' ⟨hh.1,fun j hj hji=>?_⟩) ?_
     · rcases Nat.lt_or_ge j i with h4 | h4
       · exact hno j hj h4
       · have:j=i:=by omega
         subst this; exact hh.2
     refine (hp.le zcf hl2).get zcf i rfl hi' fun a x hxx hcx=>⟨_,hcx 0 _ rfl,_,hcx 1 _ rfl,_,hcx 2 _ rfl,_,hcx 3 _ rfl,?_⟩
     refine (hq.le zcf hl2).get zcf i rfl hq' fun a y hyy hcy=>⟨_,hcy 0 _ rfl,_,hcy 1 _ rfl,_,hcy 2 _ rfl,_,hcy 3 _ rfl,?_⟩
     obtain ⟨x1,x2,x3,x4⟩:=hxx
     obtain ⟨y1,y2,y3,y4⟩:=hyy
     have no:∀h',h.le h'→ps[i]≠qs[i]→K' false h':=fun h' hl hn=>hk _ _ hl ⟨fun hh=>(by cases hh),fun hh=>by subst hh; exact absurd rfl hn⟩
     refine zb7 (fun h4=>no _ hl2 fun hh=>h4 (by rw [x1,y1,hh])) (fun h4=>?_)
     refine zb7 (fun h5=>no _ hl2 fun hh=>h5 (by rw [x2,y2,hh])) (fun h5=>?_)
     refine zb7 (fun h6=>no _ hl2 fun hh=>h6 (by rw [x4,y4,hh])) (fun h6=>?_)
     refine zlw x3 y3 (by have:=hus _ (List.getElem_mem hi'); omega) fun h7 hl7=>?_
     refine za7 (fun h8=>no _ (Hp.le_trans hl2 hl7) fun hh=>by rw [hh] at h8; simp at h8) (fun h8=>⟨Hp.le_trans hl2 hl7,?_⟩)
     rw [List.getElem?_eq_getElem hi',List.getElem?_eq_getElem hq']
     have h8:ps[i].2.2.1=qs[i].2.2.1:=by simpa using h8
     congr 1
     exact Prod.ext (by omega) (Prod.ext (by show ps[i].2.1=qs[i].2.1; omega) (Prod.ext h8 (by show ps[i].2.2.2=qs[i].2.2.2; omega)))
   · refine hk _ _ hl2 ⟨fun _=>?_,fun _=>rfl⟩
     refine List.ext_getElem? fun j=>?_
     rcases Nat.lt_or_ge j ps.length with h4 | h4
     · exact hno j h4 (by simp only at h3; omega)
     · rw [List.getElem?_eq_none h4,List.getElem?_eq_none (by omega)]
 · refine zb7 (fun h1=>hk _ _ (Hp.le_refl _) ⟨fun hh=>(by cases hh),fun hh=>by subst hh; omega⟩) (fun h1=>?_)
   rw [cp,cq]
   refine zlw (xs:=[]) (ys:=[]) IL.nil IL.nil (by simp) fun h2 hl2=>zal rfl ⟨hl2,by omega⟩
end
end Den
end
