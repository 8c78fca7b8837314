/-
  Part 5 of the tools and contracts from which the statement is proved.
-/
import Derived.Test.YtijmjfcnjfnpgaaGreatDoorPartp4
import Derived.Lib.Bytealg
import Derived.Test.YtijmjfcnjfnpgaaGreatDoorProg
import Derived.Laws.Externs
import Derived.RangeFuncBox
import Derived.RangeFuncLeaves
import Derived.Shelf.Abstract
import Derived.WalkKit
import Derived.OwnWalkIn
import Derived.TacticsInMore
import Derived.LoopNIn
import Derived.LoopIn
import Derived.Lib.Builder
import Derived.Lib.UnsafeStr
import Derived.ProofKit
import Derived.Shelf.GgSortFunc.InsertionK
import Derived.Shelf.SlSortCmp.NoneTotal
import Derived.Shelf.SlGeneric
import Derived.Shelf.Lays
import Derived.Shelf.SlLaysF0
import Derived.Shelf.Sort.Plain
import Derived.Shelf.Slices.In.SortNone
set_option linter.all false
open Go.IntKind
section
namespace Den
open Go Iv Lx
def its(S:PSk):List (List Int):=(Qu S).map λc=>Wv c (Xl S)
theorem zg0{S:PSk}:(its S).length=(Qu S).length:=by simp[its]
theorem Z3s(k:Int):eqK k<=2:=by
 unfold eqK shK
 split
 . have:∀i:Nat,(Z6i.getD i (0,0,0,0,false)).2.2.2.1<=2:=by
    intro i
    rcases Nat.lt_or_ge i 17 with h | h
    . have:∀i:Fin 17,(Z6i.getD i (0,0,0,0,false)).2.2.2.1<=2:=by decide
      exact this ⟨i,h⟩
    . rw[List.getD_eq_getElem?_getD,List.getElem?_eq_none (by exact h)];decide
   exact this _
 . decide
theorem Z7n{L:List PCon}{l:List Int}{i:Int}:wtL L (l++[i])=wtL L l+eqK (L.getD i.toNat dC).kind:=by simp[wtL]
theorem Z7m{L:List PCon}:∀l:List Int,wtL L l<=2*l.length
 | []=>by simp[wtL]
 | a :: r=>by
   have h1:=Z7m (L:=L) r
   have h2:=Z3s (L.getD a.toNat dC).kind
   unfold wtL at h1 |-
   simp only[List.map_cons,List.sum_cons,List.length_cons]
   omega
theorem Z94{its:List (List Int)}{item:Int}{R:List Int}:(z9y its item R).length<=its.length:=zi6 _ _ _ _
theorem Z95{its:List (List Int)}{item:Int}{R:List Int}{j:Int}(h:j∈z9y its item R):∃k:Nat,k<its.length/\j=k/\zfe (its.getD k []) item R:=zoy.1 h
section
variable {h : Hp} {s : TSketch} {S : PSk} {p : Addr} {item : Int} {R : List Int} {rs : Sl} {Kb : Bool → Hp → Prop} {Ki : Int → Hp → Prop} {Ks : Sl → Hp → Prop}
theorem Z7v{n m:Nat}{D:Hp}{K:Sl->Hp->Prop}(hn:n<=1000)(hm:m<=1000)(H:∀y h',OI D h' y (ziw n m)->K y h'){y:Sl}{h1:Hp}(ho:OI D h1 y ((List.range n).map λi:Nat=>(i:Int))) :
 (zr (S:=Sl×Int×Unit) (λs8 k9 h3=>
 (ifP (decide (s8.2.1<(m:Int)))
 (Y6 1 8 [.int .i64 0] s8.1 1 [.int .i64 (i64.wrap ((-1)-s8.2.1))] (λw10 h4=>
 (k9 (w10,(i64.wrap (s8.2.1+1)),()) h4)) h3)
 (K s8.1 h3)))
 (y,0,()) h1):=by
  refine Yq (n:=m) (by omega) (λi y h'=>OI D h' y ((List.range n).map (λi:Nat=>(i:Int))++(List.range i).map λi:Nat=>-1-(i:Int))) (by simpa using ho) ?_
  intro i z h2 hi ho2 k hk2
  refine ze (λh3=>?_) (λh3=>?_)
  . have hi':i<m:=by simp only at h3;omega
    simp only
    rw[show i64.wrap (-1-(i:Int))=-1-(i:Int) from w64 (by omega)]
    refine ho2.app (by simp;omega) λw h4 ho4=>hk2 _ _ hi' ?_
    rw[List.range_succ,List.map_append,<-List.append_assoc]
    exact ho4
  . have:i=m:=by simp only at h3;omega
    subst this
    exact H _ _ ho2
theorem zef(hp:PR h p S)(hs:sSk S)(H:∀y h',h.le h'->OI h h' y (ziw S.pts.length S.cir.length)->Ks y h'):zc (F.y_henneberg_peeler_all (some p)) Ks h:=by
 refine zd (λy h'=>OI h h' y (ziw S.pts.length S.cir.length)) (λK' hk=>?_) λb h' hl hb=>H b h' hl hb
 unfold F.y_henneberg_peeler_all
 obtain⟨s,lS,itS,ceS,hx,hc,_⟩:=hp
 have l1:=hx.1.len z3g
 have l2:=hx.2.1.len z69
 have:=hs.1
 have:=hs.2.1
 simp only[Wl,Nat.zero_add]
 refine⟨_,hc 0 _ rfl,?_⟩
 simp only
 rw[l1]
 refine Yq (n:=S.pts.length) (by omega) (λi y h'=>OI h h' y ((List.range i).map λi:Nat=>(i:Int))) OI.nil ?_
 intro i y h2 hi ho k hk2
 refine ze (λh3=>?_) (λh3=>?_)
 . have hi':i<S.pts.length:=by simp only at h3;omega
   refine ho.app (by simp;omega) λw h4 ho4=>hk2 _ _ hi' ?_
   rw[List.range_succ,List.map_append]
   exact ho4
 have:i=S.pts.length:=by simp only at h3;omega
 subst this
 refine⟨_,Hp.cell_le ho.dle (hc 1 _ rfl),?_⟩
 simp only
 rw[l2]
 exact Z7v (n:=S.pts.length) (m:=S.cir.length) (by omega) (by omega) (λz h2 ho2=>hk _ _ ho2.dle ho2) ho
theorem zi7(hp:PR h p S)(hs:sSk S)(hv:VS S)(hr:IL h rs R)(hR:R.length<=100000)(H:∀y h',h.le h'->OI h h' y (z9y (its S) item R)->Ks y h'):zc (F.y_henneberg_peeler_remaining (some p) item rs) Ks h:=by
 refine zd (λy h'=>OI h h' y (z9y (its S) item R)) (λK' hk=>?_) λb h' hl hb=>H b h' hl hb
 unfold F.y_henneberg_peeler_remaining
 obtain⟨s,lS,itS,ceS,hx,hc,hL,hI,hC⟩:=hp
 have hal:=zge hs
 have hok:=zcb hv hs
 have hIl:=hI.len z8b
 rw[List.length_map]at hIl
 refine Wo λp1 h1 hl1 c1=>?_
 refine⟨_,Hp.cell_le hl1 (hc 7 _ rfl),?_⟩
 refine Yq (n:=(Qu S).length) (by omega) (λi y h'=>OI h1 h' y (zei (its S) item R i)) OI.nil ?_
 intro i y h2 hi ho k hk2
 have hle:=Hp.le_trans hl1 ho.dle
 refine ze (λh3=>?_) (λh3=>?_)
 . have hi':i<(Qu S).length:=by simp only at h3;omega
   refine zk (λs h'=>OI h1 h' s.1 (zei (its S) item R (i+1))) (λs h' hs=>hk2 _ _ hi' hs) ?_
   refine(hI.le z8b hle).get z8b i rfl (by simpa using hi') λa x hxx hcx=>?_
   have e0:=hcx 0 _ rfl
   rw[Zq]at e0
   refine⟨_,e0,?_⟩
   rw[List.getElem_map]at hxx
   have hlen:=zs9 (cs:=Xl S) (hok _ (List.getElem_mem hi')).2
   have hxx:IL h2 x (Wv (Qu S)[i] (Xl S)):=hxx
   have hg:(its S).getD i []=Wv (Qu S)[i] (Xl S):=by
    rw[Q4 (by rw[zg0];exact hi')]
    simp[its]
   have hstep:zei (its S) item R (i+1)=zei (its S) item R i++(if zfe (Wv (Qu S)[i] (Xl S)) item R then [(i:Int)]else []):=by
    conv=>lhs;unfold zei
    rw[hg]
   have hrl:=zi6 (its S) item R i
   refine Wt hxx (by omega) λh4 hl4=>?_
   have ho4:=ho.le hl4
   refine ze (λh5=>?_) (λh5=>?_)
   . refine zd (λb h'=>b=true↔∃x∈Wv (Qu S)[i] (Xl S),x∈R) (λK2 hk3=>?_) λb h6 hl6 hb=>?_
     . unfold F.Z4
       refine zd (λr h'=>Fnd (λx=>x∈R) (Wv (Qu S)[i] (Xl S)) r) (λK4 hk4=>?_) λr h' hl hr=>hk3 _ _ hl (by rw[decide_eq_true_iff];exact hr.iff)
       unfold F.ye
       refine zct (hxx.le hl4) (by omega) (λx _ h7 hl7 K5 hK5=>?_) λr h' hl hr=>hk4 _ _ hl hr
       refine zd (λb h'=>b=decide (x∈R)) (λK6 hk6=>?_) λb h8 hl8 hb=>hK5 _ _ hl8 (by rw[hb,decide_eq_true_iff])
       unfold F.y_henneberg_peeler_remaining_1
       have l7:=Hp.le_trans ho4.dle hl7
       refine⟨_,Hp.cell_le l7 c1,?_⟩
       exact Wt (hr.le (Hp.le_trans hl1 l7)) (by omega) λh8 hl8=>hk6 _ _ hl8 rfl
     . have ho6:=ho4.le hl6
       refine zp (λh7=>?_) (λh7=>?_)
       . have hkp:zfe (Wv (Qu S)[i] (Xl S)) item R:=⟨h5,λx hx hxR=>by rw[hb.2 ⟨x,hx,hxR⟩]at h7;cases h7⟩
         refine ho6.app (by omega) λz h8 ho8=>?_
         show OI _ _ _ _
         rw[hstep,if_pos hkp];exact ho8
       . have hkp:¬zfe (Wv (Qu S)[i] (Xl S)) item R:=λhh=>by
          obtain⟨x,hx,hxR⟩:=hb.1 (by simpa using h7)
          exact hh.2 x hx hxR
         show OI _ _ _ _
         rw[hstep,if_neg hkp,List.append_nil];exact ho6
   . show OI _ _ _ _
     rw[hstep,if_neg (λhh=>h5 hh.1),List.append_nil];exact ho4
 . have:i=(Qu S).length:=by simp only at h3;omega
   subst this
   refine hk _ _ hle ?_
   have ho:=ho.base hl1
   unfold z9y
   rw[zg0];exact ho
theorem z9d{k:Nat}(hp:PR h p S)(hs:sSk S)(hv:VS S)(ht:GT h)(hk:k<(Qu S).length)(H:Ki ((eqK ((Qu S).getD k dC).kind:Nat):Int) h):zc (F.y_henneberg_peeler_equations (some p) (k:Int)) Ki h:=by
 refine Zk _ (λK' hkk=>?_) H
 unfold F.y_henneberg_peeler_equations
 obtain⟨s,lS,itS,ceS,hx,hc,hL,hI,hC⟩:=hp
 refine⟨_,hc 6 _ rfl,?_⟩
 refine hL.get Yy k rfl hk λa x hxx hcx=>⟨_,hcx 0 _ rfl,?_⟩
 rw[hxx.1]
 have:=(zcb hv hs _ (List.getElem_mem hk)).1.1
 rw[Q4 hk]at hkk
 exact zca ht.2.2 (λ_ _ ln ps=>hkk) (λhn=>absurd this hn)
theorem zfp{l:Sl}{xs:List Int}(hp:PR h p S)(hs:sSk S)(hv:VS S)(ht:GT h)(hl:IL h l xs)(hlen:xs.length<=100000)(hin:∀i∈xs,∃k:Nat,k<(Qu S).length/\i=k)(H:∀h',h.le h'->Ki ((wtL (Qu S) xs:Nat):Int) h'):zc (F.y_henneberg_peeler_weight (some p) l) Ki h:=by
 refine zd (λb h'=>b=((wtL (Qu S) xs:Nat):Int)) (λK' hk=>?_) λb h' hl hb=>by subst hb;exact H h' hl
 unfold F.y_henneberg_peeler_weight
 have hll:=hl.len
 refine Yq (n:=xs.length) (by omega) (λi a h'=>h.le h'/\a=((wtL (Qu S) (xs.take i):Nat):Int)) ⟨Hp.le_refl _,by simp[wtL]⟩ ?_
 rintro i a h2 hi ⟨hl2,ha⟩ k hk2
 refine ze (λh3=>?_) (λh3=>?_)
 . have hi':i<xs.length:=by simp only at h3;omega
   refine(hl.le hl2).get i rfl hi' ?_
   obtain⟨q,hq1,hq2⟩:=hin _ (List.getElem_mem hi')
   rw[hq2]
   have hw:=Z7m (L:=Qu S) (xs.take i)
   rw[List.length_take]at hw
   have hw2:=Z3s ((Qu S).getD q dC).kind
   refine z9d (hp.le hl2) hs hv (ht.le hl2) hq1 (hk2 _ _ hi' ⟨hl2,?_⟩)
   rw[<-List.take_append_getElem hi',Z7n,hq2]
   simp only
   rw[ha,w64 (by omega)]
   rfl
 . have:i=xs.length:=by simp only at h3;omega
   subst this
   rw[List.take_length]at ha
   rw[ha]
   exact hk _ _ hl2 rfl
theorem zsn{k:Nat}{t:Int}(hp:PR h p S)(hs:sSk S)(hv:VS S)(hk:k<(Qu S).length)(H:∀h',h.le h'->Ki (zba ((Qu S).getD k dC) (Xl S) t) h'):zc (F.y_henneberg_peeler_kind (some p) (k:Int) t) Ki h:=by
 refine zd (λb h'=>b=zba ((Qu S).getD k dC) (Xl S) t) (λK' hkk=>?_) λb h' hl hb=>by subst hb;exact H h' hl
 unfold F.y_henneberg_peeler_kind
 obtain⟨s,lS,itS,ceS,hx,hc,hL,hI,hC⟩:=hp
 refine⟨_,hc 6 _ rfl,?_⟩
 refine hL.get Yy k rfl hk λa x hxx hcx=>⟨_,hcx 0 _ rfl,_,hcx 1 _ rfl,_,hcx 2 _ rfl,_,hcx 3 _ rfl,_,hcx 4 _ rfl,?_⟩
 refine⟨_,hc 8 _ rfl,?_⟩
 have:=zcb hv hs _ (List.getElem_mem hk)
 rw[Q4 hk]at hkk
 exact zvj (x:=x) hxx hC this.2 this.1.cirOk this.1.lenC λh' hl=>hkk _ _ hl rfl
def smI(item:Int):Prop:=-1000000<=item/\item<=1000000
theorem zi8(hp:PR h p S)(hs:sSk S)(hv:VS S)(ht:GT h)(hr:IL h rs R)(hR:R.length<=100000)(hi:smI item)(H:∀b h',h.le h'->(b=true↔ziy (Qu S) (Xl S) R item)->Kb b h'):zc (F.y_henneberg_peeler_removable (some p) item rs) Kb h:=by
 refine zd (λb h'=>b=true↔ziy (Qu S) (Xl S) R item) (λK' hk=>?_) λb h' hl hb=>H b h' hl hb
 unfold F.y_henneberg_peeler_removable
 have no:∀h',h.le h'->¬ziy (Qu S) (Xl S) R item->K' false h':=λh' hl hn=>hk _ _ hl ⟨λhh=>(by cases hh),λhh=>absurd hh hn⟩
 have hits:its S=(Qu S).map λc=>Wv c (Xl S):=rfl
 unfold ziy at no hk
 rw[<-hits]at no hk
 refine Wo λp1 h1 hl1 c1=>Wo λp2 h2 hl2 c2=>?_
 have hle2:=Hp.le_trans hl1 hl2
 refine⟨_,c2,?_⟩
 refine Wt (hr.le hle2) (by omega) λh3 hl3=>?_
 have hle3:=Hp.le_trans hle2 hl3
 refine ze (λh4=>no _ hle3 λhh=>hh.1 h4) (λh4=>?_)
 have d1:∀{h'},h3.le h'->h'.cell p1=some (.pointer (some p)):=λhl=>Hp.cell_le (Hp.le_trans hl2 (Hp.le_trans hl3 hl)) c1
 have d2:∀{h'},h3.le h'->h'.cell p2=some (.int .i64 item):=λhl=>Hp.cell_le (Hp.le_trans hl3 hl) c2
 refine⟨_,d1 (Hp.le_refl _),_,d2 (Hp.le_refl _),?_⟩
 refine zi7 (hp.le hle3) hs hv (hr.le hle3) hR λr7 h5 hl5 ho5=>?_
 have hle5:=Hp.le_trans hle3 hl5
 have hrl:(z9y (its S) item R).length<=(its S).length:=Z94
 rw[zg0]at hrl
 have hal:=zge hs
 have hin:∀i∈z9y (its S) item R,∃k:Nat,k<(Qu S).length/\i=k:=λi hi=>by
  obtain⟨k,h1,h2,_⟩:=Z95 hi
  rw[zg0]at h1
  exact⟨k,h1,h2⟩
 refine⟨_,d2 hl5,?_⟩
 obtain⟨s,lS,itS,ceS,hpp⟩:=hp
 have hp:PR h p S:=⟨s,lS,itS,ceS,hpp⟩
 obtain⟨hx,hc,hL,hI,hC⟩:=hpp
 refine ze (λh6=>?_) (λh6=>?_)
 . have h6:item<0:=h6
   refine⟨_,d1 hl5,?_⟩
   refine zfp (hp.le hle5) hs hv (ht.le hle5) ho5.il (by omega) hin λh7 hl7=>?_
   have hle7:=Hp.le_trans hle5 hl7
   have hm:z9p item=1:=by unfold z9p;rw[if_pos h6]
   refine ze (λh8=>?_) (λh8=>no _ hle7 λhh=>by have:=hh.2.1;omega)
   refine zd (λb h'=>b=true↔∃i∈z9y (its S) item R,¬z7v ((Qu S).getD i.toNat dC) (Xl S) item) (λK2 hk3=>?_) λb h9 hl9 hb=>hk _ _ (Hp.le_trans hle7 hl9) ?_
   . unfold F.Z5
     refine zd (λr h'=>Fnd (λi=>¬z7v ((Qu S).getD i.toNat dC) (Xl S) item) (z9y (its S) item R) r) (λK4 hk4=>?_) λr h' hl hr=>hk3 _ _ hl (by rw[decide_eq_true_iff];exact hr.iff)
     unfold F.yf
     refine zct (ho5.il.le hl7) (by omega) (λi hi2 h9 hl9 K5 hK5=>?_) λr h' hl hr=>hk4 _ _ hl hr
     refine zd (λb h'=>b=true↔¬z7v ((Qu S).getD i.toNat dC) (Xl S) item) (λK6 hk6=>?_) λb h8 hl8 hb=>hK5 _ _ hl8 hb
     unfold F.y_henneberg_peeler_removable_1
     obtain⟨k,hk1,rfl⟩:=hin i hi2
     have hle9:=Hp.le_trans hle7 hl9
     have l39:=Hp.le_trans hl5 (Hp.le_trans hl7 hl9)
     refine⟨_,d1 l39,_,Hp.cell_le hle9 (hc 6 _ rfl),?_⟩
     refine(hL.le Yy hle9).get Yy k rfl hk1 λa x hxx hcx=>⟨_,hcx 0 _ rfl,_,hcx 1 _ rfl,_,hcx 2 _ rfl,_,hcx 3 _ rfl,_,hcx 4 _ rfl,?_⟩
     refine⟨_,d1 l39,_,Hp.cell_le hle9 (hc 8 _ rfl),_,d2 l39,?_⟩
     have hok:=zcb hv hs _ (List.getElem_mem hk1)
     have e1:i64.wrap (-1-item)=-1-item:=by unfold smI at hi;exact w64 (by omega)
     simp only
     rw[e1]
     refine zqc (x:=x) hxx (hC.le hle9) hok.2 hok.1.cirOk hok.1.lenC λb h' hl hb=>hk6 _ _ hl ?_
     rw[show((k:Nat):Int).toNat=k from rfl,Q4 hk1]
     unfold z7v
     rw[if_pos h6,<-hb]
     cases b<;>simp
   . rw[Bool.not_eq_true',<-Bool.not_eq_true,hb]
     constructor
     . intro hh
       exact⟨h4,by omega,λi hi=>Classical.byContradiction λhn=>hh ⟨i,hi,hn⟩⟩
     . rintro⟨_,_,h10⟩ ⟨i,hi,hn⟩
       exact hn (h10 i hi)
 . have h6:¬item<0:=h6
   refine⟨_,d1 hl5,?_⟩
   refine zfp (hp.le hle5) hs hv (ht.le hle5) ho5.il (by omega) hin λh7 hl7=>?_
   have hle7:=Hp.le_trans hle5 hl7
   have hm:z9p item=2:=by unfold z9p;rw[if_neg h6]
   refine ze (λh8=>no _ hle7 λhh=>by have:=hh.2.1;omega) (λh8=>?_)
   have hr7:=ho5.il.le hl7
   have hr7l:=hr7.len
   refine Yr (n:=(z9y (its S) item R).length) (by omega) (λi h'=>h7.le h'/\∀j (hj:j<(z9y (its S) item R).length),j<i->z7v ((Qu S).getD (z9y (its S) item R)[j].toNat dC) (Xl S) item) ⟨Hp.le_refl _,λj _ hj=>by omega⟩ ?_
   rintro i h9 hi9 ⟨hl9,hno⟩ kk hk2
   have hle9:=Hp.le_trans hle7 hl9
   have l39:=Hp.le_trans hl5 (Hp.le_trans hl7 hl9)
   refine ze (λh10=>?_) (λh10=>?_)
   . have hi':i<(z9y (its S) item R).length:=by simp only at h10;omega
     refine(hr7.le hl9).get i rfl hi' ?_
     obtain⟨k,hk1,hk2e⟩:=hin _ (List.getElem_mem hi')
     rw[hk2e]
     refine⟨_,d1 l39,_,d2 l39,?_⟩
     refine zsn (hp.le hle9) hs hv hk1 λh11 hl11=>?_
     have hle11:=Hp.le_trans hle9 hl11
     have l311:=Hp.le_trans l39 hl11
     obtain⟨kd,hkd⟩:∃kd,kd=zba ((Qu S).getD k dC) (Xl S) item:=⟨_,rfl⟩
     have hsuit:z7v ((Qu S).getD (z9y (its S) item R)[i].toNat dC) (Xl S) item↔(if eqK ((Qu S).getD k dC).kind=2 then kd=3 else kd=1\/kd=2):=by
      rw[hk2e,hkd]
      unfold z7v
      rw[if_neg h6]
      rfl
     rw[<-hkd]
     refine zk (λs h'=>h'=h11/\s.1=decide (kd=1\/kd=2)) ?_ ?_
     . rintro⟨b,_⟩ h11 ⟨rfl,hb⟩
       simp only at hb
       subst hb
       refine zk (λs h'=>h'=h11/\(s.1=true↔z7v ((Qu S).getD (z9y (its S) item R)[i].toNat dC) (Xl S) item)) ?_ ?_
       . rintro⟨b,_⟩ h11 ⟨rfl,hb⟩
         simp only at hb
         refine zp (λh12=>no _ hle11 λhh=>?_) (λh12=>hk2 _ hi' ⟨Hp.le_trans hl9 hl11,?_⟩)
         . rw[hb.2 (hh.2.2 _ (List.getElem_mem hi'))]at h12;cases h12
         . exact Zik (P:=λi:Int=>z7v ((Qu S).getD i.toNat dC) (Xl S) item) hno hi' (hb.1 (by simpa using h12))
       . refine⟨_,d1 l311,?_⟩
         refine z9d (hp.le hle11) hs hv (ht.le hle11) hk1 ?_
         refine Za (λh12=>⟨rfl,?_⟩) (λh12=>⟨rfl,?_⟩)
         . rw[hsuit,if_pos (by omega)]
           simp
         . rw[hsuit,if_neg (by omega)]
           simp
     . refine Za (λh12=>⟨rfl,?_⟩) (λh12=>⟨rfl,?_⟩)
       . rw[h12];rfl
       . by_cases h13:kd=2
         . rw[h13];rfl
         . rw[decide_eq_false (by omega)];simpa using h13
   . refine hk _ _ hle9 ⟨λ_=>⟨h4,by omega,?_⟩,λ_=>rfl⟩
     exact Z75 (P:=λi:Int=>z7v ((Qu S).getD i.toNat dC) (Xl S) item) hno (by simp only at h10;omega)
end
end Den
end

section
namespace Den
open Go Iv Lx
section
variable {h : Hp} {s : TSketch} {S : PSk} {x : TConstraint} {c : PCon} {cs : List Int} {ce : Sl} {item : Int} {R : List Int} {rs : Sl} {Kb : Bool → Hp → Prop} {Ki : Int → Hp → Prop} {Ks : Sl → Hp → Prop}
end
theorem z7s{can:List Int->Int->Bool}{pref:List Int}(hc:∀R i,can R i=true->i∉R):∀{f:Nat} {R:List Int},(Ve pref R).length<=f->pref.find? (can R)=none->zbc can pref f R=R
 | 0,R,_,_=>rfl
 | f+1,R,_,h=>by unfold zbc;rw[h]
theorem zar{can:List Int->Int->Bool}{pref:List Int}(hc:∀R i,can R i=true->i∉R){f:Nat}{R:List Int}{i:Int}(hf:(Ve pref R).length<=f)(h:pref.find? (can R)=some i) :
 ∃g,f=g+1/\zbc can pref f R=zbc can pref g (R++[i])/\(Ve pref (R++[i])).length<=g:=by
 have h1:=List.find?_some h
 have h2:=List.mem_of_find?_eq_some h
 have h3:=zsa h2 (hc _ _ h1)
 obtain⟨g,rfl⟩:∃g,f=g+1:=⟨f-1,by omega⟩
 refine⟨g,rfl,?_,by omega⟩
 conv=>lhs;unfold zbc
 rw[h]
theorem zyb{L:List PCon}{cs:List Int}:∀R i,zdt L cs R i=true->i∉R:=λR i h=>(of_decide_eq_true h).1
def z90(S:PSk)(pref:List Int):List Int:=Zav (zdt (Qu S) (Xl S)) pref
theorem zw9{can:Int->Bool}{l:List Int}{i:Nat}(hi:i<l.length)(hno:∀j (hj:j<l.length),j<i->can l[j]=false)(h:can l[i]=true):l.find? can=some l[i]:=by
 rw[List.find?_eq_some_iff_append]
 refine⟨h,l.take i,l.drop (i+1),?_,λa ha=>?_⟩
 . rw[List.getElem_cons_drop,List.take_append_drop]
 . obtain⟨j,hj,rfl⟩:=List.mem_take_iff_getElem.1 ha
   rw[hno j (by omega) (by omega)];rfl
section
variable {h : Hp} {s : TSketch} {S : PSk} {l : Sl} {pref : List Int} {K : (Sl × Sl) → Hp → Prop}
end
end Den
end

section
namespace Den
open Go Iv Lx
theorem Own.clr{h0 h:Hp}{x:Sl}{cs:List Value}{n:Nat}{K:Hp->Prop}(ho:Own h0 h 1 x cs)(hn:n<=cs.length)(H:∀h',Own h0 h' 1 (x.cut 0 n 1) (cs.take n)->K h'):zl0 (x.cut n x.len 1) [.int .i64 0] K h:=by
 have hlen:=ho.2.1
 have hcap:=ho.2.2.1
 refine⟨λh1=>H h (ho.pre (by omega)),λh1=>?_⟩
 have hl:(x.cut n x.len 1).len=x.len-n:=rfl
 have hlt:n<x.len:=by omega
 have ho':=ho
 obtain⟨g1,g2,g3,g4⟩:=ho
 cases ha:x.a with
 | none=>rw[ha]at g4;simp only at g4;omega
 | some a=>
   rw[ha]at g4
   obtain⟨k1,k2,k3,b,k4,k5,k6,k7⟩:=g4
   have hca:(x.cut n x.len 1).a=Option.some (a.add (n*1)):=by
    show(if x.cap=n then x.a else x.a.map (·.add (n*1)))=_
    rw[if_neg (by omega),ha];rfl
   rw[hca]
   simp only[stO]
   rw[Zq]
   have hrl:(Z6 (x.cut n x.len 1).len [Value.int .i64 0]).length=x.len-n:=by rw[z2v,hl];simp
   refine⟨b,by rw[Yi];exact k4,V1 k2 _,k5,?_,?_,?_⟩
   . rw[Xr,hrl];omega
   . unfold Z6
     rw[List.all_flatten,List.all_eq_true]
     intro l hl
     rw[(List.mem_replicate.1 hl).2];rfl
   . rw[Yi,Xr,k1,Nat.zero_add,Nat.mul_one]
     refine H _ ⟨?_,?_,?_,?_⟩
     . intro kk bk hkk
       rw[Hp.ins_ne (λhh=>by subst hh;rw[k3]at hkk;cases hkk)]
       exact g1 kk bk hkk
     . show(n-0)*1=_
       rw[List.length_take];omega
     . show n-0<=x.cap-0;omega
     . rw[zgr,ha]
       refine⟨k1,k2,k3,_,Hp.ins_same _ _ _,k5,?_,?_⟩
       . show(z8 b.cells n _).length=(x.cap-0)*1
         rw[Yb (by omega)]
         exact k6
       . have e:(cs.take n).length=n:=by rw[List.length_take];omega
         rw[e]
         show(z8 b.cells n _).take n=_
         unfold z8
         rw[List.append_assoc,List.take_append_of_le_length (by rw[List.length_take];omega),List.take_take,Nat.min_self]
         have:=congrArg (List.take n) k7
         rw[List.take_take,Nat.min_eq_left (by omega)]at this
         exact this
def zhe(xs R:List Int)(j:Nat):List Int:=(xs.take j).filter λx=>decide (x∉R)
theorem ze7{xs R:List Int}{j:Nat}(hj:j<xs.length):zhe xs R (j+1)=zhe xs R j++(if xs[j]∈R then []else [xs[j]]):=by
 unfold zhe
 rw[<-List.take_append_getElem hj,List.filter_append]
 congr 1
 by_cases hm:xs[j]∈R<;>simp[List.filter,hm]
section
variable {h D : Hp} {S : PSk} {p p1 p2 : Addr} {rs l : Sl} {xs R : List Int} {Kb : Bool → Hp → Prop} {Ki : Int → Hp → Prop} {Ks : Sl → Hp → Prop} {K : (Sl × Sl) → Hp → Prop}
theorem zvx{G:Int->(Bool->Hp->Prop)->Hp->Prop}{r:Int}(ho:OI D h l xs)(hlen:xs.length<=1000)
 (hG:∀x h',D.le h'->∀K:Bool->Hp->Prop,(∀h'',h'.le h''->K (decide (x∈R)) h'')->zc (G x) K h') (hr:Fnd (λx=>x∈R) xs r) (H:∀y h',OI D h' y (xs.filter λx=>decide (x∉R))->Ks y h') :
 (ifP (r==(-1))
 (Ks l h)
 (zr (S:=Int×Int×Unit) (λs2 k3 h2=>
 (ifP (decide (s2.2.1<(l.len:Int)))
 (Zb (S:=Int×Unit) (λs4 h3=>
 (k3 (s4.1,(i64.wrap (s2.2.1+1)),()) h3))
 (λk5=>
 (zg l s2.2.1 1 λa6=>
 (ldL (.int .i64) a6 (λx7=>
 (zc (G x7) (λr8 h4=>
 (ifP (!r8)
 (zg l s2.1 1 λa9=>
 (stP a9 [.int .i64 x7] (λh5=>
 (k5 ((i64.wrap (s2.1+1)),()) h5)) h4))
 (k5 (s2.1,()) h4))) h2)) h2))))
 (slP l s2.1 (l.len:Int) 1 λc10=>
 (zl0 c10 [.int .i64 0] (λh6=>
 (slP l 0 s2.1 1 λc11=>
 (Ks c11 h6))) h2))))
 (r,(i64.wrap (r+1)),()) h)):=by
  have hll:=ho.il.len
  have hcap:=ho.2.2.1
  rcases hr with ⟨rfl,hno⟩ | ⟨k,hk,rfl,hk1,hk2⟩
  . refine Z9 rfl (H _ _ ?_)
    have:xs.filter (λx=>decide (x∉R))=xs:=by
     rw[List.filter_eq_self]
     exact λa ha=>decide_eq_true (hno a ha)
    rw[this];exact ho
  . refine zt (by rw[beq_eq_false_iff_ne];omega) ?_
    have hkk:zhe xs R k=xs.take k:=by
     unfold zhe
     rw[List.filter_eq_self]
     intro a ha
     obtain⟨j,hj,rfl⟩:=List.mem_take_iff_getElem.1 ha
     exact decide_eq_true (hk2 j (by omega) (by omega))
    have hks:zhe xs R (k+1)=xs.take k:=by
     rw[ze7 hk,if_pos hk1,List.append_nil,hkk]
    refine y9 (λst h'=>∃(j m:Nat) (ys:List Int),st=((m:Int),(j:Int),())/\k<j/\j<=xs.length/\OI D h' l ys/\ys.length=xs.length/\m=(zhe xs R j).length/\m<=j/\ys.take m=zhe xs R j/\ys.drop j=xs.drop j)
     (λst=>(xs.length-st.2.1).toNat) ⟨k+1,k,xs,by rw[w64 (by omega)];rfl,by omega,by omega,ho,rfl,by rw[hks];simp;omega,by omega,by rw[hks],rfl⟩ ?_
    rintro _ h2 ⟨j,m,ys,rfl,hkj,hj,ho2,hyl,hm,hmj,htk,hdr⟩
    refine ze (λh3=>?_) (λh3=>?_)
    . have hj':j<xs.length:=by simp only at h3;omega
      have hyj:ys[j]'(by omega)=xs[j]:=by
       have:=congrArg (λl:List Int=>l[0]?) hdr
       simp only[List.getElem?_drop,Nat.add_zero]at this
       rw[List.getElem?_eq_getElem (by omega),List.getElem?_eq_getElem hj']at this
       exact Option.some.inj this
      refine zk (λst h'=>∃(m':Nat) (ys':List Int),st.1=(m':Int)/\OI D h' l ys'/\ys'.length=xs.length/\m'=(zhe xs R (j+1)).length/\m'<=j+1/\ys'.take m'=zhe xs R (j+1)/\ys'.drop (j+1)=xs.drop (j+1)) ?_ ?_
      . rintro⟨_,_⟩ h4 ⟨m',ys',rfl,g1,g2,g3,g4,g5,g6⟩
        exact⟨⟨j+1,m',ys',by simp only;rw[w64 (by omega)];rfl,by omega,by omega,g1,g2,g3,g4,g5,g6⟩,by simp only;rw[w64 (by omega)];omega⟩
      . refine ho2.il.get j rfl (by omega) ?_
        have hdr1:ys.drop (j+1)=xs.drop (j+1):=by
         have:=congrArg (List.drop 1) hdr
         rw[List.drop_drop,List.drop_drop]at this
         exact this
        refine hG _ _ ho2.dle _ λh4 hl4=>?_
        have ho4:=ho2.le hl4
        rw[hyj]
        refine zp (λh5=>?_) (λh5=>?_)
        . have hx:xs[j]∉R:=by simpa using h5
          have hs:=ze7 (xs:=xs) (R:=R) hj'
          rw[if_neg hx]at hs
          refine zt8 m ho4 rfl (by omega) rfl (by decide) rfl λh6 ho6=>⟨m+1,ys.set m xs[j],by simp only;rw[w64 (by omega)];rfl,?_,by simpa using hyl,by rw[hs];simp;omega,by omega,?_,?_⟩
          . rw[Nat.mul_one]at ho6
            have e:z8 (ys.map ic) m [Value.int .i64 xs[j]]=(ys.set m xs[j]).map ic:=by
             rw[z3m,List.map_set,List.set_eq_take_append_cons_drop,if_pos (by simp;omega)]
             rfl
            unfold OI
            rw[<-e];exact ho6
          . rw[hs,<-htk,List.take_add_one,List.take_set_of_le (Nat.le_refl _),List.getElem?_set_self (by omega)]
            rfl
          . rw[List.drop_set_of_lt (by omega)];exact hdr1
        . have hx:xs[j]∈R:=by simpa using h5
          have hs:=ze7 (xs:=xs) (R:=R) hj'
          rw[if_pos hx,List.append_nil]at hs
          exact⟨m,ys,rfl,ho4,hyl,by rw[hs];exact hm,by omega,by rw[hs];exact htk,hdr1⟩
    . have:j=xs.length:=by simp only at h3;omega
      subst this
      have hl2:=ho2.il.len
      refine⟨by omega,by simp only;omega,by omega,?_⟩
      have e1:((l.len:Nat):Int).toNat=l.len:=rfl
      have e2:((m:Nat):Int).toNat=m:=rfl
      simp only
      rw[e1,e2]
      refine Own.clr ho2 (n:=m) (by simp;omega) λh6 ho6=>⟨by decide,by omega,by omega,?_⟩
      have e3:(0:Int).toNat=0:=rfl
      rw[e3,e2]
      refine H _ _ ?_
      unfold OI
      have:xs.filter (λx=>decide (x∉R))=ys.take m:=by
       rw[htk]
       unfold zhe
       rw[List.take_length]
      rw[this,List.map_take]
      exact ho6
theorem zhu{x:Int}(hc:h.cell p2=some (Lf.sl.up rs))(hr:IL h rs R)(hlen:R.length<=1000)(H:∀h',h.le h'->Kb (decide (x∈R)) h'):zc (F.y_henneberg_peeler_peel_2 x (some p2)) Kb h:=by
 refine zd (λb h'=>b=decide (x∈R)) (λK' hk=>?_) λb h' hl hb=>by subst hb;exact H h' hl
 unfold F.y_henneberg_peeler_peel_2
 exact⟨_,hc,Wt hr (by omega) λh' hl=>hk _ _ hl rfl⟩
theorem znq(ho:OI D h l xs)(hxl:xs.length<=1000)(hc:D.cell p2=some (Lf.sl.up rs))(hr:IL D rs R)(hlen:R.length<=1000)(H:∀y h',OI D h' y (xs.filter λx=>decide (x∉R))->Ks y h'):qg (F.Z0 l (some p2,())) Ks h:=by
 refine Qe ?_
 unfold F.Z0
 refine zd (λr h'=>Fnd (λx=>x∈R) xs r) (λK2 hk=>?_) λr h1 hl1 hr1=>?_
 . unfold F.y7
   refine zct ho.il (by omega) (λx _ h5 hl5 K5 hK5=>?_) λr h' hl hr=>hk _ _ hl hr
   have hD5:=Hp.le_trans ho.dle hl5
   exact zhu (Hp.cell_le hD5 hc) (hr.le hD5) hlen λh6 hl6=>hK5 _ _ hl6 (by rw[decide_eq_true_iff])
 . exact zvx (G:=λx=>F.y_henneberg_peeler_peel_2 x (some p2,()).1) (ho.le hl1) hxl (λx h' hl' K' hK'=>zhu (Hp.cell_le hl' hc) (hr.le hl') hlen hK') hr1 H
end
end Den
end

section
namespace Den
open Go Iv Lx
theorem zx2{can:List Int->Int->Bool}{pref:List Int}(hcn:∀R i,can R i=true->i∉R):∀(f1 f2:Nat) (Q:List Int),(Ve pref Q).length<=f1->(Ve pref Q).length<=f2->zbc can pref f1 Q=zbc can pref f2 Q:=by
 intro f1
 induction f1 with
 | zero=>
   intro f2 Q h1 h2
   cases hq:pref.find? (can Q)with
   | none=>rw[z7s hcn h1 hq,z7s hcn h2 hq]
   | some z=>
     obtain⟨g,hg,_⟩:=zar hcn h1 hq
     omega
 | succ f1 ih=>
   intro f2 Q h1 h2
   cases hq:pref.find? (can Q)with
   | none=>rw[z7s hcn h1 hq,z7s hcn h2 hq]
   | some z=>
     obtain⟨g,hg,e1,e2⟩:=zar hcn h1 hq
     obtain⟨g',hg',e1',e2'⟩:=zar hcn h2 hq
     rw[e1,e1']
     have:g=f1:=by omega
     subst this
     exact ih g' _ e2 e2'
def W5(S:PSk):List Int:=ziw S.pts.length S.cir.length
theorem zy1{S:PSk}(hs:sSk S):(W5 S).length<=20:=by
 unfold W5
 rw[zxz]
 have:=hs.1
 have:=hs.2.1
 omega
theorem Z7u{S:PSk}(hs:sSk S){x:Int}(hx:x∈W5 S):smI x:=by
 have:=Z48.1 hx
 have:=hs.1
 have:=hs.2.1
 unfold smI;omega
section
variable {h D : Hp} {s : TSketch} {S : PSk} {p p1 p2 : Addr} {rs l : Sl} {xs R : List Int} {Kb : Bool → Hp → Prop} {Ki : Int → Hp → Prop} {Ks : Sl → Hp → Prop} {K : (Sl × Sl) → Hp → Prop}
theorem zsp(hp:PR h p S)(hs:sSk S)(hv:VS S)(ht:GT h)(c1:h.cell p1=some (.pointer (some p)))(c2:h.cell p2=some (Lf.sl.up rs))(hr:IL h rs R)(hR:R.length<=100000)(hl:IL h l xs)(hxl:xs.length<=1000)(hsm:∀x∈xs,smI x)
 (H:∀r h',h.le h'->Fnd (λx=>zdt (Qu S) (Xl S) R x=true) xs r->Ki r h'):zc (F.Z1 l (some p1,some p2,())) Ki h:=by
 refine zd (λr h'=>Fnd (λx=>zdt (Qu S) (Xl S) R x=true) xs r) (λK' hk=>?_) λb h' hl hb=>H b h' hl hb
 unfold F.Z1
 refine zct hl (by omega) (λx hx h5 hl5 K5 hK5=>?_) λr h' hl hr=>hk _ _ hl hr
 refine zd (λb h'=>b=true↔zdt (Qu S) (Xl S) R x=true) (λK6 hk6=>?_) λb h8 hl8 hb=>hK5 _ _ hl8 hb
 unfold F.y_henneberg_peeler_peel_1
 refine⟨_,Hp.cell_le hl5 c1,_,Hp.cell_le hl5 c2,?_⟩
 exact zi8 (hp.le hl5) hs hv (ht.le hl5) (hr.le hl5) hR (hsm x hx) λb h' hl hb=>hk6 _ _ hl (by rw[hb];unfold zdt;rw[decide_eq_true_iff])
theorem Z3v{can:Int->Bool}{xs:List Int}{r:Int}(hf:Fnd (λx=>can x=true) xs r):(r=-1/\xs.find? can=none)\/∃k,∃hk:k<xs.length,r=(k:Int)/\xs.find? can=some xs[k]:=by
 rcases hf with ⟨h1,h2⟩ | ⟨k,hk,h1,h2,h3⟩
 . exact .inl ⟨h1,by rw[List.find?_eq_none];exact λx hx=>by simpa using h2 x hx⟩
 . exact .inr ⟨k,hk,h1,zw9 hk (λj hj hjk=>by simpa using h3 j hj hjk) h2⟩
theorem zx1(hp:PR h p S)(hs:sSk S)(hv:VS S)(ht:GT h)(H:∀a b h',h.le h'->IL h' a (z90 S (W5 S))->IL h' b (Ve (W5 S) (z90 S (W5 S)))->K (a,b) h'):zc (F.y_henneberg_peeler_peel (some p)) K h:=by
 refine zd (λr h'=>IL h' r.1 (z90 S (W5 S))/\IL h' r.2 (Ve (W5 S) (z90 S (W5 S)))) (λK' hk=>?_) λr h' hl hr=>H r.1 r.2 h' hl hr.1 hr.2
 unfold F.y_henneberg_peeler_peel
 obtain⟨can,hcan⟩:∃can,can=zdt (Qu S) (Xl S):=⟨_,rfl⟩
 have hcn:∀R i,can R i=true->i∉R:=by rw[hcan];exact zyb
 have hal:=zy1 hs
 refine Wo λp1 h1 hl1 c1=>?_
 intro b e hbf
 have hp1:=hp.le hl1
 have ht1:=ht.le hl1
 refine zcw (λf st h'=>∃(R:List Int) (y:Sl) (D:Hp),st=(some ⟨b,0,none⟩,())/\h1.le D/\D b=none/\MB h' b [Lf.sl.up y]/\OI D h' y R/\(∀a,y.a=some a->a.block≠b)/\R.length+(Ve (W5 S) R).length<=(W5 S).length/\(Ve (W5 S) R).length<=f /\
  zbc can (W5 S) (Ve (W5 S) R).length R=z90 S (W5 S)) (n0:=(W5 S).length)
  ⟨[],zf,h1,rfl,Hp.le_refl _,hbf,⟨e,Hp.ins_same _ _ _⟩,Own.nil (Hp.le_ins hbf),λa ha=>(by cases ha),?_⟩ ?_
 . have e:Ve (W5 S) []=W5 S:=by unfold Ve;rw[List.filter_eq_self];simp
   rw[e]
   exact⟨by simp,Nat.le_refl _,by rw[hcan];rfl⟩
 rintro f _ h2 ⟨R,y,D,rfl,hD,hDb,hm,ho,hyb,hRl,hf,hpf⟩ K2 hK2
 have hD2:=ho.dle
 have hle2:h1.le h2:=Hp.le_trans hD hD2
 refine⟨_,Hp.cell_le hle2 c1,?_⟩
 refine zef (hp1.le hle2) hs λr6 h3 hl3 ho6=>?_
 have hle3:=Hp.le_trans hle2 hl3
 have hm3:=hm.le hl3
 have ho3:=ho.le hl3
 have c2:∀{h':Hp},MB h' b [Lf.sl.up y]->h'.cell ⟨b,0,none⟩=some (Lf.sl.up y):=λhm=>by
  have:=hm.ld 0 rfl
  rwa [Zq]at this
 refine zsp (hp1.le hle3) hs hv (ht1.le hle3) (Hp.cell_le hle3 c1) (c2 hm3) ho3.il (by omega) (xs:=W5 S) ho6.il (by omega) (λx hx=>Z7u hs hx) λr7 h4 hl4 hr7=>?_
 have hle4:=Hp.le_trans hle3 hl4
 have hm4:=hm3.le hl4
 have ho4:=ho3.le hl4
 rw[<-hcan]at hr7
 rcases Z3v hr7 with ⟨hr,hnone⟩ | ⟨k,hk0,hr,hsome⟩
 . refine Z9 (decide_eq_true (by omega)) ?_
   have hRp:R=z90 S (W5 S):=by rw[<-hpf,z7s hcn (Nat.le_refl _) hnone]
   refine⟨_,Hp.cell_le hle4 c1,?_⟩
   refine zef (hp1.le hle4) hs λr9 h5 hl5 ho9=>?_
   have hm5:=hm4.le hl5
   have ho5:=ho4.le hl5
   refine znq (D:=h4) (xs:=W5 S) (R:=R) (rs:=y) ho9 (by omega) (c2 hm4) ho4.il (by omega) λz h6 ho6z=>?_
   have l46:h4.le h6:=ho6z.dle
   have hm6:=hm4.le l46
   refine⟨_,c2 hm6,?_⟩
   refine hk _ _ (Hp.le_trans hl1 (Hp.le_trans hle4 l46)) ⟨?_,?_⟩
   . rw[<-hRp]
     exact(ho4.le l46).il
   . have:Ve (W5 S) (z90 S (W5 S))=(W5 S).filter λx=>decide (x∉R):=by rw[<-hRp];rfl
     rw[this]
     exact ho6z.il
 . refine zt (decide_eq_false (by omega)) ?_
   refine⟨_,c2 hm4,_,Hp.cell_le hle4 c1,?_⟩
   refine zef (hp1.le hle4) hs λr16 h5 hl5 ho16=>?_
   have hm5:=hm4.le hl5
   have ho5:=ho4.le hl5
   rw[hr]
   refine ho16.il.get (xs:=W5 S) k rfl hk0 ?_
   have hyl:=ho5.il.len
   have hbb:h5 b≠none:=by obtain⟨e,hm⟩:=hm5;rw[hm];simp
   refine zcc ho5 (n:=1) (new:=[ic (W5 S)[k]]) rfl rfl rfl (by omega) (by omega) λw h6 hw _ hs6 hb6=>?_
   have hm6:MB h6 b [Lf.sl.up y]:=by
    obtain⟨e,hm⟩:=hm5
    exact⟨e,by rw[hs6 b hbb λa ha=>(hyb a ha).symm];exact hm⟩
   have hwb:∀a,w.a=some a->a.block≠b:=λa ha hh=>by
    rcases hb6 a ha with ⟨a',h8,h9⟩ | h8
    . exact hyb a' h8 (by rw[h9];exact hh)
    . rw[hh]at h8;exact hbb h8
   obtain⟨g,hg1,hg2,hg3⟩:=zar hcn (Nat.le_refl _) hsome
   have hlt:(Ve (W5 S) (R++[(W5 S)[k]])).length<(Ve (W5 S) R).length:=by omega
   have key:=hm6.st (j:=0) (v:=Lf.sl.up w) (K:=λh=>K2 (some ⟨b,0,none⟩,()) h) (by simp) rfl λh8 hm8 hs8=>hK2 (Ve (W5 S) (R++[(W5 S)[k]])).length _ _ (by omega) ⟨R++[(W5 S)[k]],w,D,rfl,hD,hDb,hm8,?_,hwb,by simp;omega,Nat.le_refl _,?_⟩
   . rw[Zq]at key
     exact key
   . obtain⟨e8,hm8'⟩:=hm8
     rw[zs7 hm8' hs8]
     have:OI D h6 w (R++[(W5 S)[k]]):=by
      unfold OI
      rw[List.map_append]
      exact hw
     exact zhr this hDb hwb
   . rw[<-hpf,hg2]
     exact zx2 hcn _ _ _ (Nat.le_refl _) hg3
theorem zvk(hx:SK h s S)(hs:sSk S)(ht:GT h)(H0:∀h',h.le h'->¬VS S->K (zf,zf) h')(H:∀a b h',h.le h'->VS S->IL h' a (z90 S (W5 S))->IL h' b (Ve (W5 S) (z90 S (W5 S)))->K (a,b) h'):zc (F.z2k s) K h:=by
 refine zd (λr h'=>(¬VS S/\r=(zf,zf))\/(VS S/\IL h' r.1 (z90 S (W5 S))/\IL h' r.2 (Ve (W5 S) (z90 S (W5 S))))) (λK' hk=>?_) λr h' hl hr=>by
  rcases hr with ⟨h1,rfl⟩ | ⟨h1,h2,h3⟩
  . exact H0 h' hl h1
  . exact H r.1 r.2 h' hl h1 h2 h3
 unfold F.z2k
 refine zfj hx hs ht λr h1 hl1 hr=>?_
 refine yt (λh2=>hk _ _ hl1 (.inl ⟨λhv=>h2 (hr.2 hv),rfl⟩)) (λh2=>?_)
 have hv:=hr.1 h2
 refine zm9 (hx.le hl1) hv hs λp h3 hl3 hp=>?_
 refine zx1 hp hs hv (ht.le (Hp.le_trans hl1 hl3)) λa b h4 hl4 ha hb=>hk _ _ (Hp.le_trans hl1 (Hp.le_trans hl3 hl4)) (.inr ⟨hv,ha,hb⟩)
end
end Den
end

section
namespace Den
open Go Iv Lx
section
variable {h : Hp} {s : TSketch} {S : PSk} {p : Addr} {item : Int} {us : Sl} {u : List Int} {Kb : Bool → Hp → Prop} {Ki : Int → Hp → Prop} {K : TStep → Hp → Prop}
end
section
variable {h : Hp} {s : TSketch} {S : PSk} {p : Addr} {K : (TPlan × Int) → Hp → Prop} {Kb : Bool → Hp → Prop}
end
end Den
end

section
namespace Den
open Go Iv Lx
section
variable {α β γ δ : Type} {c : α → List Value} {n : Nat} {P : Hp → α → β → Prop} {c2 : γ → List Value} {n2 : Nat} {P2 : Hp → γ → δ → Prop} {D h h' : Hp} {l m : Sl} {ps : List β} {qs : List δ}
end
def Zkx(x:TRat)(z:Int):PEx:=.mk 1 x (some ((z:Int):Rat)) Xx []
def Zdo(x:TRat):Prop:=x.num.mag.len<=4/\x.den.mag.len<=4
def DC(z:Int)(c:PCon)(e:Int×Int):Prop:=∃x:TRat,Zdo x/\c=⟨2,[e.1,e.2],[],[Zkx x z],0⟩
def DCL(z:Int):List PCon->List (Int×Int)->Prop
 | [],[]=>True
 | c :: r,e :: q=>DC z c e/\DCL z r q
 | _,_=>False
theorem DCL.snoc{z:Int}{c:PCon}{e:Int×Int}(hc:DC z c e):∀{l:List PCon} {q:List (Int×Int)},DCL z l q->DCL z (l++[c]) (q++[e])
 | [],[],_=>⟨hc,trivial⟩
 | a :: r,b :: q,h=>⟨h.1,DCL.snoc hc h.2⟩
 | [],_ :: _,h=>h.elim
 | _ :: _,[],h=>h.elim
theorem DCL.len{z:Int}:∀{l:List PCon} {q:List (Int×Int)},DCL z l q->l.length=q.length
 | [],[],_=>rfl
 | a :: r,b :: q,h=>by rw[List.length_cons,List.length_cons,DCL.len h.2]
 | [],_ :: _,h=>h.elim
 | _ :: _,[],h=>h.elim
theorem DCL.all{z:Int}{Q:PCon->Prop}:∀{l:List PCon} {q:List (Int×Int)},DCL z l q->(∀c e,e∈q->DC z c e->Q c)->∀c∈l,Q c
 | [],[],_,_,c,hc=>by simp at hc
 | a :: r,b :: q,h,H,c,hc=>by
   rcases List.mem_cons.1 hc with rfl | hc
   . exact H _ b (by simp) h.1
   . exact DCL.all h.2 (λc e he=>H c e (List.mem_cons_of_mem _ he)) c hc
 | [],_ :: _,h,_,_,_=>h.elim
 | _ :: _,[],h,_,_,_=>h.elim
def DSK(z:Int)(S:PSk)(n:Nat)(prs:List (Int×Int)):Prop:=S.pts.length=n/\(∀p∈S.pts,VP p)/\S.cir=[]/\S.seg=[]/\S.arc=[]/\S.chn=[]/\DCL z S.con prs
def prs:Nat->List (Int×Int)
 | 0=>[]
 | i+1=>prs i++(List.range i).map λk:Nat=>((k:Int),(i:Int))
section
variable {h : Hp} {K : TSketch → Hp → Prop}
end
section
variable {h : Hp} {s : TSketch} {S : PSk} {Kb : Bool → Hp → Prop}
end
end Den
end

section
namespace Den
open Go Iv Lx
end Den
end

section
namespace Den
open Go Iv Lx
theorem OI.set{D h:Hp}{l:Sl}{xs:List Int}{i v:Int}{K:Hp->Prop}(k:Nat)(ho:OI D h l xs)(hi:i=k)(hk:k<xs.length)(H:∀h',OI D h' l (xs.set k v)->K h'):zg l i 1 λa=>stP a [.int .i64 v] K h:=by
 have e:∀ys:List Int,ys.map ic=ys.flatMap λz=>[ic z]:=λys=>by induction ys<;>simp_all
 unfold OI at ho
 rw[e]at ho
 refine zv2 (c:=λz:Int=>[ic z]) (n:=1) (λ_=>rfl) (by decide) k ho hi hk rfl λh' h1 _=>H h' ?_
 unfold OI
 rw[e];exact h1
section
variable {h : Hp} {s : TSketch} {S : PSk} {K : Bool → Hp → Prop}
end
end Den
end

section
namespace Den
open Go Iv Lx Go.Proofs
open Go.ChangeShapes Go.WideShapes Go.ChangeAt Go.RowKit
section
variable {H : Type} {enc : TypeId × Value → H} {w : World} {cs : List Value}
end
end Den
end

section
namespace Den
open Go Iv Lx
def Zaq(l:List Int)(item:Int)(T:List Int):Prop:=item∈l/\∀x∈l,x∈T
instance (l:List Int) (item:Int) (T:List Int):Decidable (Zaq l item T):=by unfold Zaq;infer_instance
theorem zs5{α:Type}{p:α->Bool}{i:α}:[i].filter p=if p i=true then [i]else []:=by
 cases h:p i<;>simp[List.filter,h]
section
variable {h : Hp} {s : TSketch} {S : PSk} {x : TConstraint} {c : PCon} {cs : List Int} {ce : Sl} {item : Int} {T : List Int} {ts : Sl} {Kb : Bool → Hp → Prop} {Ki : Int → Hp → Prop} {Ks : Sl → Hp → Prop} {K : (Sl × Sl) → Hp → Prop}
def zuf(S:PSk):List Int:=Ve (W5 S) (z90 S (W5 S))
def Zap(l T:List Int):Prop:=∀x∈l,x∈T
instance (l T:List Int):Decidable (Zap l T):=by unfold Zap;infer_instance
end
end Den
end

section
namespace Den
open Go Iv Lx
section
variable {h D : Hp} {s : TSketch} {S : PSk} {x : TConstraint} {c : PCon} {cs : List Int} {ce l rs : Sl} {item : Int} {R xs : List Int} {p1 p2 : Addr} {Kb : Bool → Hp → Prop} {Ki : Int → Hp → Prop} {Ks : Sl → Hp → Prop} {K : (Sl × Sl) → Hp → Prop}
theorem zbh(hx:SK h s S)(hs:sSk S)(ht:GT h)(H:∀b h',h.le h'->(b=true↔VS S/\zuf S=[])->Kb b h'):zc (F.Vj s) Kb h:=by
 refine zd (λb h'=>b=true↔VS S/\zuf S=[]) (λK' hk=>?_) λy h' hl hb=>H y h' hl hb
 unfold F.Vj
 refine zfj hx hs ht λr h1 hl1 hr=>?_
 refine yt (λh2=>hk _ _ hl1 ⟨λhh=>(by cases hh),λhh=>absurd (hr.2 hh.1) h2⟩) (λh2=>?_)
 have hv:=hr.1 h2
 refine zvk (hx.le hl1) hs (ht.le hl1) (λ_ _ hn=>absurd hv hn) λa b h3 hl3 _ ha hb=>hk _ _ (Hp.le_trans hl1 hl3) ?_
 have hb:IL h3 b (zuf S):=hb
 have hbl:=hb.len
 rw[beq_iff_eq]
 simp only
 constructor
 . intro h4
   exact⟨hv,List.eq_nil_of_length_eq_zero (by omega)⟩
 . rintro⟨_,h4⟩
   rw[h4]at hbl
   rw[hbl];rfl
end
end Den
end

section
namespace Den
open Go Iv Lx
theorem Z4o{D h:Hp}{n:Nat}{l:Sl}{cs:List Value}(ho:Own D h n l cs){a:Addr}(ha:l.a=some a):D a.block=none:=by
 obtain⟨_,_,_,g4⟩:=ho
 rw[ha]at g4
 exact g4.2.2.1
section
variable {h D : Hp} {s : TSketch} {S : PSk} {l rs : Sl} {item a b : Int} {R xs : List Int} {p1 p2 : Addr} {Kb : Bool → Hp → Prop} {Ki : Int → Hp → Prop} {Ks : Sl → Hp → Prop}
end
end Den
end

section
namespace Den
open Go Iv Lx
def a2c(e:A2_Int):List Value:=[.int .i64 e.c0,.int .i64 e.c1]
def A2P(h:Hp)(x:A2_Int)(b:Int×Int):Prop:=x.c0=b.1/\x.c1=b.2
theorem Zy:Rec a2c 2 A2P:=⟨λ_=>rfl,by decide,λ_=>rfl,λhx _=>hx⟩
def z1w(a b:Int×Int):Prop:=a.1<b.1\/a.1=b.1/\a.2<b.2
def GV(n:Int)(es:List (Int×Int)):Prop:=(0<=n/\n<=60)/\(∀e∈es,0<=e.1/\e.1<e.2/\e.2<n)/\∀j (hj:j+1<es.length),z1w es[j] es[j+1]
def V3(es:List (Int×Int))(T:List Int)(i:Int):Nat:=es.countP λe=>decide (e.1∈T)&&decide (e.2∈T)&&(e.1==i||e.2==i)
theorem zdx{es:List (Int×Int)}{C T:List Int}{i:Int}(h:∀x∈C,x∈T):V3 es C i<=V3 es T i:=by
 unfold V3
 refine List.countP_mono_left λe _ he=>?_
 simp only[Bool.and_eq_true,decide_eq_true_iff]at he |-
 exact⟨⟨h _ he.1.1,h _ he.1.2⟩,he.2⟩
def zb4(n:Nat):List Int:=(List.range n).map λi:Nat=>(i:Int)
theorem Z4a{n:Nat}{x:Int}:x∈zb4 n↔0<=x/\x<n:=by
 unfold zb4
 rw[List.mem_map]
 constructor
 . rintro⟨a,ha,rfl⟩
   rw[List.mem_range]at ha;omega
 . rintro⟨h1,h2⟩
   exact⟨x.toNat,List.mem_range.2 (by omega),by omega⟩
structure IsCore(n:Nat)(es:List (Int×Int))(T:List Int):Prop where
 sub:T=(zb4 n).filter λx=>decide (x∈T)
 deg:∀i∈T,3<=V3 es T i
 great:∀C:List Int,(∀i∈C,0<=i/\i<n)->(∀i∈C,3<=V3 es C i)->∀i∈C,i∈T
theorem IsCore.mem{n:Nat}{es:List (Int×Int)}{T:List Int}(h:IsCore n es T){i:Int}(hi:i∈T):0<=i/\i<n:=by
 have h1:=h.sub
 rw[h1]at hi
 exact Z4a.1 (List.mem_filter.1 hi).1
theorem zwd{es:List (Int×Int)}{C T:List Int}{x:Int}(hC:∀i∈C,3<=V3 es C i)(hT:∀i∈C,i∈T)(hx:V3 es T x<=2):x∉C:=λhm=>by
 have h1:=hC x hm
 have h2:=zdx (es:=es) (i:=x) hT
 omega
section
variable {h D : Hp} {g : TGraph} {es : List (Int × Int)} {Kb : Bool → Hp → Prop} {Ki : Int → Hp → Prop} {Ks : Sl → Hp → Prop}
theorem zj6{a b:A2_Int}(H:∀r h',h.le h'->(r<0↔z1w (a.c0,a.c1) (b.c0,b.c1))->Ki r h'):zc (F.z3w a b) Ki h:=by
 refine zd (λr h'=>r<0↔z1w (a.c0,a.c1) (b.c0,b.c1)) (λK' hk=>?_) λb h' hl hb=>H b h' hl hb
 unfold F.z3w
 refine z23 (z23 ?_)
 obtain⟨r1,hr1⟩:∃r1:Int,r1=if a.c0<b.c0 then -1 else if b.c0<a.c0 then 1 else 0:=⟨_,rfl⟩
 obtain⟨r2,hr2⟩:∃r2:Int,r2=if a.c1<b.c1 then -1 else if b.c1<a.c1 then 1 else 0:=⟨_,rfl⟩
 rw[<-hr1,<-hr2]
 refine z9q λp3 h3 hl3 c3=>?_
 have hi:IL h3 ⟨some p3,2,2⟩ [r1,r2]:=⟨z2t (size:=1) (n:=2) c3 rfl,Nat.le_refl _⟩
 have q1:(r1<0↔a.c0<b.c0)/\(r1=0↔a.c0=b.c0):=by rw[hr1];split<;>(try split)<;>constructor<;>constructor<;>intro _<;>omega
 have q2:r2<0↔a.c1<b.c1:=by rw[hr2];split<;>(try split)<;>constructor<;>intro _<;>omega
 have key:∀r:Int,(r1≠0->r=r1)->(r1=0->r2≠0->r=r2)->(r1=0->r2=0->r=0)->(r<0↔z1w (a.c0,a.c1) (b.c0,b.c1)):=by
  intro r k1 k2 k3
  unfold z1w
  simp only
  rw[<-q1.1,<-q1.2,<-q2]
  by_cases e1:r1=0
  . by_cases e2:r2=0
    . have:=k3 e1 e2;omega
    . have:=k2 e1 e2;omega
  . have:=k1 e1;omega
 refine zd (λr h'=>(r1≠0->r=r1)/\(r1=0->r2≠0->r=r2)/\(r1=0->r2=0->r=0)) (λK2 hk2=>?_) λr h' hl hr=>hk _ _ (Hp.le_trans hl3 hl) (key r hr.1 hr.2.1 hr.2.2)
 unfold F.zbp
 refine Yr (n:=2) (by omega) (λi h'=>h'=h3/\(0<i->r1=0)/\(1<i->r2=0)) ⟨rfl,by omega,by omega⟩ ?_
 rintro i h4 hi2 ⟨rfl,z1,z2⟩ k hk4
 refine ze (λh5=>?_) (λh5=>?_)
 . have hi':i<2:=by have:(i:Int)<((2:Nat):Int):=h5;omega
   rcases(by omega:i=0\/i=1)with rfl | rfl
   . refine hi.get 0 rfl (by simp) ?_
     simp only[List.getElem_cons_zero]
     refine yt (λh6=>hk2 _ _ (Hp.le_refl _) ⟨λ_=>rfl,λhh=>absurd hh h6,λhh=>absurd hh h6⟩) (λh6=>hk4 _ hi' ⟨rfl,λ_=>h6,by omega⟩)
   . have z:=z1 (by omega)
     refine hi.get 1 rfl (by simp) ?_
     simp only[List.getElem_cons_succ,List.getElem_cons_zero]
     refine yt (λh6=>hk2 _ _ (Hp.le_refl _) ⟨λhh=>absurd z hh,λ_ _=>rfl,λ_ hh=>absurd hh h6⟩) (λh6=>hk4 _ hi' ⟨rfl,λ_=>z,λ_=>h6⟩)
 . have:i=2:=by have:¬(i:Int)<((2:Nat):Int):=h5;omega
   subst this
   exact hk2 _ _ (Hp.le_refl _) ⟨λhh=>absurd (z1 (by omega)) hh,λ_ hh=>absurd (z2 (by omega)) hh,λ_ _=>rfl⟩
theorem zum{n i:Int}(H:∀b,(b=true↔0<=i/\i<n)->Kb b h):zc (F.z7n n i) Kb h:=by
 refine zae (λb=>b=true↔0<=i/\i<n) (λK' hk=>?_) H
 unfold F.z7n
 exact ze (λh1=>hk _ (by rw[decide_eq_true_iff];omega)) (λh1=>hk _ ⟨λhh=>(by cases hh),λhh=>by omega⟩)
theorem Vd(hg:LR a2c 2 A2P h g.edges es)(hlen:es.length<=140737488355328)(H:∀b h',h.le h'->(b=true↔GV g.n es)->Kb b h'):zc (F.Xd g) Kb h:=by
 refine zd (λb h'=>b=true↔GV g.n es) (λK' hk=>?_) λb h' hl hb=>H b h' hl hb
 unfold F.Xd
 have no:∀h',h.le h'->¬GV g.n es->K' false h':=λh' hl hn=>hk _ _ hl ⟨λhh=>(by cases hh),λhh=>absurd hh hn⟩
 have hl:=hg.len Zy
 refine zk (λ_ h'=>h'=h/\0<=g.n/\g.n<=60) ?_ ?_
 . rintro _ h0 ⟨rfl,n0,n1⟩
   refine Yr (n:=es.length) hlen (λi h'=>h0.le h'/\(∀j (hj:j<es.length),j<i->0<=es[j].1/\es[j].1<es[j].2/\es[j].2<g.n)/\∀j (hj:j+1<es.length),j+1<i->z1w es[j] es[j+1]) ⟨Hp.le_refl _,λj _ hj=>by omega,λj _ hj=>by omega⟩ ?_
   rintro i h2 hi ⟨hl2,hno,hbe⟩ k hk2
   refine ze (λh3=>?_) (λh3=>?_)
   . have hi':i<es.length:=by simp only at h3;omega
     have nx:¬(0<=es[i].1/\es[i].1<es[i].2/\es[i].2<g.n)->¬GV g.n es:=λhn hh=>hn (hh.2.1 _ (List.getElem_mem hi'))
     refine zk (λ_ h'=>h0.le h'/\(0<=es[i].1/\es[i].1<es[i].2/\es[i].2<g.n)/\(∀hj:0<i,z1w (es[i-1]'(by omega)) es[i])) (λ_ h' hh=>hk2 _ hi' ⟨hh.1,Zik (P:=λe:Int×Int=>0<=e.1/\e.1<e.2/\e.2<g.n) hno hi' hh.2.1,λj hj hji=>?_⟩) ?_
     . rcases Nat.lt_or_ge (j+1) i with h5 | h5
       . exact hbe j hj h5
       . have:i=j+1:=by omega
         subst this
         exact hh.2.2 (by omega)
     refine(hg.le Zy hl2).get Zy i rfl hi' λa x hxx hcx=>⟨_,hcx 0 _ rfl,_,hcx 1 _ rfl,?_⟩
     obtain⟨x1,x2⟩:=hxx
     rw[x1,x2]
     refine zum λb hb=>zp (λh4=>no _ hl2 (nx λhh=>by rw[hb.2 ⟨hh.1,by omega⟩]at h4;cases h4)) (λh4=>?_)
     have b1:=hb.1 (by simpa using h4)
     refine zum λb2 hb2=>zp (λh5=>no _ hl2 (nx λhh=>by rw[hb2.2 ⟨by omega,hh.2.2⟩]at h5;cases h5)) (λh5=>?_)
     have b2':=hb2.1 (by simpa using h5)
     refine ze (λh6=>no _ hl2 (nx λhh=>by have h6:es[i].1>=es[i].2:=h6;omega)) (λh6=>?_)
     have h6:¬es[i].1>=es[i].2:=h6
     have ok:0<=es[i].1/\es[i].1<es[i].2/\es[i].2<g.n:=by omega
     refine ze (λh7=>?_) (λh7=>⟨hl2,ok,λhj=>by simp only at h7;omega⟩)
     have hi0:0<i:=by simp only at h7;omega
     simp only
     rw[show i64.wrap ((i:Int)-1)=((i-1:Nat):Int) from by rw[w64 (by omega)];omega]
     refine(hg.le Zy hl2).get Zy (i-1) rfl (by omega) λa2 y hyy hcy=>⟨_,hcy 0 _ rfl,_,hcy 1 _ rfl,?_⟩
     obtain⟨y1,y2⟩:=hyy
     refine zj6 (a:=⟨y.c0,y.c1⟩) (b:=⟨es[i].1,es[i].2⟩) λr h8 hl8 hr=>?_
     have hle8:=Hp.le_trans hl2 hl8
     simp only at hr
     rw[y1,y2]at hr
     refine ze (λh9=>no _ hle8 λhh=>?_) (λh9=>⟨hle8,ok,λ_=>hr.1 (by omega)⟩)
     have:=hh.2.2 (i-1) (by omega)
     have e:i-1+1=i:=by omega
     simp only[e]at this
     have:=hr.2 this
     omega
   . refine hk _ _ hl2 ⟨λ_=>⟨⟨n0,n1⟩,Z75 (P:=λe:Int×Int=>0<=e.1/\e.1<e.2/\e.2<g.n) hno (by simp only at h3;omega),λj hj=>hbe j hj (by simp only at h3;omega)⟩,λ_=>rfl⟩
 . refine ze (λh1=>no _ (Hp.le_refl _) λhh=>by have:=hh.1.1;omega) (λh1=>ze (λh2=>no _ (Hp.le_refl _) λhh=>by have:=hh.1.2;omega) (λh2=>⟨rfl,by omega,by omega⟩))
theorem zj5(hg:LR a2c 2 A2P h g.edges es)(hlen:es.length<=140737488355328)(H:∀b h',h.le h'->(b=true↔GV g.n es)->Kb b h'):zc (F.z4h g) Kb h:=by
 refine zd (λb h'=>b=true↔GV g.n es) (λK' hk=>?_) λb h' hl hb=>H b h' hl hb
 unfold F.z4h
 have no:∀h',h.le h'->¬GV g.n es->K' false h':=λh' hl hn=>hk _ _ hl ⟨λhh=>(by cases hh),λhh=>absurd hh hn⟩
 have hl:=hg.len Zy
 refine zk (λ_ h'=>h'=h/\0<=g.n/\g.n<=60) ?_ ?_
 . rintro _ h0 ⟨rfl,n0,n1⟩
   refine Yr (n:=es.length) hlen (λi h'=>h0.le h'/\(∀j (hj:j<es.length),j<i->0<=es[j].1/\es[j].1<es[j].2/\es[j].2<g.n)/\∀j (hj:j+1<es.length),j+1<i->z1w es[j] es[j+1]) ⟨Hp.le_refl _,λj _ hj=>by omega,λj _ hj=>by omega⟩ ?_
   rintro i h2 hi ⟨hl2,hno,hbe⟩ k hk2
   refine ze (λh3=>?_) (λh3=>?_)
   . have hi':i<es.length:=by simp only at h3;omega
     have nx:¬(0<=es[i].1/\es[i].1<es[i].2/\es[i].2<g.n)->¬GV g.n es:=λhn hh=>hn (hh.2.1 _ (List.getElem_mem hi'))
     refine zk (λ_ h'=>h0.le h'/\(0<=es[i].1/\es[i].1<es[i].2/\es[i].2<g.n)/\(∀hj:0<i,z1w (es[i-1]'(by omega)) es[i])) (λ_ h' hh=>hk2 _ hi' ⟨hh.1,Zik (P:=λe:Int×Int=>0<=e.1/\e.1<e.2/\e.2<g.n) hno hi' hh.2.1,λj hj hji=>?_⟩) ?_
     . rcases Nat.lt_or_ge (j+1) i with h5 | h5
       . exact hbe j hj h5
       . have:i=j+1:=by omega
         subst this
         exact hh.2.2 (by omega)
     refine(hg.le Zy hl2).get Zy i rfl hi' λa x hxx hcx=>⟨_,hcx 0 _ rfl,_,hcx 1 _ rfl,?_⟩
     obtain⟨x1,x2⟩:=hxx
     rw[x1,x2]
     refine ze (λh4=>no _ hl2 (nx λhh=>by have h4:es[i].1<0:=h4;omega)) (λh4=>?_)
     refine ze (λh5=>no _ hl2 (nx λhh=>by have h5:es[i].1>=es[i].2:=h5;omega)) (λh5=>?_)
     refine ze (λh6=>no _ hl2 (nx λhh=>by have h6:es[i].2>=g.n:=h6;omega)) (λh6=>?_)
     have h4:¬es[i].1<0:=h4
     have h5:¬es[i].1>=es[i].2:=h5
     have h6:¬es[i].2>=g.n:=h6
     have ok:0<=es[i].1/\es[i].1<es[i].2/\es[i].2<g.n:=by omega
     refine ze (λh7=>?_) (λh7=>⟨hl2,ok,λhj=>by simp only at h7;omega⟩)
     have hi0:0<i:=by simp only at h7;omega
     simp only
     rw[show i64.wrap ((i:Int)-1)=((i-1:Nat):Int) from by rw[w64 (by omega)];omega]
     refine(hg.le Zy hl2).get Zy (i-1) rfl (by omega) λa2 y hyy hcy=>⟨_,hcy 0 _ rfl,_,hcy 1 _ rfl,?_⟩
     obtain⟨y1,y2⟩:=hyy
     rw[y1,y2]
     have hb:∀Kb':Bool->Hp->Prop,(∀b,(b=true↔z1w (es[i-1]'(by omega)) es[i])->Kb' b h2)->zc (F.z5h (⟨(es[i-1]'(by omega)).1,(es[i-1]'(by omega)).2⟩:A2_Int) (⟨es[i].1,es[i].2⟩:A2_Int)) Kb' h2:=by
      intro Kb' hkb
      refine zae (λb=>b=true↔z1w (es[i-1]'(by omega)) es[i]) (λK2 hk3=>?_) hkb
      unfold F.z5h
      unfold z1w at hk3
      refine ze (λh1=>hk3 _ ⟨λ_=>.inl h1,λ_=>rfl⟩) (λh1=>Za (λh2=>hk3 _ ?_) (λh2=>hk3 _ ⟨λhh=>(by cases hh),λhh=>?_⟩))
      . rw[decide_eq_true_iff]
        exact⟨λhh=>.inr ⟨h2,hh⟩,λhh=>by rcases hh with hh | hh;exact absurd hh h1;exact hh.2⟩
      . rcases hh with hh | hh
        . exact absurd hh h1
        . exact absurd hh.1 h2
     refine hb _ λb hbb=>?_
     refine zp (λh9=>no _ hl2 λhh=>?_) (λh9=>⟨hl2,ok,λ_=>hbb.1 (by simpa using h9)⟩)
     have:=hh.2.2 (i-1) (by omega)
     have e:i-1+1=i:=by omega
     simp only[e]at this
     rw[hbb.2 this]at h9;cases h9
   . refine hk _ _ hl2 ⟨λ_=>⟨⟨n0,n1⟩,Z75 (P:=λe:Int×Int=>0<=e.1/\e.1<e.2/\e.2<g.n) hno (by simp only at h3;omega),λj hj=>hbe j hj (by simp only at h3;omega)⟩,λ_=>rfl⟩
 . refine ze (λh1=>no _ (Hp.le_refl _) λhh=>by have:=hh.1.1;omega) (λh1=>ze (λh2=>no _ (Hp.le_refl _) λhh=>by have:=hh.1.2;omega) (λh2=>⟨rfl,by omega,by omega⟩))
theorem zjo{es:List (Int×Int)}{e:Int×Int}{T:List Int}{i:Int}:V3 (es++[e]) T i=V3 es T i+(if e.1∈T/\e.2∈T/\(e.1=i\/e.2=i)then 1 else 0):=by
 unfold V3
 rw[List.countP_append]
 congr 1
 rw[List.countP_singleton]
 by_cases h:e.1∈T/\e.2∈T/\(e.1=i\/e.2=i)
 . rw[if_pos h,if_pos (by simp[h.1,h.2.1];exact h.2.2)]
 . rw[if_neg h,if_neg]
   intro hh
   simp only[Bool.and_eq_true,decide_eq_true_iff,Bool.or_eq_true,beq_iff_eq]at hh
   exact h ⟨hh.1.1,hh.1.2,hh.2⟩
theorem Z86{es:List (Int×Int)}{T:List Int}{i:Int}:V3 es T i<=es.length:=List.countP_le_length
end
end Den
end

section
namespace Den
open Go Iv Lx Go.Proofs
open Go.ChangeShapes Go.WideShapes Go.ChangeAt Go.RowKit
section
variable {H : Type} {enc : TypeId × Value → H} {w : World} {cs : List Value}
theorem Zkp:Tryz.prog.cellsOf 24=2:=by kernel_rfl
theorem Ziy:Tryz.prog.cellsOf 58=2:=by kernel_rfl
theorem Zix:Tryz.prog.bytesOf 58=16:=by kernel_rfl
theorem Zj0:Tryz.prog.cellsOf 22=1:=by kernel_rfl
set_option maxRecDepth 10000 in
theorem Zdb(h:Okt enc Tryz.prog w 58 cs):∃(x:A2_Int) (b:Int×Int),cs=a2c x/\A2P (hpW w) x b:=by
 obtain⟨hl,hf⟩:=h.items Tryz.underlying58
 rw[Ziy]at hl
 have h0:=hf 0 (by decide)
 have h1:=hf 1 (by decide)
 rw[zu9]at h0 h1
 obtain⟨a,e0,_⟩:=h0.int Tryz.underlying3
 obtain⟨b,e1,_⟩:=h1.int Tryz.underlying3
 have e0':(cs.drop 0).take 1=[Value.int .i64 a]:=by simpa using e0
 have e1':(cs.drop 1).take 1=[Value.int .i64 b]:=by simpa using e1
 exact⟨⟨a,b⟩,(a,b),X4 e0' (X4 e1' (zdu hl)),rfl,rfl⟩
def GRA(h:Hp)(g:TGraph):Prop:=∃es:List (Int×Int),LR a2c 2 A2P h g.edges es/\es.length<=140737488355328
theorem Zky(h:Okt enc Tryz.prog w 24 cs):∃x:TGraph,cs=[.int .i64 x.n,Lf.sl.up x.edges]/\GRA (hpW w) x:=by
 obtain⟨hl,hf⟩:=h.fields Tryz.underlying24
 rw[Zkp]at hl
 have h0:Okt enc Tryz.prog w 3 ((cs.drop 0).take (Tryz.prog.cellsOf 3)):=hf 0 _ rfl
 have h1:Okt enc Tryz.prog w 22 ((cs.drop 1).take (Tryz.prog.cellsOf 22)):=hf 1 _ rfl
 rw[zu9]at h0
 rw[Zj0]at h1
 obtain⟨n,e0,_⟩:=h0.int Tryz.underlying3
 obtain⟨s,hs,k1,k2,css,k3,k4,k5⟩:=h1.slice Tryz.underlying22
 obtain⟨xs,ps,g1,g2,g3,g4⟩:=zuq (c:=a2c) (Q:=A2P (hpW w)) (λ_ h=>Zdb h) (λd hd=>(k4 d hd).2)
 rw[Ziy,g1]at k5
 rw[Zix,show reachBytes=140737488351232 from rfl]at k2
 exact⟨⟨n,s⟩,X4 e0 (X4 hs (zdu hl)),ps,⟨xs,k5,k1,g2,g4⟩,by omega⟩
end
end Den
end

section
namespace Den
open Go
def zfk{α:Type}(enc:α->List Value)(size:Nat)(srt:List α->List α)(x:Sl)(K:Unit->Hp->Prop)(h:Hp):Prop:=(x.len=0/\K () h) \/ ∃(b o:Nat) (bl:Blk) (xs:List α),x.a=some ⟨b,o,none⟩/\x.len=xs.length/\xs.length<=140737488355328/\h b=some bl/\bl.fz=(0,0)/\o+xs.length*size<=bl.cells.length /\ (bl.cells.drop o).take (xs.length*size)=xs.flatMap enc/\K () (h.ins b { bl with cells:=z8 bl.cells o ((srt xs).flatMap enc) })
def Z8c(z:Int):List Value:=[.int .i64 z]
def Xy(e:Int×Int):List Value:=[.int .i64 e.1,.int .i64 e.2]
def Z9f(xs:List Int):List Int:=xs.mergeSort λx y=>decide (x<=y)
def z56(a b:Int×Int):Int:=if a.1<b.1 then -1 else if b.1<a.1 then 1 else if a.2<b.2 then -1 else if b.2<a.2 then 1 else 0
def zij(xs:List (Int×Int)):List (Int×Int):=xs.mergeSort λx y=>!(decide (z56 y x<0))
end Den
end

section
set_option maxRecDepth 10000
namespace Den
open Go
structure TNumber where
 radicands:Sl
 coefs:Sl
def Zt:Ty TNumber:=Ty.agg [.sl,.sl] (λx=>(x.radicands,x.coefs,())) (λy=>⟨y.1,y.2.1⟩) (λ_=>rfl) (λ_=>rfl)
structure Tnumber_embedding where
 into:Sl
 roots:Sl
def z4y:Ty Tnumber_embedding:=Ty.agg [.sl,.sl] (λx=>(x.into,x.roots,())) (λy=>⟨y.1,y.2.1⟩) (λ_=>rfl) (λ_=>rfl)
structure Tmatrix_reduced where
 rows:Sl
 pivots:Sl
 det:TNumber
def zdd:Ty Tmatrix_reduced:=Ty.agg [.sl,.sl,.sl,.sl] (λx=>(x.rows,x.pivots,x.det.radicands,x.det.coefs,())) (λy=>⟨y.1,y.2.1,⟨y.2.2.1,y.2.2.2.1⟩⟩) (λ_=>rfl) (λ_=>rfl)
structure TTree where
 a:Int
 b:Int
 c:Int
 parts:Sl
def z33:Ty TTree:=Ty.agg [.int .i64,.int .i64,.int .i64,.sl] (λx=>(x.a,x.b,x.c,x.parts,())) (λy=>⟨y.1,y.2.1,y.2.2.1,y.2.2.2.1⟩) (λ_=>rfl) (λ_=>rfl)
namespace F
def z1u(g:TGraph)(at_:Sl)(K:TSketch->Hp->Prop)(h:Hp):Prop:=(zr (S:=(Sl×Sl×Sl×Sl×Sl×Sl×Unit)×Int×Unit) (λs1 k2 h1=>(ifP (decide (s1.2.1<g.n)) (zg at_ s1.2.1 2 λa3=>(ldL (.int .i8) (a3.add 0) (λx4=>(zg at_ s1.2.1 2 λa5=>(ldL (.int .i8) (a5.add 1) (λx6=>(zc (Wz (i64.wrap (x4))) (λr7 h2=>(zc (Wz (i64.wrap (x6))) (λr8 h3=>(Y6 8 128 [.bool false,.slice zf.a zf.len zf.cap,.bool false,.slice zf.a zf.len zf.cap,.bool false,.slice zf.a zf.len zf.cap,.bool false,.slice zf.a zf.len zf.cap] s1.1.1 1 [.bool r7.num.neg,.slice r7.num.mag.a r7.num.mag.len r7.num.mag.cap,.bool r7.den.neg,.slice r7.den.mag.a r7.den.mag.len r7.den.mag.cap,.bool r8.num.neg,.slice r8.num.mag.a r8.num.mag.len r8.num.mag.cap,.bool r8.den.neg,.slice r8.den.mag.a r8.den.mag.len r8.den.mag.cap] (λw9 h4=>(k2 ((w9,s1.1.2.1,s1.1.2.2.1,s1.1.2.2.2.1,s1.1.2.2.2.2.1,s1.1.2.2.2.2.2.1,()),(i64.wrap (s1.2.1+1)),()) h4)) h3)) h2)) h1)) h1))) h1)) (zr (S:=(Sl×Sl×Sl×Sl×Sl×Sl×Unit)×Int×Unit) (λs10 k11 h5=>(ifP (decide (s10.2.1<(g.edges.len:Int))) (zg g.edges s10.2.1 2 λa12=>(ldL (.int .i64) (a12.add 0) (λx13_0=>(ldL (.int .i64) (a12.add 1) (λx13_1=>(zc (Wz 5) (λr14 h6=>(Yu [.int .i64 x13_0,.int .i64 x13_1] (λp15 h7=>(Yu [.int .i64 1,.bool r14.num.neg,.slice r14.num.mag.a r14.num.mag.len r14.num.mag.cap,.bool r14.den.neg,.slice r14.den.mag.a r14.den.mag.len r14.den.mag.cap,.string Xx,.slice zf.a zf.len zf.cap] (λp16 h8=>(Y6 5 88 [.int .i64 0,.slice zf.a zf.len zf.cap,.slice zf.a zf.len zf.cap,.slice zf.a zf.len zf.cap,.int .i64 0] s10.1.2.2.2.2.2.1 1 [.int .i64 2,.slice (⟨some p15,2,2⟩:Sl).a (⟨some p15,2,2⟩:Sl).len (⟨some p15,2,2⟩:Sl).cap,.slice zf.a zf.len zf.cap,.slice (⟨some p16,1,1⟩:Sl).a (⟨some p16,1,1⟩:Sl).len (⟨some p16,1,1⟩:Sl).cap,.int .i64 0] (λw17 h9=>(k11 ((s10.1.1,s10.1.2.1,s10.1.2.2.1,s10.1.2.2.2.1,s10.1.2.2.2.2.1,w17,()),(i64.wrap (s10.2.1+1)),()) h9)) h8)) h7)) h6)) h5)) h5)) h5)) (K (⟨s10.1.1,s10.1.2.1,s10.1.2.2.1,s10.1.2.2.2.1,s10.1.2.2.2.2.1,s10.1.2.2.2.2.2.1⟩:TSketch) h5))) ((s1.1.1,s1.1.2.1,s1.1.2.2.1,s1.1.2.2.2.1,s1.1.2.2.2.2.1,s1.1.2.2.2.2.2.1,()),0,()) h1))) ((zf,zf,zf,zf,zf,zf,()),0,()) h)
def z5c(n:Int)(K:(Option Addr)->Hp->Prop)(h:Hp):Prop:=(mkP n n 24 [.slice zf.a zf.len zf.cap] (λm1 h1=>(Yu [.slice m1.a m1.len m1.cap] (λp2 h2=>(K (some p2) h2)) h1)) h)
def y_pebble_game_free(g:(Option Addr))(a:Int)(K:Int->Hp->Prop)(h:Hp):Prop:=(ym g λp1=>(ldL (.sl) (p1.add 0) (λx2=>(zg x2 a 1 λa3=>(ldL (.sl) a3 (λx4=>(K (i64.wrap (2-(x4.len:Int))) h)) h))) h))
def qp(s:Sl)(i:Int)(j:Int)(K:Sl->Hp->Prop)(h:Hp):Prop:=(zxh s i j (s.len:Int) 1 λc1=>(ifP (i==j) (K s h) (slP s 0 i 1 λc2=>(slP s j (s.len:Int) 1 λc3=>(rdO c3.a (c3.len*1) (λvs4=>(Y6 1 8 [.int .i64 0] c2 c3.len vs4 (λw5 h1=>(slP w5 (w5.len:Int) (s.len:Int) 1 λc6=>(zl0 c6 [.int .i64 0] (λh2=>(K w5 h2)) h1))) h)) h)))))
def y_pebble_game_fetch_:Nat->(Option Addr)->Int->Sl->(Bool->Hp->Prop)->Hp->Prop
 | 0,_,_,_,_,_=>False
 | fuel+1,g,a,visited,K,h=>(zg visited a 1 λa1=>(stP a1 [.bool true] (λh1=>(ym g λp2=>(ldL (.sl) (p2.add 0) (λx3=>(zg x3 a 1 λa4=>(ldL (.sl) a4 (λx5=>(zr (S:=Int×Unit) (λs6 k7 h2=>(ifP (decide (s6.1<(x5.len:Int))) (Zb (S:=Unit) (λs8 h3=>(k7 ((i64.wrap (s6.1+1)),()) h3)) (λk9=>(zg x5 s6.1 1 λa10=>(ldL (.int .i64) a10 (λx11=>(zg visited x11 1 λa12=>(ldL (.bool) a12 (λx13=>(ifP x13 (k9 () h2) (zc (y_pebble_game_free g x11) (λr14 h4=>(ifP (decide (r14>0)) (ym g λp15=>(ldL (.sl) (p15.add 0) (λx16=>(ym g λp17=>(ldL (.sl) (p17.add 0) (λx18=>(zg x18 a 1 λa19=>(ldL (.sl) a19 (λx20=>(qg (qp x20 s6.1 (i64.wrap (s6.1+1))) (λr21 h5=>((ldL (.sl) (p15.add 0) (λx22=>(((.slice x22.a x22.len x22.cap):Value)=((.slice x16.a x16.len x16.cap):Value))) h5) /\ (zg x16 a 1 λa23=>(stP a23 [.slice r21.a r21.len r21.cap] (λh6=>(ym g λp24=>(ldL (.sl) (p24.add 0) (λx25=>(ym g λp26=>(ldL (.sl) (p26.add 0) (λx27=>(zg x27 x11 1 λa28=>(ldL (.sl) a28 (λx29=>(Y6 1 8 [.int .i64 0] x29 1 [.int .i64 a] (λw30 h7=>((ldL (.sl) (p24.add 0) (λx31=>(((.slice x31.a x31.len x31.cap):Value)=((.slice x25.a x25.len x25.cap):Value))) h7) /\ (zg x25 x11 1 λa32=>(stP a32 [.slice w30.a w30.len w30.cap] (λh8=>(K true h8)) h7)))) h6)) h6))) h6))) h6))) h5)))) h4)) h4))) h4))) h4)) (qg ((y_pebble_game_fetch_ fuel) g x11 visited) (λr33 h9=>(ifP r33 (ym g λp34=>(ldL (.sl) (p34.add 0) (λx35=>(ym g λp36=>(ldL (.sl) (p36.add 0) (λx37=>(zg x37 a 1 λa38=>(ldL (.sl) a38 (λx39=>(qg (qp x39 s6.1 (i64.wrap (s6.1+1))) (λr40 h10=>((ldL (.sl) (p34.add 0) (λx41=>(((.slice x41.a x41.len x41.cap):Value)=((.slice x35.a x35.len x35.cap):Value))) h10) /\ (zg x35 a 1 λa42=>(stP a42 [.slice r40.a r40.len r40.cap] (λh11=>(ym g λp43=>(ldL (.sl) (p43.add 0) (λx44=>(ym g λp45=>(ldL (.sl) (p45.add 0) (λx46=>(zg x46 x11 1 λa47=>(ldL (.sl) a47 (λx48=>(Y6 1 8 [.int .i64 0] x48 1 [.int .i64 a] (λw49 h12=>((ldL (.sl) (p43.add 0) (λx50=>(((.slice x50.a x50.len x50.cap):Value)=((.slice x44.a x44.len x44.cap):Value))) h12) /\ (zg x44 x11 1 λa51=>(stP a51 [.slice w49.a w49.len w49.cap] (λh13=>(K true h13)) h12)))) h11)) h11))) h11))) h11))) h10)))) h9)) h9))) h9))) h9)) (k9 () h9))) h4))) h2))) h2))) h2)))) (K false h2))) (0,()) h1)) h1))) h1))) h))
def y_pebble_game_fetch(g:(Option Addr))(a:Int)(visited:Sl)(K:Bool->Hp->Prop)(h:Hp):Prop:=∃fuel,y_pebble_game_fetch_ fuel g a visited K h
def y_pebble_game_gather(g:(Option Addr))(a:Int)(b:Int)(K:Int->Hp->Prop)(h:Hp):Prop:=(Yu [.int .i64 a,.int .i64 b,.int .i64 b,.int .i64 a] (λp1 h1=>(zr (S:=Int×Unit) (λs2 k3 h2=>(ifP (decide (s2.1<((⟨some p1,2,2⟩:Sl).len:Int))) (Zb (S:=Unit) (λs4 h3=>(k3 ((i64.wrap (s2.1+1)),()) h3)) (λk5=>(zg (⟨some p1,2,2⟩:Sl) s2.1 2 λa6=>(ldL (.int .i64) (a6.add 0) (λx7_0=>(ldL (.int .i64) (a6.add 1) (λx7_1=>(zr (S:=Unit) (λs8 k9 h4=>(zc (y_pebble_game_free g x7_0) (λr10 h5=>(ifP (decide (r10<2)) (ym g λp11=>(ldL (.sl) (p11.add 0) (λx12=>(mkP (x12.len:Int) (x12.len:Int) 1 [.bool false] (λm13 h6=>(zg m13 x7_1 1 λa14=>(stP a14 [.bool true] (λh7=>(qg (y_pebble_game_fetch g x7_0 m13) (λr15 h8=>(ifP (!r15) (k5 () h8) (k9 () h8))) h7)) h6))) h5)) h5)) (k5 () h5))) h4)) () h2)) h2)) h2)))) (zc (y_pebble_game_free g a) (λr16 h9=>(zc (y_pebble_game_free g b) (λr17 h10=>(K (i64.wrap (r16+r17)) h10)) h9)) h2))) (0,()) h1)) h)
def y_pebble_game_accept(g:(Option Addr))(a:Int)(b:Int)(K:Bool->Hp->Prop)(h:Hp):Prop:=(qg (y_pebble_game_gather g a b) (λr1 h1=>(ifP (decide (r1<4)) (K false h1) (ym g λp2=>(ldL (.sl) (p2.add 0) (λx3=>(ym g λp4=>(ldL (.sl) (p4.add 0) (λx5=>(zg x5 a 1 λa6=>(ldL (.sl) a6 (λx7=>(Y6 1 8 [.int .i64 0] x7 1 [.int .i64 b] (λw8 h2=>((ldL (.sl) (p2.add 0) (λx9=>(((.slice x9.a x9.len x9.cap):Value)=((.slice x3.a x3.len x3.cap):Value))) h2) /\ (zg x3 a 1 λa10=>(stP a10 [.slice w8.a w8.len w8.cap] (λh3=>(K true h3)) h2)))) h1)) h1))) h1))) h1)))) h)
def z4e(n:Int)(edges:Sl)(K:(Sl×(Option Addr))->Hp->Prop)(h:Hp):Prop:=(zc (z5c n) (λr1 h1=>(zr (S:=Sl×Int×Unit) (λs2 k3 h2=>(ifP (decide (s2.2.1<(edges.len:Int))) (Zb (S:=Sl×Unit) (λs4 h3=>(k3 (s4.1,(i64.wrap (s2.2.1+1)),()) h3)) (λk5=>(zg edges s2.2.1 2 λa6=>(ldL (.int .i64) (a6.add 0) (λx7_0=>(ldL (.int .i64) (a6.add 1) (λx7_1=>(qg (y_pebble_game_accept r1 x7_0 x7_1) (λr8 h4=>(ifP r8 (Y6 1 8 [.int .i64 0] s2.1 1 [.int .i64 s2.2.1] (λw9 h5=>(k5 (w9,()) h5)) h4) (k5 (s2.1,()) h4))) h2)) h2)) h2)))) (K (s2.1,r1) h2))) (zf,0,()) h1)) h)
def Q0(g:TGraph)(K:Sl->Hp->Prop)(h:Hp):Prop:=(zc (Xd g) (λr1 h1=>(ifP (!r1) (K zf h1) (zc (z4e g.n g.edges) (λr2 h2=>(K r2.1 h2)) h1))) h)
def z0z(K:TGraph->Hp->Prop)(h:Hp):Prop:=(Yu [.int .i64 0,.int .i64 1,.int .i64 0,.int .i64 2,.int .i64 1,.int .i64 2,.int .i64 1,.int .i64 3,.int .i64 2,.int .i64 3] (λp1 h1=>(K (⟨4,(⟨some p1,5,5⟩:Sl)⟩:TGraph) h1)) h)
def z7c(n:TRat)(K:TNumber->Hp->Prop)(h:Hp):Prop:=(Yu [.bool n.num.neg,.slice n.num.mag.a n.num.mag.len n.num.mag.cap,.bool n.den.neg,.slice n.den.mag.a n.den.mag.len n.den.mag.cap] (λp1 h1=>(K (⟨zf,(⟨some p1,1,1⟩:Sl)⟩:TNumber) h1)) h)
def z1l(n:Int)(K:TNumber->Hp->Prop)(h:Hp):Prop:=(zc (Wz n) (λr1 h1=>(zc (z7c r1) (λr2 h2=>(K r2 h2)) h1)) h)
def z8l(n:Int)(i:Int)(K:Sl->Hp->Prop)(h:Hp):Prop:=(zr (S:=Sl×Int×Unit) (λs1 k2 h1=>(ifP (decide (s1.2.1<n)) (zc (z1l 0) (λr3 h2=>(Zb (S:=(Sl×Sl×Unit)×Unit) (λs4 h3=>(Y6 2 48 [.slice zf.a zf.len zf.cap,.slice zf.a zf.len zf.cap] s1.1 1 [.slice s4.1.1.a s4.1.1.len s4.1.1.cap,.slice s4.1.2.1.a s4.1.2.1.len s4.1.2.1.cap] (λw6 h4=>(k2 (w6,(i64.wrap (s1.2.1+1)),()) h4)) h3)) (λk5=>(ifP (s1.2.1==i) (zc (z1l 1) (λr7 h5=>(k5 ((r7.radicands,r7.coefs,()),()) h5)) h2) (k5 ((r3.radicands,r3.coefs,()),()) h2))))) h1) (K s1.1 h1))) (zf,0,()) h)
def z0a(n:TRat)(K:TRat->Hp->Prop)(h:Hp):Prop:=(zc (Zg n.num.mag) (λr1 h1=>(zc (Zg n.den.mag) (λr2 h2=>(K (⟨(⟨n.num.neg,r1⟩:TInt),(⟨n.den.neg,r2⟩:TInt)⟩:TRat) h2)) h1)) h)
def z2p(n:TRat)(K:TNumber->Hp->Prop)(h:Hp):Prop:=(zc (z0a n) (λr1 h1=>(Yu [.bool r1.num.neg,.slice r1.num.mag.a r1.num.mag.len r1.num.mag.cap,.bool r1.den.neg,.slice r1.den.mag.a r1.den.mag.len r1.den.mag.cap] (λp2 h2=>(K (⟨zf,(⟨some p2,1,1⟩:Sl)⟩:TNumber) h2)) h1)) h)
def X8(n:Int)(K:TNumber->Hp->Prop)(h:Hp):Prop:=(zc (Y8 n) (λr1 h1=>(zc (z2p r1) (λr2 h2=>(K r2 h2)) h1)) h)
def z41(g:TGraph)(at_:Sl)(K:Sl->Hp->Prop)(h:Hp):Prop:=(zr (S:=Sl×Int×Unit) (λs1 k2 h1=>(ifP (decide (s1.2.1<(g.edges.len:Int))) (zg g.edges s1.2.1 2 λa3=>(ldL (.int .i64) (a3.add 0) (λx4_0=>(ldL (.int .i64) (a3.add 1) (λx4_1=>(zc (z8l (i64.wrap (2*g.n)) (-1)) (λr5 h2=>(zr (S:=Int×Unit) (λs6 k7 h3=>(ifP (decide (s6.1<2)) (zg at_ x4_0 2 λa8=>(z9k s6.1 2 (ldL (.int .i8) (a8.add ((s6.1:Int).toNat*1)) (λx9=>(zg at_ x4_1 2 λa10=>(z9k s6.1 2 (ldL (.int .i8) (a10.add ((s6.1:Int).toNat*1)) (λx11=>(zc (X8 (i64.wrap ((i64.wrap (x9))-(i64.wrap (x11))))) (λr12 h4=>(zc (X8 (i64.wrap (0-(i64.wrap ((i64.wrap (x9))-(i64.wrap (x11))))))) (λr13 h5=>(zg r5 (i64.wrap ((i64.wrap (2*x4_0))+s6.1)) 2 λa14=>(stP a14 [.slice r12.radicands.a r12.radicands.len r12.radicands.cap,.slice r12.coefs.a r12.coefs.len r12.coefs.cap] (λh6=>(zg r5 (i64.wrap ((i64.wrap (2*x4_1))+s6.1)) 2 λa15=>(stP a15 [.slice r13.radicands.a r13.radicands.len r13.radicands.cap,.slice r13.coefs.a r13.coefs.len r13.coefs.cap] (λh7=>(k7 ((i64.wrap (s6.1+1)),()) h7)) h6))) h5))) h4)) h3)) h3)))) h3))) (Y6 1 24 [.slice zf.a zf.len zf.cap] s1.1 1 [.slice r5.a r5.len r5.cap] (λw16 h8=>(k2 (w16,(i64.wrap (s1.2.1+1)),()) h8)) h3))) (0,()) h2)) h1)) h1)) h1)) (K s1.1 h1))) (zf,0,()) h)
def X6(m:Sl)(K:Int->Hp->Prop)(h:Hp):Prop:=(ifP ((m.len:Int)==0) (K 0 h) (zg m 0 1 λa1=>(ldL (.sl) a1 (λx2=>(K (x2.len:Int) h)) h)))
def z5y(row:Sl)(v0:(Option Addr))(K:Bool->Hp->Prop)(h:Hp):Prop:=(ym v0 λp1=>(ldL (.sl) p1 (λx2=>(zc (X6 x2) (λr3 h1=>(K ((row.len:Int) != r3) h1)) h)) h))
def yj(s:Sl)(f1:(Option Addr×Unit))(K:Int->Hp->Prop)(h:Hp):Prop:=(zr (S:=Int×Unit) (λs1 k2 h1=>(ifP (decide (s1.1<(s.len:Int))) (zg s s1.1 1 λa3=>(ldL (.sl) a3 (λx4=>(zc (z5y x4 f1.1) (λr5 h2=>(ifP r5 (K s1.1 h2) (k2 ((i64.wrap (s1.1+1)),()) h2))) h1)) h1)) (K (-1) h1))) (0,()) h)
def Z7(s:Sl)(f1:(Option Addr×Unit))(K:Bool->Hp->Prop)(h:Hp):Prop:=(zc (yj s (f1.1,())) (λr1 h1=>(K (decide (r1>=0)) h1)) h)
def z2n(m:Sl)(K:Bool->Hp->Prop)(h:Hp):Prop:=(Yu [.slice m.a m.len m.cap] (λp1 h1=>(ldL (.sl) p1 (λx2=>(zc (Z7 x2 ((some p1),())) (λr3 h2=>(K (!r3) h2)) h1)) h1)) h)
def z0p(m:Sl)(K:Sl->Hp->Prop)(h:Hp):Prop:=(zc (z2n m) (λr1 h1=>(ifP (!r1) (K zf h1) (zc (X6 m) (λr2 h2=>(mkP r2 r2 24 [.slice zf.a zf.len zf.cap] (λm3 h3=>(zr (S:=Int×Unit) (λs4 k5 h4=>(ifP (decide (s4.1<(m3.len:Int))) (zr (S:=Int×Unit) (λs6 k7 h5=>(ifP (decide (s6.1<(m.len:Int))) (zg m s6.1 1 λa8=>(ldL (.sl) a8 (λx9=>(zg m3 s4.1 1 λa10=>(ldL (.sl) a10 (λx11=>(zg x9 s4.1 2 λa12=>(ldL (.sl) (a12.add 0) (λx13_0=>(ldL (.sl) (a12.add 1) (λx13_1=>(Y6 2 48 [.slice zf.a zf.len zf.cap,.slice zf.a zf.len zf.cap] x11 1 [.slice x13_0.a x13_0.len x13_0.cap,.slice x13_1.a x13_1.len x13_1.cap] (λw14 h6=>(zg m3 s4.1 1 λa15=>(stP a15 [.slice w14.a w14.len w14.cap] (λh7=>(k7 ((i64.wrap (s6.1+1)),()) h7)) h6))) h5)) h5)) h5))) h5))) h5)) (k5 ((i64.wrap (s4.1+1)),()) h5))) (0,()) h4) (K m3 h4))) (0,()) h3)) h2)) h1))) h)
def Yw(s:Sl)(n:Int)(K:Sl->Hp->Prop)(h:Hp):Prop:=(Zb (S:=Unit) (λs1 h1=>(ifP (decide ((i64.wrap (n-(i64.wrap ((s.cap:Int)-(s.len:Int)))))>0)) (slP s 0 (s.cap:Int) 2 λc3=>(0<=((i64.wrap (n-(i64.wrap ((s.cap:Int)-(s.len:Int))))):Int) /\ (Y6 2 48 [.slice zf.a zf.len zf.cap,.slice zf.a zf.len zf.cap] c3 (((i64.wrap (n-(i64.wrap ((s.cap:Int)-(s.len:Int))))):Int).toNat) (Z6 ((i64.wrap (n-(i64.wrap ((s.cap:Int)-(s.len:Int))))):Int).toNat [.slice zf.a zf.len zf.cap,.slice zf.a zf.len zf.cap]) (λw4 h2=>(slP w4 0 (s.len:Int) 2 λc5=>(K c5 h2))) h1))) (K s h1))) (λk2=>(ifP (decide (n<0)) False (k2 () h))))
def Yo(slices:Sl)(K:Sl->Hp->Prop)(h:Hp):Prop:=(zr (S:=Int×Int×Unit) (λs1 k2 h1=>(ifP (decide (s1.2.1<(slices.len:Int))) (Zb (S:=Int×Unit) (λs3 h2=>(k2 (s3.1,(i64.wrap (s1.2.1+1)),()) h2)) (λk4=>(zg slices s1.2.1 1 λa5=>(ldL (.sl) a5 (λx6=>(ifP (decide ((i64.wrap (s1.1+(x6.len:Int)))<0)) False (k4 ((i64.wrap (s1.1+(x6.len:Int))),()) h1))) h1)))) (zc (Yw zf s1.1) (λr7 h3=>(zr (S:=Sl×Int×Unit) (λs8 k9 h4=>(ifP (decide (s8.2.1<(slices.len:Int))) (zg slices s8.2.1 1 λa10=>(ldL (.sl) a10 (λx11=>(rdO x11.a (x11.len*2) (λvs12=>(Y6 2 48 [.slice zf.a zf.len zf.cap,.slice zf.a zf.len zf.cap] s8.1 x11.len vs12 (λw13 h5=>(k9 (w13,(i64.wrap (s8.2.1+1)),()) h5)) h4)) h4)) h4)) (K s8.1 h4))) (r7,0,()) h3)) h1))) (0,0,()) h)
def z4d(x:TRat)(y:TRat)(K:Bool->Hp->Prop)(h:Hp):Prop:=(zc (zd7 x y) (λr1 h1=>(K (r1==0) h1)) h)
def yl(s1:Sl)(s2:Sl)(K:Bool->Hp->Prop)(h:Hp):Prop:=(ifP ((s1.len:Int) != (s2.len:Int)) (K false h) (zr (S:=Int×Unit) (λs3 k4 h1=>(ifP (decide (s3.1<(s1.len:Int))) (zg s1 s3.1 4 λa5=>(ldL (.bool) (a5.add 0) (λx6_0=>(ldL (.sl) (a5.add 1) (λx6_1=>(ldL (.bool) (a5.add 2) (λx6_2=>(ldL (.sl) (a5.add 3) (λx6_3=>(zg s2 s3.1 4 λa7=>(ldL (.bool) (a7.add 0) (λx8_0=>(ldL (.sl) (a7.add 1) (λx8_1=>(ldL (.bool) (a7.add 2) (λx8_2=>(ldL (.sl) (a7.add 3) (λx8_3=>(zc (z4d (⟨(⟨x6_0,x6_1⟩:TInt),(⟨x6_2,x6_3⟩:TInt)⟩:TRat) (⟨(⟨x8_0,x8_1⟩:TInt),(⟨x8_2,x8_3⟩:TInt)⟩:TRat)) (λr9 h2=>(ifP (!r9) (K false h2) (k4 ((i64.wrap (s3.1+1)),()) h2))) h1)) h1)) h1)) h1)) h1))) h1)) h1)) h1)) h1)) (K true h1))) (0,()) h))
def z62(a:Sl)(b:Sl)(K:Bool->Hp->Prop)(h:Hp):Prop:=(zc (yl a b) (λr1 h1=>(K r1 h1)) h)
def Zs(s1:Sl)(s2:Sl)(K:Bool->Hp->Prop)(h:Hp):Prop:=(ifP ((s1.len:Int) != (s2.len:Int)) (K false h) (zr (S:=Int×Unit) (λs3 k4 h1=>(ifP (decide (s3.1<(s1.len:Int))) (zg s1 s3.1 1 λa5=>(ldL (.sl) a5 (λx6=>(zg s2 s3.1 1 λa7=>(ldL (.sl) a7 (λx8=>(zc (z62 x6 x8) (λr9 h2=>(ifP (!r9) (K false h2) (k4 ((i64.wrap (s3.1+1)),()) h2))) h1)) h1))) h1)) (K true h1))) (0,()) h))
def V8(t:Sl)(u:Sl)(K:Bool->Hp->Prop)(h:Hp):Prop:=(ifP (decide ((u.len:Int)<=(t.len:Int))) (slP t 0 (u.len:Int) 1 λc1=>(zc (Zs c1 u) (λr2 h1=>(K r2 h1)) h)) (K false h))
def z2f(n:Int)(K:Sl->Hp->Prop)(h:Hp):Prop:=(mkP n n 64 [.bool false,.slice zf.a zf.len zf.cap,.bool false,.slice zf.a zf.len zf.cap] (λm1 h1=>(zr (S:=Int×Unit) (λs2 k3 h2=>(ifP (decide (s2.1<(m1.len:Int))) (zc (Y8 0) (λr4 h3=>(zg m1 s2.1 4 λa5=>(stP a5 [.bool r4.num.neg,.slice r4.num.mag.a r4.num.mag.len r4.num.mag.cap,.bool r4.den.neg,.slice r4.den.mag.a r4.den.mag.len r4.den.mag.cap] (λh4=>(k3 ((i64.wrap (s2.1+1)),()) h4)) h3))) h2) (K m1 h2))) (0,()) h1)) h)
def z4v(x:TRat)(K:Bool->Hp->Prop)(h:Hp):Prop:=(zc (qt x) (λr1 h1=>(K (!r1) h1)) h)
def y8(s:Sl)(K:Int->Hp->Prop)(h:Hp):Prop:=(zr (S:=Int×Unit) (λs1 k2 h1=>(ifP (decide (s1.1<(s.len:Int))) (zg s s1.1 4 λa3=>(ldL (.bool) (a3.add 0) (λx4_0=>(ldL (.sl) (a3.add 1) (λx4_1=>(ldL (.bool) (a3.add 2) (λx4_2=>(ldL (.sl) (a3.add 3) (λx4_3=>(zc (z4v (⟨(⟨x4_0,x4_1⟩:TInt),(⟨x4_2,x4_3⟩:TInt)⟩:TRat)) (λr5 h2=>(ifP r5 (K s1.1 h2) (k2 ((i64.wrap (s1.1+1)),()) h2))) h1)) h1)) h1)) h1)) h1)) (K (-1) h1))) (0,()) h)
def yo(s:Sl)(K:Bool->Hp->Prop)(h:Hp):Prop:=(zc (y8 s) (λr1 h1=>(K (decide (r1>=0)) h1)) h)
def V9(l:Sl)(n:Int)(K:Bool->Hp->Prop)(h:Hp):Prop:=(ifP ((l.len:Int)==n) (zc (yo l) (λr1 h1=>(K (!r1) h1)) h) (K false h))
def V5(t:Sl)(K:Bool->Hp->Prop)(h:Hp):Prop:=(zr (S:=Int×Unit) (λs1 k2 h1=>(ifP (decide (s1.1<(t.len:Int))) (zg t s1.1 1 λa3=>(ldL (.sl) a3 (λx4=>(0<=(s1.1:Int) /\ (zc (V9 x4 (i64.wrap (1*2 ^ (min (s1.1:Int).toNat i64.bits)))) (λr5 h2=>(ifP (!r5) (K false h2) (k2 ((i64.wrap (s1.1+1)),()) h2))) h1))) h1)) (K true h1))) (0,()) h)
def z42(t:Sl)(n:TRat)(K:Sl->Hp->Prop)(h:Hp):Prop:=(Zb (S:=Unit) (λs1 h1=>(0<=((t.len:Int):Int) /\ (zc (z2f (i64.wrap (1*2 ^ (min ((t.len:Int):Int).toNat i64.bits)))) (λr3 h2=>(zg r3 0 4 λa4=>(stP a4 [.bool n.num.neg,.slice n.num.mag.a n.num.mag.len n.num.mag.cap,.bool n.den.neg,.slice n.den.mag.a n.den.mag.len n.den.mag.cap] (λh3=>(K r3 h3)) h2))) h1))) (λk2=>(zc (V5 t) (λr5 h4=>(ifP (!r5) (K zf h4) (zc (qt n) (λr6 h5=>(ifP (!r6) (K zf h5) (k2 () h5))) h4))) h)))
def zdc(x:TRat)(K:Bool->Hp->Prop)(h:Hp):Prop:=(zc (Qj x) (λr1 h1=>(K (r1 != 0) h1)) h)
def Qa(s:Sl)(K:Int->Hp->Prop)(h:Hp):Prop:=(zr (S:=Int×Unit) (λs1 k2 h1=>(ifP (decide (s1.1<(s.len:Int))) (zg s s1.1 4 λa3=>(ldL (.bool) (a3.add 0) (λx4_0=>(ldL (.sl) (a3.add 1) (λx4_1=>(ldL (.bool) (a3.add 2) (λx4_2=>(ldL (.sl) (a3.add 3) (λx4_3=>(zc (zdc (⟨(⟨x4_0,x4_1⟩:TInt),(⟨x4_2,x4_3⟩:TInt)⟩:TRat)) (λr5 h2=>(ifP r5 (K s1.1 h2) (k2 ((i64.wrap (s1.1+1)),()) h2))) h1)) h1)) h1)) h1)) h1)) (K (-1) h1))) (0,()) h)
def qj(s:Sl)(K:Bool->Hp->Prop)(h:Hp):Prop:=(zc (Qa s) (λr1 h1=>(K (decide (r1>=0)) h1)) h)
def z8t(a:Sl)(K:Bool->Hp->Prop)(h:Hp):Prop:=(zc (qj a) (λr1 h1=>(K (!r1) h1)) h)
def qz(s:Sl)(K:Sl->Hp->Prop)(h:Hp):Prop:=(ifP s.a.isNone (K zf h) (Yu [] (λp1 h1=>(rdO s.a (s.len*4) (λvs2=>(Y6 4 64 [.bool false,.slice zf.a zf.len zf.cap,.bool false,.slice zf.a zf.len zf.cap] (⟨some p1,0,0⟩:Sl) s.len vs2 (λw3 h2=>(K w3 h2)) h1)) h1)) h))
def z61(t:Sl)(a:Sl)(K:Sl->Hp->Prop)(h:Hp):Prop:=(zc (qz a) (λr1 h1=>(zr (S:=Sl×Unit) (λs2 k3 h2=>(0<=((t.len:Int):Int) /\ (ifP (decide ((s2.1.len:Int)<(i64.wrap (1*2 ^ (min ((t.len:Int):Int).toNat i64.bits))))) (zc (Y8 0) (λr4 h3=>(Y6 4 64 [.bool false,.slice zf.a zf.len zf.cap,.bool false,.slice zf.a zf.len zf.cap] s2.1 1 [.bool r4.num.neg,.slice r4.num.mag.a r4.num.mag.len r4.num.mag.cap,.bool r4.den.neg,.slice r4.den.mag.a r4.den.mag.len r4.den.mag.cap] (λw5 h4=>(k3 (w5,()) h4)) h3)) h2) (K s2.1 h2)))) (r1,()) h1)) h)
def Wq(t:Sl)(a:Sl)(K:Bool->Hp->Prop)(h:Hp):Prop:=(zc (V5 t) (λr1 h1=>(ifP r1 (0<=((t.len:Int):Int) /\ (zc (V9 a (i64.wrap (1*2 ^ (min ((t.len:Int):Int).toNat i64.bits)))) (λr2 h2=>(K r2 h2)) h1)) (K false h1))) h)
def z10(t:Sl)(a:Sl)(b:Sl)(K:Bool->Hp->Prop)(h:Hp):Prop:=(zc (Wq t a) (λr1 h1=>(ifP r1 (0<=((t.len:Int):Int) /\ (zc (V9 b (i64.wrap (1*2 ^ (min ((t.len:Int):Int).toNat i64.bits)))) (λr2 h2=>(K r2 h2)) h1)) (K false h1))) h)
def z73(t:Sl)(K:(Sl×Sl)->Hp->Prop)(h:Hp):Prop:=(slP t 0 (i64.wrap ((t.len:Int)-1)) 1 λc1=>(zg t (i64.wrap ((t.len:Int)-1)) 1 λa2=>(ldL (.sl) a2 (λx3=>(K (c1,x3) h)) h)))
def z31(a:Sl)(K:(Sl×Sl)->Hp->Prop)(h:Hp):Prop:=((2:Int)≠0 /\ (slP a 0 (i64.wrap (((a.len:Int):Int).tdiv 2)) 4 λc1=>((2:Int)≠0 /\ (slP a (i64.wrap (((a.len:Int):Int).tdiv 2)) (a.len:Int) 4 λc2=>(K (c1,c2) h)))))
def z2d(a:Sl)(b:Sl)(K:Sl->Hp->Prop)(h:Hp):Prop:=(mkP (a.len:Int) (a.len:Int) 64 [.bool false,.slice zf.a zf.len zf.cap,.bool false,.slice zf.a zf.len zf.cap] (λm1 h1=>(zr (S:=Int×Unit) (λs2 k3 h2=>(ifP (decide (s2.1<(m1.len:Int))) (zg a s2.1 4 λa4=>(ldL (.bool) (a4.add 0) (λx5_0=>(ldL (.sl) (a4.add 1) (λx5_1=>(ldL (.bool) (a4.add 2) (λx5_2=>(ldL (.sl) (a4.add 3) (λx5_3=>(zg b s2.1 4 λa6=>(ldL (.bool) (a6.add 0) (λx7_0=>(ldL (.sl) (a6.add 1) (λx7_1=>(ldL (.bool) (a6.add 2) (λx7_2=>(ldL (.sl) (a6.add 3) (λx7_3=>(zc (z5e (⟨(⟨x5_0,x5_1⟩:TInt),(⟨x5_2,x5_3⟩:TInt)⟩:TRat) (⟨(⟨x7_0,x7_1⟩:TInt),(⟨x7_2,x7_3⟩:TInt)⟩:TRat)) (λr8 h3=>(zg m1 s2.1 4 λa9=>(stP a9 [.bool r8.num.neg,.slice r8.num.mag.a r8.num.mag.len r8.num.mag.cap,.bool r8.den.neg,.slice r8.den.mag.a r8.den.mag.len r8.den.mag.cap] (λh4=>(k3 ((i64.wrap (s2.1+1)),()) h4)) h3))) h2)) h2)) h2)) h2)) h2))) h2)) h2)) h2)) h2)) (K m1 h2))) (0,()) h1)) h)
def W4:Nat->Sl->Sl->Sl->(Sl->Hp->Prop)->Hp->Prop
 | 0,_,_,_,_,_=>False
 | fuel+1,t,a,b,K,h=>(Zb (S:=Unit) (λs1 h1=>(zc (z73 t) (λr3 h2=>(zc (z31 a) (λr4 h3=>(zc (z31 b) (λr5 h4=>(zc ((W4 fuel) r3.1 r4.1 r5.1) (λr6 h5=>(zc ((W4 fuel) r3.1 r4.2 r5.2) (λr7 h6=>(zc ((W4 fuel) r3.1 r7 r3.2) (λr8 h7=>(zc (z2d r6 r8) (λr9 h8=>(zc ((W4 fuel) r3.1 r4.1 r5.2) (λr10 h9=>(zc ((W4 fuel) r3.1 r4.2 r5.1) (λr11 h10=>(zc (z2d r10 r11) (λr12 h11=>(rdO r12.a (r12.len*4) (λvs13=>(Y6 4 64 [.bool false,.slice zf.a zf.len zf.cap,.bool false,.slice zf.a zf.len zf.cap] r9 r12.len vs13 (λw14 h12=>(K w14 h12)) h11)) h11)) h10)) h9)) h8)) h7)) h6)) h5)) h4)) h3)) h2)) h1)) (λk2=>(ifP ((t.len:Int)==0) (zg a 0 4 λa15=>(ldL (.bool) (a15.add 0) (λx16_0=>(ldL (.sl) (a15.add 1) (λx16_1=>(ldL (.bool) (a15.add 2) (λx16_2=>(ldL (.sl) (a15.add 3) (λx16_3=>(zg b 0 4 λa17=>(ldL (.bool) (a17.add 0) (λx18_0=>(ldL (.sl) (a17.add 1) (λx18_1=>(ldL (.bool) (a17.add 2) (λx18_2=>(ldL (.sl) (a17.add 3) (λx18_3=>(zc (z2r (⟨(⟨x16_0,x16_1⟩:TInt),(⟨x16_2,x16_3⟩:TInt)⟩:TRat) (⟨(⟨x18_0,x18_1⟩:TInt),(⟨x18_2,x18_3⟩:TInt)⟩:TRat)) (λr19 h13=>(Yu [.bool r19.num.neg,.slice r19.num.mag.a r19.num.mag.len r19.num.mag.cap,.bool r19.den.neg,.slice r19.den.mag.a r19.den.mag.len r19.den.mag.cap] (λp20 h14=>(K (⟨some p20,1,1⟩:Sl) h14)) h13)) h)) h)) h)) h)) h))) h)) h)) h)) h)) (zc (z8t a) (λr21 h15=>(ifP r21 (zc (z2f (a.len:Int)) (λr22 h16=>(K r22 h16)) h15) (zc (z8t b) (λr23 h17=>(ifP r23 (zc (z2f (a.len:Int)) (λr24 h18=>(K r24 h18)) h17) (k2 () h17))) h15))) h))))
def z2e(t:Sl)(a:Sl)(b:Sl)(K:Sl->Hp->Prop)(h:Hp):Prop:=∃fuel,W4 fuel t a b K h
def z2c(t:Sl)(a:Sl)(b:Sl)(K:Sl->Hp->Prop)(h:Hp):Prop:=(zc (z10 t a b) (λr1 h1=>(ifP (!r1) (K zf h1) (zc (z2e t a b) (λr2 h2=>(K r2 h2)) h1))) h)
def zkk(t:Sl)(a:Sl)(b:Sl)(K:Sl->Hp->Prop)(h:Hp):Prop:=(zc (z10 t a b) (λr1 h1=>(ifP (!r1) (K zf h1) (zc (z2d a b) (λr2 h2=>(K r2 h2)) h1))) h)
def y_number_embedding_image_:Nat->Tnumber_embedding->Sl->(Sl->Hp->Prop)->Hp->Prop
 | 0,_,_,_,_=>False
 | fuel+1,m,a,K,h=>(ifP ((a.len:Int)==1) (zg a 0 4 λa1=>(ldL (.bool) (a1.add 0) (λx2_0=>(ldL (.sl) (a1.add 1) (λx2_1=>(ldL (.bool) (a1.add 2) (λx2_2=>(ldL (.sl) (a1.add 3) (λx2_3=>(zc (z42 m.into (⟨(⟨x2_0,x2_1⟩:TInt),(⟨x2_2,x2_3⟩:TInt)⟩:TRat)) (λr3 h1=>(K r3 h1)) h)) h)) h)) h)) h)) ((2:Int)≠0 /\ (zr (S:=Int×Unit) (λs4 k5 h2=>(0<=((i64.wrap (s4.1+1)):Int) /\ (ifP (decide ((i64.wrap (1*2 ^ (min ((i64.wrap (s4.1+1)):Int).toNat i64.bits)))<(a.len:Int))) (k5 ((i64.wrap (s4.1+1)),()) h2) (slP a 0 (i64.wrap (((a.len:Int):Int).tdiv 2)) 4 λc6=>(zc ((y_number_embedding_image_ fuel) m c6) (λr7 h3=>(slP a (i64.wrap (((a.len:Int):Int).tdiv 2)) (a.len:Int) 4 λc8=>(zc (z8t c8) (λr9 h4=>(ifP r9 (K r7 h4) (slP a (i64.wrap (((a.len:Int):Int).tdiv 2)) (a.len:Int) 4 λc10=>(zg m.roots s4.1 1 λa11=>(ldL (.sl) a11 (λx12=>(zc ((y_number_embedding_image_ fuel) m c10) (λr13 h5=>(zc (z61 m.into x12) (λr14 h6=>(zc (z2c m.into r13 r14) (λr15 h7=>(zc (zkk m.into r7 r15) (λr16 h8=>(K r16 h8)) h7)) h6)) h5)) h4)) h4))))) h3))) h2))))) (0,()) h)))
def y_number_embedding_image(m:Tnumber_embedding)(a:Sl)(K:Sl->Hp->Prop)(h:Hp):Prop:=∃fuel,y_number_embedding_image_ fuel m a K h
def z7b(t:Sl)(u:Sl)(K:(Tnumber_embedding×Int)->Hp->Prop)(h:Hp):Prop:=(zr (S:=(Sl×Sl×Unit)×(Sl×Sl×Unit)×Int×Unit) (λs1 k2 h1=>(ifP (decide (s1.2.2.1<(u.len:Int))) (zg u s1.2.2.1 1 λa3=>(ldL (.sl) a3 (λx4=>(zc (y_number_embedding_image (⟨s1.2.1.1,s1.2.1.2.1⟩:Tnumber_embedding) x4) (λr5 h2=>False) h1)) h1)) (K ((⟨s1.2.1.1,s1.2.1.2.1⟩:Tnumber_embedding),0) h1))) ((zf,zf,()),(t,zf,()),0,()) h)
def z3z(l:Sl)(K:(Sl×Int)->Hp->Prop)(h:Hp):Prop:=(zr (S:=Sl×Int×Unit) (λs1 k2 h1=>(ifP (decide (s1.2.1<(l.len:Int))) (Zb (S:=Sl×Unit) (λs3 h2=>(k2 (s3.1,(i64.wrap (s1.2.1+1)),()) h2)) (λk4=>(zg l s1.2.1 2 λa5=>(ldL (.sl) (a5.add 0) (λx6_0=>(ldL (.sl) (a5.add 1) (λx6_1=>(zc (V8 s1.1 x6_0) (λr7 h3=>(ifP r7 (k4 (s1.1,()) h3) (zc (V8 x6_0 s1.1) (λr8 h4=>(ifP r8 (k4 (x6_0,()) h4) (zc (z7b s1.1 x6_0) (λr9 h5=>(ifP (r9.2 != 0) (K (zf,r9.2) h5) (k4 (r9.1.into,()) h5))) h4))) h3))) h1)) h1)) h1)))) (K (s1.1,0) h1))) (zf,0,()) h)
def V4(l:Sl)(K:Sl->Hp->Prop)(h:Hp):Prop:=(mkP (l.len:Int) (l.len:Int) 64 [.bool false,.slice zf.a zf.len zf.cap,.bool false,.slice zf.a zf.len zf.cap] (λm1 h1=>(zr (S:=Int×Unit) (λs2 k3 h2=>(ifP (decide (s2.1<(l.len:Int))) (zg l s2.1 4 λa4=>(ldL (.bool) (a4.add 0) (λx5_0=>(ldL (.sl) (a4.add 1) (λx5_1=>(ldL (.bool) (a4.add 2) (λx5_2=>(ldL (.sl) (a4.add 3) (λx5_3=>(zc (z0a (⟨(⟨x5_0,x5_1⟩:TInt),(⟨x5_2,x5_3⟩:TInt)⟩:TRat)) (λr6 h3=>(zg m1 s2.1 4 λa7=>(stP a7 [.bool r6.num.neg,.slice r6.num.mag.a r6.num.mag.len r6.num.mag.cap,.bool r6.den.neg,.slice r6.den.mag.a r6.den.mag.len r6.den.mag.cap] (λh4=>(k3 ((i64.wrap (s2.1+1)),()) h4)) h3))) h2)) h2)) h2)) h2)) h2)) (K m1 h2))) (0,()) h1)) h)
def z1h(a:TNumber)(K:TNumber->Hp->Prop)(h:Hp):Prop:=(zc (V4 a.coefs) (λr1 h1=>(zr (S:=(Sl×Sl×Unit)×Int×Unit) (λs2 k3 h2=>(ifP (decide (s2.2.1<(a.radicands.len:Int))) (zg a.radicands s2.2.1 1 λa4=>(ldL (.sl) a4 (λx5=>(zc (V4 x5) (λr6 h3=>(Y6 1 24 [.slice zf.a zf.len zf.cap] s2.1.1 1 [.slice r6.a r6.len r6.cap] (λw7 h4=>(k3 ((w7,s2.1.2.1,()),(i64.wrap (s2.2.1+1)),()) h4)) h3)) h2)) h2)) (K (⟨s2.1.1,s2.1.2.1⟩:TNumber) h2))) ((zf,r1,()),0,()) h1)) h)
def z27(l:Sl)(K:(Sl×Int)->Hp->Prop)(h:Hp):Prop:=(zc (z3z l) (λr1 h1=>(ifP (r1.2 != 0) (K (zf,r1.2) h1) (zr (S:=Sl×Int×Unit) (λs2 k3 h2=>(ifP (decide (s2.2.1<(l.len:Int))) (zg l s2.2.1 2 λa4=>(ldL (.sl) (a4.add 0) (λx5_0=>(ldL (.sl) (a4.add 1) (λx5_1=>(Zb (S:=(Sl×Sl×Unit)×Unit) (λs6 h3=>(zc (z1h (⟨s6.1.1,s6.1.2.1⟩:TNumber)) (λr8 h4=>(Y6 2 48 [.slice zf.a zf.len zf.cap,.slice zf.a zf.len zf.cap] s2.1 1 [.slice r8.radicands.a r8.radicands.len r8.radicands.cap,.slice r8.coefs.a r8.coefs.len r8.coefs.cap] (λw9 h5=>(k3 (w9,(i64.wrap (s2.2.1+1)),()) h5)) h4)) h3)) (λk7=>(zc (V8 r1.1 x5_0) (λr10 h6=>(ifP r10 (zc (z61 r1.1 x5_1) (λr11 h7=>(k7 ((r1.1,r11,()),()) h7)) h6) (zc (z7b r1.1 x5_0) (λr12 h8=>(ifP (r12.2 != 0) (K (zf,r12.2) h8) (zc (y_number_embedding_image (⟨r12.1.into,r12.1.roots⟩:Tnumber_embedding) x5_1) (λr13 h9=>(k7 ((r1.1,r13,()),()) h9)) h8))) h6))) h2)))) h2)) h2)) (K (s2.1,0) h2))) (zf,0,()) h1))) h)
def z1g(m:Sl)(K:(Sl×Int)->Hp->Prop)(h:Hp):Prop:=(zc (Yo m) (λr1 h1=>(zc (z27 r1) (λr2 h2=>(ifP (r2.2 != 0) (K (zf,r2.2) h2) (mkP (m.len:Int) (m.len:Int) 24 [.slice zf.a zf.len zf.cap] (λm3 h3=>(zr (S:=Sl×Int×Unit) (λs4 k5 h4=>(ifP (decide (s4.2.1<(m.len:Int))) (zg m s4.2.1 1 λa6=>(ldL (.sl) a6 (λx7=>(zxh s4.1 0 (x7.len:Int) (x7.len:Int) 2 λc8=>(slP s4.1 (x7.len:Int) (s4.1.len:Int) 2 λc9=>(zg m3 s4.2.1 1 λa10=>(stP a10 [.slice c8.a c8.len c8.cap] (λh5=>(k5 (c9,(i64.wrap (s4.2.1+1)),()) h5)) h4))))) h4)) (K (m3,0) h4))) (r2.1,0,()) h3)) h2))) h1)) h)
def z3o(a:Sl)(K:Sl->Hp->Prop)(h:Hp):Prop:=(mkP (a.len:Int) (a.len:Int) 64 [.bool false,.slice zf.a zf.len zf.cap,.bool false,.slice zf.a zf.len zf.cap] (λm1 h1=>(zr (S:=Int×Unit) (λs2 k3 h2=>(ifP (decide (s2.1<(a.len:Int))) (zg a s2.1 4 λa4=>(ldL (.bool) (a4.add 0) (λx5_0=>(ldL (.sl) (a4.add 1) (λx5_1=>(ldL (.bool) (a4.add 2) (λx5_2=>(ldL (.sl) (a4.add 3) (λx5_3=>(zc (z5g (⟨(⟨x5_0,x5_1⟩:TInt),(⟨x5_2,x5_3⟩:TInt)⟩:TRat)) (λr6 h3=>(zg m1 s2.1 4 λa7=>(stP a7 [.bool r6.num.neg,.slice r6.num.mag.a r6.num.mag.len r6.num.mag.cap,.bool r6.den.neg,.slice r6.den.mag.a r6.den.mag.len r6.den.mag.cap] (λh4=>(k3 ((i64.wrap (s2.1+1)),()) h4)) h3))) h2)) h2)) h2)) h2)) h2)) (K m1 h2))) (0,()) h1)) h)
def z7w(t:Sl)(a:Sl)(b:Sl)(K:Sl->Hp->Prop)(h:Hp):Prop:=(zc (z10 t a b) (λr1 h1=>(ifP (!r1) (K zf h1) (zc (z3o b) (λr2 h2=>(zc (z2d a r2) (λr3 h3=>(K r3 h3)) h2)) h1))) h)
def Vf:Nat->Sl->Sl->(Int->Hp->Prop)->Hp->Prop
 | 0,_,_,_,_=>False
 | fuel+1,t,a,K,h=>(ifP ((t.len:Int)==0) (zg a 0 4 λa1=>(ldL (.bool) (a1.add 0) (λx2_0=>(ldL (.sl) (a1.add 1) (λx2_1=>(ldL (.bool) (a1.add 2) (λx2_2=>(ldL (.sl) (a1.add 3) (λx2_3=>(zc (Qj (⟨(⟨x2_0,x2_1⟩:TInt),(⟨x2_2,x2_3⟩:TInt)⟩:TRat)) (λr3 h1=>(K r3 h1)) h)) h)) h)) h)) h)) ((2:Int)≠0 /\ (slP t 0 (i64.wrap ((t.len:Int)-1)) 1 λc4=>(slP a 0 (i64.wrap (((a.len:Int):Int).tdiv 2)) 4 λc5=>(slP a (i64.wrap (((a.len:Int):Int).tdiv 2)) (a.len:Int) 4 λc6=>(zc ((Vf fuel) c4 c5) (λr7 h2=>(zc ((Vf fuel) c4 c6) (λr8 h3=>(Zb (S:=Unit) (λs9 h4=>(zg t (i64.wrap ((t.len:Int)-1)) 1 λa11=>(ldL (.sl) a11 (λx12=>(zc (z2c c4 c5 c5) (λr13 h5=>(zc (z2c c4 c6 c6) (λr14 h6=>(zc (z2c c4 x12 r14) (λr15 h7=>(zc (z7w c4 r13 r15) (λr16 h8=>(zc ((Vf fuel) c4 r16) (λr17 h9=>(K (i64.wrap (r7*r17)) h9)) h8)) h7)) h6)) h5)) h4)) h4))) (λk10=>(ifP (r8==0) (K r7 h3) (ifP (r7==r8) (K r7 h3) (ifP (r7==0) (K r8 h3) (k10 () h3))))))) h2)) h))))))
def z8q(t:Sl)(a:Sl)(K:Int->Hp->Prop)(h:Hp):Prop:=∃fuel,Vf fuel t a K h
def zaz(t:Sl)(K:Bool->Hp->Prop)(h:Hp):Prop:=(zc (Y8 0) (λr1 h1=>(zc (z42 t r1) (λr2 h2=>(zc (Wq t r2) (λr3 h3=>(ifP (!r3) (K false h3) (zr (S:=Int×Unit) (λs4 k5 h4=>(ifP (decide (s4.1<(t.len:Int))) (zg t s4.1 1 λa6=>(ldL (.sl) a6 (λx7=>(slP t 0 s4.1 1 λc8=>(zc (z8q c8 x7) (λr9 h5=>(ifP (decide (r9<=0)) (K false h5) (k5 ((i64.wrap (s4.1+1)),()) h5))) h4))) h4)) (K true h4))) (0,()) h3))) h2)) h1)) h)
def zek(t:Sl)(l:Sl)(K:Bool->Hp->Prop)(h:Hp):Prop:=(zr (S:=Int×Unit) (λs1 k2 h1=>(ifP (decide (s1.1<(l.len:Int))) (zg l s1.1 1 λa3=>(ldL (.sl) a3 (λx4=>(zc (Wq t x4) (λr5 h2=>(ifP (!r5) (K false h2) (k2 ((i64.wrap (s1.1+1)),()) h2))) h1)) h1)) (zc (zaz t) (λr6 h3=>(K r6 h3)) h1))) (0,()) h)
def zej(t:Sl)(a:Sl)(K:Int->Hp->Prop)(h:Hp):Prop:=(Yu [.slice a.a a.len a.cap] (λp1 h1=>(zc (zek t (⟨some p1,1,1⟩:Sl)) (λr2 h2=>(ifP (!r2) (K 0 h2) (zc (z8q t a) (λr3 h3=>(K r3 h3)) h2))) h1)) h)
def z29(a:TNumber)(K:Int->Hp->Prop)(h:Hp):Prop:=(zc (zej a.radicands a.coefs) (λr1 h1=>(K r1 h1)) h)
def Vp(row:Sl)(v0:(Option Addr))(K:Bool->Hp->Prop)(h:Hp):Prop:=(ym v0 λp1=>(ldL (.int .i64) p1 (λx2=>(zg row x2 2 λa3=>(ldL (.sl) (a3.add 0) (λx4_0=>(ldL (.sl) (a3.add 1) (λx4_1=>(zc (z29 (⟨x4_0,x4_1⟩:TNumber)) (λr5 h1=>(K (r5 != 0) h1)) h)) h)) h))) h))
def Zm(s:Sl)(f1:(Option Addr×Unit))(K:Int->Hp->Prop)(h:Hp):Prop:=(zr (S:=Int×Unit) (λs1 k2 h1=>(ifP (decide (s1.1<(s.len:Int))) (zg s s1.1 1 λa3=>(ldL (.sl) a3 (λx4=>(zc (Vp x4 f1.1) (λr5 h2=>(ifP r5 (K s1.1 h2) (k2 ((i64.wrap (s1.1+1)),()) h2))) h1)) h1)) (K (-1) h1))) (0,()) h)
def Wx(a:TNumber)(b:TNumber)(K:(TNumber×Int)->Hp->Prop)(h:Hp):Prop:=(Yu [.slice a.radicands.a a.radicands.len a.radicands.cap,.slice a.coefs.a a.coefs.len a.coefs.cap,.slice b.radicands.a b.radicands.len b.radicands.cap,.slice b.coefs.a b.coefs.len b.coefs.cap] (λp1 h1=>(zc (z27 (⟨some p1,2,2⟩:Sl)) (λr2 h2=>(ifP (r2.2 != 0) (K ((⟨zf,zf⟩:TNumber),r2.2) h2) (zg r2.1 0 2 λa3=>(ldL (.sl) (a3.add 0) (λx4=>(zg r2.1 0 2 λa5=>(ldL (.sl) (a5.add 1) (λx6=>(zg r2.1 1 2 λa7=>(ldL (.sl) (a7.add 1) (λx8=>(zc (z2c x4 x6 x8) (λr9 h3=>(K ((⟨x4,r9⟩:TNumber),0) h3)) h2)) h2))) h2))) h2)))) h1)) h)
def z60(a:TNumber)(b:TNumber)(K:(TNumber×Int)->Hp->Prop)(h:Hp):Prop:=(zc (Wx a b) (λr1 h1=>(K ((⟨r1.1.radicands,r1.1.coefs⟩:TNumber),r1.2) h1)) h)
def y_matrix_calc_take(c:(Option Addr))(n:TNumber)(err:Int)(K:TNumber->Hp->Prop)(h:Hp):Prop:=(Zb (S:=Unit) (λs1 h1=>(ifP (err != 0) (zc (X8 0) (λr3 h2=>(K r3 h2)) h1) (K n h1))) (λk2=>(ifP (err != 0) (ym c λp4=>(ldL (.int .i64) (p4.add 0) (λx5=>(ifP (x5==0) (ym c λp6=>(stP (p6.add 0) [.int .i64 err] (λh3=>(k2 () h3)) h)) (k2 () h))) h)) (k2 () h))))
def y_matrix_calc_mul(c:(Option Addr))(a:TNumber)(b:TNumber)(K:TNumber->Hp->Prop)(h:Hp):Prop:=(zc (z60 a b) (λr1 h1=>(zc (y_matrix_calc_take c (⟨r1.1.radicands,r1.1.coefs⟩:TNumber) r1.2) (λr2 h2=>(K r2 h2)) h1)) h)
def zin(t:Sl)(a:Sl)(K:Sl->Hp->Prop)(h:Hp):Prop:=(zc (z73 t) (λr1 h1=>(zc (z31 a) (λr2 h2=>(zc (z2e r1.1 r2.1 r2.1) (λr3 h3=>(zc (z2e r1.1 r2.2 r2.2) (λr4 h4=>(zc (z2e r1.1 r4 r1.2) (λr5 h5=>(zc (z3o r5) (λr6 h6=>(zc (z2d r3 r6) (λr7 h7=>(K r7 h7)) h6)) h5)) h4)) h3)) h2)) h1)) h)
def Vc:Nat->Sl->Sl->((Sl×Bool)->Hp->Prop)->Hp->Prop
 | 0,_,_,_,_=>False
 | fuel+1,t,a,K,h=>(ifP ((t.len:Int)==0) (zg a 0 4 λa1=>(ldL (.bool) (a1.add 0) (λx2_0=>(ldL (.sl) (a1.add 1) (λx2_1=>(ldL (.bool) (a1.add 2) (λx2_2=>(ldL (.sl) (a1.add 3) (λx2_3=>(zc (Y8 1) (λr3 h1=>(zc (z5f r3 (⟨(⟨x2_0,x2_1⟩:TInt),(⟨x2_2,x2_3⟩:TInt)⟩:TRat)) (λr4 h2=>(Yu [.bool r4.1.num.neg,.slice r4.1.num.mag.a r4.1.num.mag.len r4.1.num.mag.cap,.bool r4.1.den.neg,.slice r4.1.den.mag.a r4.1.den.mag.len r4.1.den.mag.cap] (λp5 h3=>(K ((⟨some p5,1,1⟩:Sl),(r4.2==0)) h3)) h2)) h1)) h)) h)) h)) h)) h)) (zc (z73 t) (λr6 h4=>(zc (zin t a) (λr7 h5=>(zc ((Vc fuel) r6.1 r7) (λr8 h6=>(ifP (!r8.2) (K (zf,false) h6) (zc (z31 a) (λr9 h7=>(zc (z2e r6.1 r9.1 r8.1) (λr10 h8=>(zc (z2e r6.1 r9.2 r8.1) (λr11 h9=>(zc (z3o r11) (λr12 h10=>(rdO r12.a (r12.len*4) (λvs13=>(Y6 4 64 [.bool false,.slice zf.a zf.len zf.cap,.bool false,.slice zf.a zf.len zf.cap] r10 r12.len vs13 (λw14 h11=>(K (w14,true) h11)) h10)) h10)) h9)) h8)) h7)) h6))) h5)) h4)) h))
def z7e(t:Sl)(a:Sl)(K:(Sl×Bool)->Hp->Prop)(h:Hp):Prop:=∃fuel,Vc fuel t a K h
def zeo(t:Sl)(a:Sl)(K:(Sl×Int)->Hp->Prop)(h:Hp):Prop:=(zc (Wq t a) (λr1 h1=>(ifP (!r1) (K (zf,1) h1) (zc (z7e t a) (λr2 h2=>(ifP (!r2.2) (K (zf,6) h2) (K (r2.1,0) h2))) h1))) h)
def zc0(a:TNumber)(b:TNumber)(K:(TNumber×Int)->Hp->Prop)(h:Hp):Prop:=(zc (zeo b.radicands b.coefs) (λr1 h1=>(ifP (r1.2 != 0) (K ((⟨zf,zf⟩:TNumber),r1.2) h1) (zc (z60 a (⟨b.radicands,r1.1⟩:TNumber)) (λr2 h2=>(K ((⟨r2.1.radicands,r2.1.coefs⟩:TNumber),r2.2) h2)) h1))) h)
def y_matrix_calc_div(c:(Option Addr))(a:TNumber)(b:TNumber)(K:TNumber->Hp->Prop)(h:Hp):Prop:=(zc (zc0 a b) (λr1 h1=>(zc (y_matrix_calc_take c (⟨r1.1.radicands,r1.1.coefs⟩:TNumber) r1.2) (λr2 h2=>(K r2 h2)) h1)) h)
def Wy(a:TNumber)(b:TNumber)(K:(TNumber×Int)->Hp->Prop)(h:Hp):Prop:=(Yu [.slice a.radicands.a a.radicands.len a.radicands.cap,.slice a.coefs.a a.coefs.len a.coefs.cap,.slice b.radicands.a b.radicands.len b.radicands.cap,.slice b.coefs.a b.coefs.len b.coefs.cap] (λp1 h1=>(zc (z27 (⟨some p1,2,2⟩:Sl)) (λr2 h2=>(ifP (r2.2 != 0) (K ((⟨zf,zf⟩:TNumber),r2.2) h2) (zg r2.1 0 2 λa3=>(ldL (.sl) (a3.add 0) (λx4=>(zg r2.1 0 2 λa5=>(ldL (.sl) (a5.add 1) (λx6=>(zg r2.1 1 2 λa7=>(ldL (.sl) (a7.add 1) (λx8=>(zc (z7w x4 x6 x8) (λr9 h3=>(K ((⟨x4,r9⟩:TNumber),0) h3)) h2)) h2))) h2))) h2)))) h1)) h)
def z8g(a:TNumber)(b:TNumber)(K:(TNumber×Int)->Hp->Prop)(h:Hp):Prop:=(zc (Wy a b) (λr1 h1=>(K ((⟨r1.1.radicands,r1.1.coefs⟩:TNumber),r1.2) h1)) h)
def y_matrix_calc_sub(c:(Option Addr))(a:TNumber)(b:TNumber)(K:TNumber->Hp->Prop)(h:Hp):Prop:=(zc (z8g a b) (λr1 h1=>(zc (y_matrix_calc_take c (⟨r1.1.radicands,r1.1.coefs⟩:TNumber) r1.2) (λr2 h2=>(K r2 h2)) h1)) h)
def y_matrix_calc_subtract(c:(Option Addr))(to:Sl)(row:Sl)(n:TNumber)(from_:Int)(K:Unit->Hp->Prop)(h:Hp):Prop:=(zr (S:=Int×Unit) (λs1 k2 h1=>(ifP (decide (s1.1<(row.len:Int))) (Zb (S:=Unit) (λs3 h2=>(k2 ((i64.wrap (s1.1+1)),()) h2)) (λk4=>(zg row s1.1 2 λa5=>(ldL (.sl) (a5.add 0) (λx6_0=>(ldL (.sl) (a5.add 1) (λx6_1=>(zc (z29 (⟨x6_0,x6_1⟩:TNumber)) (λr7 h3=>(ifP (r7 != 0) (zg to s1.1 2 λa8=>(ldL (.sl) (a8.add 0) (λx9_0=>(ldL (.sl) (a8.add 1) (λx9_1=>(zg row s1.1 2 λa10=>(ldL (.sl) (a10.add 0) (λx11_0=>(ldL (.sl) (a10.add 1) (λx11_1=>(zc (y_matrix_calc_mul c n (⟨x11_0,x11_1⟩:TNumber)) (λr12 h4=>(zc (y_matrix_calc_sub c (⟨x9_0,x9_1⟩:TNumber) r12) (λr13 h5=>(zg to s1.1 2 λa14=>(stP a14 [.slice r13.radicands.a r13.radicands.len r13.radicands.cap,.slice r13.coefs.a r13.coefs.len r13.coefs.cap] (λh6=>(k4 () h6)) h5))) h4)) h3)) h3)) h3))) h3)) h3)) (k4 () h3))) h1)) h1)) h1)))) (K () h1))) (from_,()) h)
def zep(t:Sl)(a:Sl)(K:Sl->Hp->Prop)(h:Hp):Prop:=(zc (Wq t a) (λr1 h1=>(ifP (!r1) (K zf h1) (zc (z3o a) (λr2 h2=>(K r2 h2)) h1))) h)
def z8f(a:TNumber)(K:TNumber->Hp->Prop)(h:Hp):Prop:=(zc (z1h a) (λr1 h1=>(zc (zep r1.radicands r1.coefs) (λr2 h2=>(K (⟨r1.radicands,r2⟩:TNumber) h2)) h1)) h)
def z0q(m:Sl)(K:(Tmatrix_reduced×Int)->Hp->Prop)(h:Hp):Prop:=(zc (z1g m) (λr1 h1=>(ifP (r1.2 != 0) (K ((⟨zf,zf,(⟨zf,zf⟩:TNumber)⟩:Tmatrix_reduced),r1.2) h1) (Yu [.int .i64 0] (λp2 h2=>(zc (X8 1) (λr3 h3=>(zc (X6 m) (λr4 h4=>(zr (S:=(Sl×Sl×Sl×Sl×Unit)×Int×Unit) (λs5 k6 h5=>(ifP (decide (s5.2.1<r4)) (Zb (S:=(Sl×Sl×Sl×Sl×Unit)×Unit) (λs7 h6=>(k6 ((s7.1.1,s7.1.2.1,s7.1.2.2.1,s7.1.2.2.2.1,()),(i64.wrap (s5.2.1+1)),()) h6)) (λk8=>(Yu [.int .i64 0] (λp9 h7=>(stP p9 [.int .i64 s5.2.1] (λh8=>(slP r1.1 (s5.1.2.1.len:Int) (r1.1.len:Int) 1 λc10=>(zc (Zm c10 ((some p9),())) (λr11 h9=>(ifP (decide (r11<0)) (k8 ((s5.1.1,s5.1.2.1,s5.1.2.2.1,s5.1.2.2.2.1,()),()) h9) (Zb (S:=(Sl×Sl×Sl×Sl×Unit)×Unit) (λs12 h10=>(zg r1.1 (s5.1.2.1.len:Int) 1 λa14=>(ldL (.sl) a14 (λx15=>(ldL (.int .i64) p9 (λx16=>(zg x15 x16 2 λa17=>(ldL (.sl) (a17.add 0) (λx18_0=>(ldL (.sl) (a17.add 1) (λx18_1=>(zc (y_matrix_calc_mul (some p2) (⟨s12.1.2.2.1,s12.1.2.2.2.1⟩:TNumber) (⟨x18_0,x18_1⟩:TNumber)) (λr19 h11=>(ldL (.int .i64) p9 (λx20=>(zr (S:=Int×Unit) (λs21 k22 h12=>(zg r1.1 (s5.1.2.1.len:Int) 1 λa23=>(ldL (.sl) a23 (λx24=>(ifP (decide (s21.1<(x24.len:Int))) (zg r1.1 (s5.1.2.1.len:Int) 1 λa25=>(ldL (.sl) a25 (λx26=>(zg r1.1 (s5.1.2.1.len:Int) 1 λa27=>(ldL (.sl) a27 (λx28=>(zg x28 s21.1 2 λa29=>(ldL (.sl) (a29.add 0) (λx30_0=>(ldL (.sl) (a29.add 1) (λx30_1=>(zc (y_matrix_calc_div (some p2) (⟨x30_0,x30_1⟩:TNumber) (⟨x18_0,x18_1⟩:TNumber)) (λr31 h13=>(zg x26 s21.1 2 λa32=>(stP a32 [.slice r31.radicands.a r31.radicands.len r31.radicands.cap,.slice r31.coefs.a r31.coefs.len r31.coefs.cap] (λh14=>(k22 ((i64.wrap (s21.1+1)),()) h14)) h13))) h12)) h12)) h12))) h12))) h12)) (zr (S:=Int×Unit) (λs33 k34 h15=>(ifP (decide (s33.1<(r1.1.len:Int))) (Zb (S:=Unit) (λs35 h16=>(k34 ((i64.wrap (s33.1+1)),()) h16)) (λk36=>(zg r1.1 s33.1 1 λa37=>(ldL (.sl) a37 (λx38=>(ldL (.int .i64) p9 (λx39=>(zg x38 x39 2 λa40=>(ldL (.sl) (a40.add 0) (λx41_0=>(ldL (.sl) (a40.add 1) (λx41_1=>(ifP (s33.1 != (s5.1.2.1.len:Int)) (zc (z29 (⟨x41_0,x41_1⟩:TNumber)) (λr42 h17=>(ifP (r42 != 0) (zg r1.1 (s5.1.2.1.len:Int) 1 λa43=>(ldL (.sl) a43 (λx44=>(ldL (.int .i64) p9 (λx45=>(qg (y_matrix_calc_subtract (some p2) x38 x44 (⟨x41_0,x41_1⟩:TNumber) x45) (λr46 h18=>(k36 () h18)) h17)) h17)) h17)) (k36 () h17))) h15) (k36 () h15))) h15)) h15))) h15)) h15)))) (ldL (.int .i64) p9 (λx47=>(Y6 1 8 [.int .i64 0] s12.1.2.1 1 [.int .i64 x47] (λw48 h19=>(k8 ((s12.1.1,w48,r19.radicands,r19.coefs,()),()) h19)) h15)) h15))) (0,()) h12))) h12))) (x20,()) h11)) h11)) h10)) h10)) h10))) h10)) h10))) (λk13=>(ifP (decide (r11>0)) (zg r1.1 (i64.wrap ((s5.1.2.1.len:Int)+r11)) 1 λa49=>(ldL (.sl) a49 (λx50=>(zg r1.1 (s5.1.2.1.len:Int) 1 λa51=>(ldL (.sl) a51 (λx52=>(zg r1.1 (s5.1.2.1.len:Int) 1 λa53=>(stP a53 [.slice x50.a x50.len x50.cap] (λh20=>(zg r1.1 (i64.wrap ((s5.1.2.1.len:Int)+r11)) 1 λa54=>(stP a54 [.slice x52.a x52.len x52.cap] (λh21=>(zc (z8f (⟨s5.1.2.2.1,s5.1.2.2.2.1⟩:TNumber)) (λr55 h22=>(k13 ((s5.1.1,s5.1.2.1,r55.radicands,r55.coefs,()),()) h22)) h21)) h20))) h9))) h9))) h9)) (k13 ((s5.1.1,s5.1.2.1,s5.1.2.2.1,s5.1.2.2.2.1,()),()) h9)))))) h8))) h7)) h5))) (ldL (.int .i64) (p2.add 0) (λx56=>(ifP (x56 != 0) (ldL (.int .i64) (p2.add 0) (λx57=>(K ((⟨zf,zf,(⟨zf,zf⟩:TNumber)⟩:Tmatrix_reduced),x57) h5)) h5) (K ((⟨s5.1.1,s5.1.2.1,(⟨s5.1.2.2.1,s5.1.2.2.2.1⟩:TNumber)⟩:Tmatrix_reduced),0) h5))) h5))) ((r1.1,zf,r3.radicands,r3.coefs,()),0,()) h4)) h3)) h2)) h1))) h)
def z6u(m:Sl)(K:(Sl×Int)->Hp->Prop)(h:Hp):Prop:=(zc (z2n m) (λr1 h1=>(ifP (!r1) (K (zf,1) h1) (zc (z0p m) (λr2 h2=>(zc (z0q r2) (λr3 h3=>(K (r3.1.pivots,r3.2) h3)) h2)) h1))) h)
def Wc:Nat->TTree->(Sl->Hp->Prop)->Hp->Prop
 | 0,_,_,_=>False
 | fuel+1,t,K,h=>(ifP ((t.parts.len:Int)==0) (Yu [.int .i64 t.a,.int .i64 t.b] (λp1 h1=>(K (⟨some p1,1,1⟩:Sl) h1)) h) (zr (S:=Sl×Int×Unit) (λs2 k3 h2=>(ifP (decide (s2.2.1<(t.parts.len:Int))) (zg t.parts s2.2.1 4 λa4=>(ldL (.int .i64) (a4.add 0) (λx5_0=>(ldL (.int .i64) (a4.add 1) (λx5_1=>(ldL (.int .i64) (a4.add 2) (λx5_2=>(ldL (.sl) (a4.add 3) (λx5_3=>(zc ((Wc fuel) (⟨x5_0,x5_1,x5_2,x5_3⟩:TTree)) (λr6 h3=>(rdO r6.a (r6.len*2) (λvs7=>(Y6 2 16 [.int .i64 0,.int .i64 0] s2.1 r6.len vs7 (λw8 h4=>(k3 (w8,(i64.wrap (s2.2.1+1)),()) h4)) h3)) h3)) h2)) h2)) h2)) h2)) h2)) (K s2.1 h2))) (zf,0,()) h))
def z1m(t:TTree)(K:Sl->Hp->Prop)(h:Hp):Prop:=∃fuel,Wc fuel t K h
def z4x(x:Sl)(K:Unit->Hp->Prop)(h:Hp):Prop:=zfk Z8c 1 Z9f x K h
def Xu(s:Sl)(K:Sl->Hp->Prop)(h:Hp):Prop:=(ifP (decide ((s.len:Int)<2)) (K s h) (zr (S:=Int×Unit) (λs1 k2 h1=>(ifP (decide (s1.1<(s.len:Int))) (zg s s1.1 1 λa3=>(ldL (.int .i64) a3 (λx4=>(zg s (i64.wrap (s1.1-1)) 1 λa5=>(ldL (.int .i64) a5 (λx6=>(ifP (x4==x6) (slP s s1.1 (s.len:Int) 1 λc7=>(zr (S:=Int×Int×Unit) (λs8 k9 h2=>(ifP (decide (s8.2.1<(c7.len:Int))) (Zb (S:=Int×Unit) (λs10 h3=>(k9 (s10.1,(i64.wrap (s8.2.1+1)),()) h3)) (λk11=>(zg c7 s8.2.1 1 λa12=>(ldL (.int .i64) a12 (λx13=>(zg c7 (i64.wrap (s8.2.1-1)) 1 λa14=>(ldL (.int .i64) a14 (λx15=>(ifP (x13 != x15) (zg c7 s8.2.1 1 λa16=>(ldL (.int .i64) a16 (λx17=>(zg s s8.1 1 λa18=>(stP a18 [.int .i64 x17] (λh4=>(k11 ((i64.wrap (s8.1+1)),()) h4)) h2))) h2)) (k11 (s8.1,()) h2))) h2))) h2)))) (slP s s8.1 (s.len:Int) 1 λc19=>(zl0 c19 [.int .i64 0] (λh5=>(slP s 0 s8.1 1 λc20=>(K c20 h5))) h2)))) (s1.1,1,()) h1)) (k2 ((i64.wrap (s1.1+1)),()) h1))) h1))) h1)) (K s h1))) (1,()) h))
def Qs(t:TTree)(K:Sl->Hp->Prop)(h:Hp):Prop:=(zc (z1m t) (λr1 h1=>(zr (S:=Sl×Int×Unit) (λs2 k3 h2=>(ifP (decide (s2.2.1<(r1.len:Int))) (zg r1 s2.2.1 2 λa4=>(ldL (.int .i64) (a4.add 0) (λx5_0=>(ldL (.int .i64) (a4.add 1) (λx5_1=>(Y6 1 8 [.int .i64 0] s2.1 2 [.int .i64 x5_0,.int .i64 x5_1] (λw6 h3=>(k3 (w6,(i64.wrap (s2.2.1+1)),()) h3)) h2)) h2)) h2)) (qg (z4x s2.1) (λr7 h4=>(qg (Xu s2.1) (λr8 h5=>(K r8 h5)) h4)) h2))) (zf,0,()) h1)) h)
def W7(a:Sl)(b:Sl)(K:(Int×Bool)->Hp->Prop)(h:Hp):Prop:=(zr (S:=Sl×Int×Unit) (λs1 k2 h1=>(ifP (decide (s1.2.1<(a.len:Int))) (Zb (S:=Sl×Unit) (λs3 h2=>(k2 (s3.1,(i64.wrap (s1.2.1+1)),()) h2)) (λk4=>(zg a s1.2.1 1 λa5=>(ldL (.int .i64) a5 (λx6=>(zc (Z2 b x6) (λr7 h3=>(ifP r7 (Y6 1 8 [.int .i64 0] s1.1 1 [.int .i64 x6] (λw8 h4=>(k4 (w8,()) h4)) h3) (k4 (s1.1,()) h3))) h1)) h1)))) (ifP ((s1.1.len:Int) != 1) (K (0,false) h1) (zg s1.1 0 1 λa9=>(ldL (.int .i64) a9 (λx10=>(K (x10,true) h1)) h1))))) (zf,0,()) h)
def z0h(l:Sl)(K:Bool->Hp->Prop)(h:Hp):Prop:=(zr (S:=Int×Unit) (λs1 k2 h1=>(ifP (decide (s1.1<(l.len:Int))) (Zb (S:=Unit) (λs3 h2=>(k2 ((i64.wrap (s1.1+1)),()) h2)) (λk4=>(zg l s1.1 1 λa5=>(ldL (.int .i64) a5 (λx6=>(ifP (decide (x6<0)) (K false h1) (ifP (decide (s1.1>0)) (zg l (i64.wrap (s1.1-1)) 1 λa7=>(ldL (.int .i64) a7 (λx8=>(ifP (decide (x8>=x6)) (K false h1) (k4 () h1))) h1)) (k4 () h1)))) h1)))) (K true h1))) (0,()) h)
def z3t(a:Sl)(b:Sl)(c:Sl)(K:(Int×Int×Int×Bool)->Hp->Prop)(h:Hp):Prop:=(zc (W7 a b) (λr1 h1=>(zc (W7 b c) (λr2 h2=>(zc (W7 a c) (λr3 h3=>(Zb (S:=Unit) (λs4 h4=>(K (r1.1,r2.1,r3.1,true) h4)) (λk5=>(ifP (!r1.2) (K (0,0,0,false) h3) (ifP (!r2.2) (K (0,0,0,false) h3) (ifP (!r3.2) (K (0,0,0,false) h3) (ifP (r1.1==r2.1) (K (0,0,0,false) h3) (ifP (r2.1==r3.1) (K (0,0,0,false) h3) (ifP (r1.1==r3.1) (K (0,0,0,false) h3) (zc (z0h a) (λr6 h5=>(ifP (!r6) (K (0,0,0,false) h5) (zc (z0h b) (λr7 h6=>(ifP (!r7) (K (0,0,0,false) h6) (zc (z0h c) (λr8 h7=>(ifP (!r8) (K (0,0,0,false) h7) (k5 () h7))) h6))) h5))) h3)))))))))) h2)) h1)) h)
def z0f(a:TTree)(b:TTree)(c:TTree)(K:(TTree×Bool)->Hp->Prop)(h:Hp):Prop:=(zc (Qs a) (λr1 h1=>(zc (Qs b) (λr2 h2=>(zc (Qs c) (λr3 h3=>(zc (z3t r1 r2 r3) (λr4 h4=>(Yu [.int .i64 a.a,.int .i64 a.b,.int .i64 a.c,.slice a.parts.a a.parts.len a.parts.cap,.int .i64 b.a,.int .i64 b.b,.int .i64 b.c,.slice b.parts.a b.parts.len b.parts.cap,.int .i64 c.a,.int .i64 c.b,.int .i64 c.c,.slice c.parts.a c.parts.len c.parts.cap] (λp5 h5=>(K ((⟨r4.2.2.1,r4.1,r4.2.1,(⟨some p5,3,3⟩:Sl)⟩:TTree),r4.2.2.2) h5)) h4)) h3)) h2)) h1)) h)
def z43(l:Sl)(K:(Sl×Bool)->Hp->Prop)(h:Hp):Prop:=(zr (S:=Int×Unit) (λs1 k2 h1=>(ifP (decide (s1.1<(l.len:Int))) (zr (S:=Int×Unit) (λs3 k4 h2=>(ifP (decide (s3.1<(l.len:Int))) (zr (S:=Int×Unit) (λs5 k6 h3=>(ifP (decide (s5.1<(l.len:Int))) (zg l s1.1 4 λa7=>(ldL (.int .i64) (a7.add 0) (λx8_0=>(ldL (.int .i64) (a7.add 1) (λx8_1=>(ldL (.int .i64) (a7.add 2) (λx8_2=>(ldL (.sl) (a7.add 3) (λx8_3=>(zg l s3.1 4 λa9=>(ldL (.int .i64) (a9.add 0) (λx10_0=>(ldL (.int .i64) (a9.add 1) (λx10_1=>(ldL (.int .i64) (a9.add 2) (λx10_2=>(ldL (.sl) (a9.add 3) (λx10_3=>(zg l s5.1 4 λa11=>(ldL (.int .i64) (a11.add 0) (λx12_0=>(ldL (.int .i64) (a11.add 1) (λx12_1=>(ldL (.int .i64) (a11.add 2) (λx12_2=>(ldL (.sl) (a11.add 3) (λx12_3=>(zc (z0f (⟨x8_0,x8_1,x8_2,x8_3⟩:TTree) (⟨x10_0,x10_1,x10_2,x10_3⟩:TTree) (⟨x12_0,x12_1,x12_2,x12_3⟩:TTree)) (λr13 h4=>(ifP (!r13.2) (k6 ((i64.wrap (s5.1+1)),()) h4) (Yu [.int .i64 r13.1.a,.int .i64 r13.1.b,.int .i64 r13.1.c,.slice r13.1.parts.a r13.1.parts.len r13.1.parts.cap] (λp14 h5=>(zr (S:=Sl×Int×Unit) (λs15 k16 h6=>(ifP (decide (s15.2.1<(l.len:Int))) (Zb (S:=Sl×Unit) (λs17 h7=>(k16 (s17.1,(i64.wrap (s15.2.1+1)),()) h7)) (λk18=>(zg l s15.2.1 4 λa19=>(ldL (.int .i64) (a19.add 0) (λx20_0=>(ldL (.int .i64) (a19.add 1) (λx20_1=>(ldL (.int .i64) (a19.add 2) (λx20_2=>(ldL (.sl) (a19.add 3) (λx20_3=>(ifP (s15.2.1 != s1.1) (ifP (s15.2.1 != s3.1) (ifP (s15.2.1 != s5.1) (Y6 4 48 [.int .i64 0,.int .i64 0,.int .i64 0,.slice zf.a zf.len zf.cap] s15.1 1 [.int .i64 x20_0,.int .i64 x20_1,.int .i64 x20_2,.slice x20_3.a x20_3.len x20_3.cap] (λw21 h8=>(k18 (w21,()) h8)) h6) (k18 (s15.1,()) h6)) (k18 (s15.1,()) h6)) (k18 (s15.1,()) h6))) h6)) h6)) h6)) h6)))) (K (s15.1,true) h6))) ((⟨some p14,1,1⟩:Sl),0,()) h5)) h4))) h3)) h3)) h3)) h3)) h3))) h3)) h3)) h3)) h3))) h3)) h3)) h3)) h3)) (k4 ((i64.wrap (s3.1+1)),()) h3))) ((i64.wrap (s3.1+1)),()) h2) (k2 ((i64.wrap (s1.1+1)),()) h2))) ((i64.wrap (s1.1+1)),()) h1) (K (l,false) h1))) (0,()) h)
def z0d(g:TGraph)(K:(TTree×Int)->Hp->Prop)(h:Hp):Prop:=(zc (Xd g) (λr1 h1=>(ifP (!r1) (K ((⟨0,0,0,zf⟩:TTree),1) h1) (ifP (decide (g.n>12)) (K ((⟨0,0,0,zf⟩:TTree),3) h1) (zr (S:=Sl×Int×Unit) (λs2 k3 h2=>(ifP (decide (s2.2.1<(g.edges.len:Int))) (zg g.edges s2.2.1 2 λa4=>(ldL (.int .i64) (a4.add 0) (λx5_0=>(ldL (.int .i64) (a4.add 1) (λx5_1=>(Y6 4 48 [.int .i64 0,.int .i64 0,.int .i64 0,.slice zf.a zf.len zf.cap] s2.1 1 [.int .i64 x5_0,.int .i64 x5_1,.int .i64 0,.slice zf.a zf.len zf.cap] (λw6 h3=>(k3 (w6,(i64.wrap (s2.2.1+1)),()) h3)) h2)) h2)) h2)) (zr (S:=Sl×Bool×Unit) (λs7 k8 h4=>(ifP s7.2.1 (zc (z43 s7.1) (λr9 h5=>(k8 (r9.1,r9.2,()) h5)) h4) (Zb (S:=(Int×Int×Int×Sl×Unit)×Unit) (λs10 h6=>(zg s7.1 0 4 λa12=>(ldL (.int .i64) (a12.add 0) (λx13_0=>(ldL (.int .i64) (a12.add 1) (λx13_1=>(ldL (.int .i64) (a12.add 2) (λx13_2=>(ldL (.sl) (a12.add 3) (λx13_3=>(K ((⟨x13_0,x13_1,x13_2,x13_3⟩:TTree),0) h6)) h6)) h6)) h6)) h6))) (λk11=>(ifP ((s7.1.len:Int) != 1) (K ((⟨0,0,0,zf⟩:TTree),13) h4) (zg s7.1 0 4 λa14=>(ldL (.int .i64) (a14.add 0) (λx15_0=>(ldL (.int .i64) (a14.add 1) (λx15_1=>(ldL (.int .i64) (a14.add 2) (λx15_2=>(ldL (.sl) (a14.add 3) (λx15_3=>(zc (Qs (⟨x15_0,x15_1,x15_2,x15_3⟩:TTree)) (λr16 h7=>(ifP ((r16.len:Int) != g.n) (K ((⟨0,0,0,zf⟩:TTree),13) h7) (k11 ((0,0,0,zf,()),()) h7))) h4)) h4)) h4)) h4)) h4))))))) (s2.1,true,()) h2))) (zf,0,()) h1)))) h)
def z63(g:TGraph)(K:Int->Hp->Prop)(h:Hp):Prop:=(zc (Xd g) (λr1 h1=>(ifP (!r1) (K 0 h1) (zc (Q0 g) (λr2 h2=>(K (i64.wrap ((i64.wrap (2*g.n))-(r2.len:Int))) h2)) h1))) h)
def z2q(g:TGraph)(K:Bool->Hp->Prop)(h:Hp):Prop:=(zc (Xd g) (λr1 h1=>(ifP r1 (ifP (decide (g.n<=1)) (K true h1) (zc (z63 g) (λr2 h2=>(K (r2==3) h2)) h1)) (K false h1))) h)
def Vv(s1:Sl)(s2:Sl)(K:Int->Hp->Prop)(h:Hp):Prop:=(zr (S:=Int×Unit) (λs3 k4 h1=>(ifP (decide (s3.1<(s1.len:Int))) (zg s1 s3.1 1 λa5=>(ldL (.int .i64) a5 (λx6=>(ifP (decide (s3.1>=(s2.len:Int))) (K 1 h1) (zg s2 s3.1 1 λa7=>(ldL (.int .i64) a7 (λx8=>(zc (Qr x6 x8) (λr9 h2=>(ifP (r9 != 0) (K r9 h2) (k4 ((i64.wrap (s3.1+1)),()) h2))) h1)) h1)))) h1)) (ifP (decide ((s1.len:Int)<(s2.len:Int))) (K (-1) h1) (K 0 h1)))) (0,()) h)
def z16(a:A2_Int)(b:A2_Int)(K:Int->Hp->Prop)(h:Hp):Prop:=(Yu [.int .i64 a.c0,.int .i64 a.c1] (λp1 h1=>(Yu [.int .i64 b.c0,.int .i64 b.c1] (λp2 h2=>(slP (⟨some p1,2,2⟩:Sl) 0 2 1 λc3=>(slP (⟨some p2,2,2⟩:Sl) 0 2 1 λc4=>(zc (Vv c3 c4) (λr5 h3=>(K r5 h3)) h2)))) h1)) h)
def qn(x:Sl)(K:Unit->Hp->Prop)(h:Hp):Prop:=zfk Xy 2 zij x K h
def Q7(s1:Sl)(s2:Sl)(K:Bool->Hp->Prop)(h:Hp):Prop:=(ifP ((s1.len:Int) != (s2.len:Int)) (K false h) (zr (S:=Int×Unit) (λs3 k4 h1=>(ifP (decide (s3.1<(s1.len:Int))) (zg s1 s3.1 2 λa5=>(ldL (.int .i64) (a5.add 0) (λx6_0=>(ldL (.int .i64) (a5.add 1) (λx6_1=>(zg s2 s3.1 2 λa7=>(ldL (.int .i64) (a7.add 0) (λx8_0=>(ldL (.int .i64) (a7.add 1) (λx8_1=>(ifP (!(x6_0==x8_0&&x6_1==x8_1)) (K false h1) (k4 ((i64.wrap (s3.1+1)),()) h1))) h1)) h1))) h1)) h1)) (K true h1))) (0,()) h))
def z3p(Zlg:TTree->(Bool->Hp->Prop)->Hp->Prop)(p:TTree)(K:Bool->Hp->Prop)(h:Hp):Prop:=(zc (Zlg p) (λr1 h1=>(K (!r1) h1)) h)
def yq(Zlg:TTree->(Bool->Hp->Prop)->Hp->Prop)(s:Sl)(K:Int->Hp->Prop)(h:Hp):Prop:=(zr (S:=Int×Unit) (λs1 k2 h1=>(ifP (decide (s1.1<(s.len:Int))) (zg s s1.1 4 λa3=>(ldL (.int .i64) (a3.add 0) (λx4_0=>(ldL (.int .i64) (a3.add 1) (λx4_1=>(ldL (.int .i64) (a3.add 2) (λx4_2=>(ldL (.sl) (a3.add 3) (λx4_3=>(zc ((z3p Zlg) (⟨x4_0,x4_1,x4_2,x4_3⟩:TTree)) (λr5 h2=>(ifP r5 (K s1.1 h2) (k2 ((i64.wrap (s1.1+1)),()) h2))) h1)) h1)) h1)) h1)) h1)) (K (-1) h1))) (0,()) h)
def yd(Zlg:TTree->(Bool->Hp->Prop)->Hp->Prop)(s:Sl)(K:Bool->Hp->Prop)(h:Hp):Prop:=(zc ((yq Zlg) s) (λr1 h1=>(K (decide (r1>=0)) h1)) h)
def Qt:Nat->TTree->(Bool->Hp->Prop)->Hp->Prop
 | 0,_,_,_=>False
 | fuel+1,t,K,h=>(ifP ((t.parts.len:Int)==0) (K true h) (Zb (S:=Unit) (λs1 h1=>(zg t.parts 0 4 λa3=>(ldL (.int .i64) (a3.add 0) (λx4_0=>(ldL (.int .i64) (a3.add 1) (λx4_1=>(ldL (.int .i64) (a3.add 2) (λx4_2=>(ldL (.sl) (a3.add 3) (λx4_3=>(zg t.parts 1 4 λa5=>(ldL (.int .i64) (a5.add 0) (λx6_0=>(ldL (.int .i64) (a5.add 1) (λx6_1=>(ldL (.int .i64) (a5.add 2) (λx6_2=>(ldL (.sl) (a5.add 3) (λx6_3=>(zg t.parts 2 4 λa7=>(ldL (.int .i64) (a7.add 0) (λx8_0=>(ldL (.int .i64) (a7.add 1) (λx8_1=>(ldL (.int .i64) (a7.add 2) (λx8_2=>(ldL (.sl) (a7.add 3) (λx8_3=>(zc (z0f (⟨x4_0,x4_1,x4_2,x4_3⟩:TTree) (⟨x6_0,x6_1,x6_2,x6_3⟩:TTree) (⟨x8_0,x8_1,x8_2,x8_3⟩:TTree)) (λr9 h2=>(ifP r9.2 (ifP (r9.1.a==t.a) (ifP (r9.1.b==t.b) (K (r9.1.c==t.c) h2) (K false h2)) (K false h2)) (K false h2))) h1)) h1)) h1)) h1)) h1))) h1)) h1)) h1)) h1))) h1)) h1)) h1)) h1))) (λk2=>(ifP ((t.parts.len:Int) != 3) (K false h) (zc ((yd (Qt fuel)) t.parts) (λr10 h3=>(ifP r10 (K false h3) (k2 () h3))) h)))))
def z6i(t:TTree)(K:Bool->Hp->Prop)(h:Hp):Prop:=∃fuel,Qt fuel t K h
def z32(g:TGraph)(t:TTree)(K:Bool->Hp->Prop)(h:Hp):Prop:=(zc (z1m t) (λr1 h1=>(qg (qn r1) (λr2 h2=>(zc (Q7 r1 g.edges) (λr3 h3=>(ifP r3 (zc (Qs t) (λr4 h4=>(ifP ((r4.len:Int)==g.n) (zc (z6i t) (λr5 h5=>(K r5 h5)) h4) (K false h4))) h3) (K false h3))) h2)) h1)) h)
def z0e(g:TGraph)(t:TTree)(K:Bool->Hp->Prop)(h:Hp):Prop:=(zc (Xd g) (λr1 h1=>(ifP r1 (ifP (decide (g.n<=12)) (zc (z32 g t) (λr2 h2=>(K r2 h2)) h1) (K false h1)) (K false h1))) h)
def Xi(K:Bool->Hp->Prop)(h:Hp):Prop:=(zc (z0z) (λr1 h1=>(Yu [.int .i8 0,.int .i8 0,.int .i8 2,.int .i8 0,.int .i8 1,.int .i8 2,.int .i8 3,.int .i8 2] (λp2 h2=>(zc (z41 r1 (⟨some p2,4,4⟩:Sl)) (λr3 h3=>(zc (z6u r3) (λr4 h4=>(zc (z0d r1) (λr5 h5=>(ifP (r4.2==0) (ifP ((r4.1.len:Int)==5) (zc (z2q r1) (λr6 h6=>(ifP r6 (ifP (r5.2==0) (zc (z0e r1 (⟨r5.1.a,r5.1.b,r5.1.c,r5.1.parts⟩:TTree)) (λr7 h7=>(ifP r7 (zc (z1u r1 (⟨some p2,4,4⟩:Sl)) (λr8 h8=>(zc (Vj r8) (λr9 h9=>(ifP r9 (zc (z87 r1) (λr10 h10=>(K ((r10.len:Int)==0) h10)) h9) (K false h9))) h8)) h7) (K false h7))) h6) (K false h6)) (K false h6))) h5) (K false h5)) (K false h5))) h4)) h3)) h2)) h1)) h)
def zav(g:TGraph)(K:Bool->Hp->Prop)(h:Hp):Prop:=(ifP (decide (g.n<=8)) (K (decide ((g.edges.len:Int)<=20)) h) (K false h))
def qv(s:Sl)(K:Sl->Hp->Prop)(h:Hp):Prop:=(ifP s.a.isNone (K zf h) (Yu [] (λp1 h1=>(rdO s.a (s.len*2) (λvs2=>(Y6 2 16 [.int .i64 0,.int .i64 0] (⟨some p1,0,0⟩:Sl) s.len vs2 (λw3 h2=>(K w3 h2)) h1)) h1)) h))
def y_pebble_assignment_assign_:Nat->(Option Addr)->Int->Sl->(Bool->Hp->Prop)->Hp->Prop
 | 0,_,_,_,_,_=>False
 | fuel+1,x,i,visited,K,h=>(ym x λp1=>(ldL (.sl) (p1.add 0) (λx2=>(zg x2 i 2 λa3=>(ldL (.int .i64) (a3.add 0) (λx4_0=>(ldL (.int .i64) (a3.add 1) (λx4_1=>(zr (S:=Int×Unit) (λs5 k6 h1=>(ifP (decide (s5.1<2)) (Zb (S:=Unit) (λs7 h2=>(k6 ((i64.wrap (s5.1+1)),()) h2)) (λk8=>(z9k s5.1 2 (∃x9:(Lf.int .i64).T,([.int .i64 x4_0,.int .i64 x4_1]:List Value)[(s5.1:Int).toNat*1]?=some (.int .i64 x9) /\ (zg visited x9 1 λa10=>(ldL (.bool) a10 (λx11=>(ifP x11 (k8 () h1) (zg visited x9 1 λa12=>(stP a12 [.bool true] (λh3=>(ym x λp13=>(ldL (.sl) (p13.add 2) (λx14=>(zg x14 x9 1 λa15=>(ldL (.sl) a15 (λx16=>(ifP (decide ((x16.len:Int)<2)) (ym x λp17=>(ldL (.sl) (p17.add 2) (λx18=>(ym x λp19=>(ldL (.sl) (p19.add 2) (λx20=>(zg x20 x9 1 λa21=>(ldL (.sl) a21 (λx22=>(Y6 1 8 [.int .i64 0] x22 1 [.int .i64 i] (λw23 h4=>((ldL (.sl) (p17.add 2) (λx24=>(((.slice x24.a x24.len x24.cap):Value)=((.slice x18.a x18.len x18.cap):Value))) h4) /\ (zg x18 x9 1 λa25=>(stP a25 [.slice w23.a w23.len w23.cap] (λh5=>(ym x λp26=>(ldL (.sl) (p26.add 1) (λx27=>(zg x27 i 1 λa28=>(stP a28 [.int .i64 x9] (λh6=>(K true h6)) h5))) h5))) h4)))) h3)) h3))) h3))) h3)) (ym x λp29=>(ldL (.sl) (p29.add 2) (λx30=>(zg x30 x9 1 λa31=>(ldL (.sl) a31 (λx32=>(zr (S:=Int×Unit) (λs33 k34 h7=>(ifP (decide (s33.1<(x32.len:Int))) (zg x32 s33.1 1 λa35=>(ldL (.int .i64) a35 (λx36=>(qg ((y_pebble_assignment_assign_ fuel) x x36 visited) (λr37 h8=>(ifP r37 (ym x λp38=>(ldL (.sl) (p38.add 2) (λx39=>(zg x39 x9 1 λa40=>(ldL (.sl) a40 (λx41=>(zg x41 s33.1 1 λa42=>(stP a42 [.int .i64 i] (λh9=>(ym x λp43=>(ldL (.sl) (p43.add 1) (λx44=>(zg x44 i 1 λa45=>(stP a45 [.int .i64 x9] (λh10=>(K true h10)) h9))) h9))) h8))) h8))) h8)) (k34 ((i64.wrap (s33.1+1)),()) h8))) h7)) h7)) (k8 () h7))) (0,()) h3)) h3))) h3)))) h3))) h3))) h1)))) h1)))))) (K false h1))) (0,()) h)) h)) h))) h))
def y_pebble_assignment_assign(x:(Option Addr))(i:Int)(visited:Sl)(K:Bool->Hp->Prop)(h:Hp):Prop:=∃fuel,y_pebble_assignment_assign_ fuel x i visited K h
def z5d(n:Int)(edges:Sl)(K:(Sl×Bool)->Hp->Prop)(h:Hp):Prop:=(mkP (edges.len:Int) (edges.len:Int) 8 [.int .i64 0] (λm1 h1=>(mkP n n 24 [.slice zf.a zf.len zf.cap] (λm2 h2=>(Yu [.slice edges.a edges.len edges.cap,.slice m1.a m1.len m1.cap,.slice m2.a m2.len m2.cap] (λp3 h3=>(zr (S:=Int×Unit) (λs4 k5 h4=>(ifP (decide (s4.1<(edges.len:Int))) (mkP n n 1 [.bool false] (λm6 h5=>(qg (y_pebble_assignment_assign (some p3) s4.1 m6) (λr7 h6=>(ifP (!r7) (K (zf,false) h6) (k5 ((i64.wrap (s4.1+1)),()) h6))) h5)) h4) (ldL (.sl) (p3.add 1) (λx8=>(K (x8,true) h4)) h4))) (0,()) h3)) h2)) h1)) h)
def Vs(g:TGraph)(K:(Sl×Bool)->Hp->Prop)(h:Hp):Prop:=(Zb (S:=Unit) (λs1 h1=>(zr (S:=Sl×Int×Unit) (λs3 k4 h2=>(ifP (decide (s3.2.1<(g.edges.len:Int))) (zg g.edges s3.2.1 2 λa5=>(ldL (.int .i64) (a5.add 0) (λx6_0=>(ldL (.int .i64) (a5.add 1) (λx6_1=>(zc (qv g.edges) (λr7 h3=>(Y6 2 16 [.int .i64 0,.int .i64 0] r7 3 [.int .i64 x6_0,.int .i64 x6_1,.int .i64 x6_0,.int .i64 x6_1,.int .i64 x6_0,.int .i64 x6_1] (λw8 h4=>(zc (z5d g.n w8) (λr9 h5=>(ifP (!r9.2) (K (zf,false) h5) (Y6 1 24 [.slice zf.a zf.len zf.cap] s3.1 1 [.slice r9.1.a r9.1.len r9.1.cap] (λw10 h6=>(k4 (w10,(i64.wrap (s3.2.1+1)),()) h6)) h5))) h4)) h3)) h2)) h2)) h2)) (K (s3.1,true) h2))) (zf,0,()) h1)) (λk2=>(zc (Xd g) (λr11 h7=>(ifP (!r11) (K (zf,false) h7) (zc (Q0 g) (λr12 h8=>(ifP (decide ((r12.len:Int)<(g.edges.len:Int))) (K (zf,false) h8) (k2 () h8))) h7))) h)))
def Qw(s:Sl)(i:Int)(j:Int)(K:Sl->Hp->Prop)(h:Hp):Prop:=(zxh s i j (s.len:Int) 2 λc1=>(ifP (i==j) (K s h) (slP s 0 i 2 λc2=>(slP s j (s.len:Int) 2 λc3=>(rdO c3.a (c3.len*2) (λvs4=>(Y6 2 16 [.int .i64 0,.int .i64 0] c2 c3.len vs4 (λw5 h1=>(slP w5 (w5.len:Int) (s.len:Int) 2 λc6=>(zl0 c6 [.int .i64 0,.int .i64 0] (λh2=>(K w5 h2)) h1))) h)) h)))))
def z0v(g:TGraph)(K:Sl->Hp->Prop)(h:Hp):Prop:=(zc (Xd g) (λr1 h1=>(ifP (!r1) (K zf h1) (zc (Q0 g) (λr2 h2=>(zr (S:=Sl×Int×Unit) (λs3 k4 h3=>(ifP (decide (s3.2.1<(g.edges.len:Int))) (Zb (S:=Sl×Unit) (λs5 h4=>(k4 (s5.1,(i64.wrap (s3.2.1+1)),()) h4)) (λk6=>(zc (qv g.edges) (λr7 h5=>(qg (Qw r7 s3.2.1 (i64.wrap (s3.2.1+1))) (λr8 h6=>(zc (z4e g.n r8) (λr9 h7=>(ifP ((r9.1.len:Int)==(r2.len:Int)) (Y6 1 8 [.int .i64 0] s3.1 1 [.int .i64 s3.2.1] (λw10 h8=>(k6 (w10,()) h8)) h7) (k6 (s3.1,()) h7))) h6)) h5)) h3))) (K s3.1 h3))) (zf,0,()) h2)) h1))) h)
def z4u(g:TGraph)(K:Bool->Hp->Prop)(h:Hp):Prop:=(Zb (S:=Unit) (λs1 h1=>(zc (z0d g) (λr3 h2=>(ifP (r3.2 != 0) (K true h2) (zc (Vs g) (λr4 h3=>(zc (z0e g (⟨r3.1.a,r3.1.b,r3.1.c,r3.1.parts⟩:TTree)) (λr5 h4=>(ifP r5 (zc (z2q g) (λr6 h5=>(ifP r6 (ifP ((g.edges.len:Int)==(i64.wrap ((i64.wrap (2*g.n))-3))) (ifP r4.2 (zc (z0v g) (λr7 h6=>(K ((r7.len:Int)==0) h6)) h5) (K false h5)) (K false h5)) (K false h5))) h4) (K false h4))) h3)) h2))) h1)) (λk2=>(zc (Xi) (λr8 h7=>(ifP (!r8) (zc (Xi) (λr9 h8=>(K r9 h8)) h7) (zc (zav g) (λr10 h9=>(ifP (!r10) (zc (Xi) (λr11 h10=>(K r11 h10)) h9) (zc (z4h g) (λr12 h11=>(ifP (!r12) (zc (Xi) (λr13 h12=>(K r13 h12)) h11) (k2 () h11))) h9))) h7))) h)))
end F
end Den
end

noncomputable section
namespace Den
open Go
namespace STy
abbrev i:STy:=.leaf (.int .i64)
abbrev s:STy:=.leaf .sl
abbrev b:STy:=.leaf .bool
end STy
abbrev t2{α β:Type}(a:Ty α)(b:Ty β):Ty (α×β):=Ty.tup (.cons a (.cons b .nil)) (λx=>(x.1,x.2,())) (λy=>(y.1,y.2.1)) (λ_=>rfl) (λ_=>rfl)
abbrev t3{α β γ:Type}(a:Ty α)(b:Ty β)(c:Ty γ):Ty (α×β×γ):=Ty.tup (.cons a (.cons b (.cons c .nil))) (λx=>(x.1,x.2.1,x.2.2,())) (λy=>(y.1,y.2.1,y.2.2.1)) (λ_=>rfl) (λ_=>rfl)
namespace An
abbrev l:An:=.leaf
abbrev q(a:An):An:=.seq .leaf a
abbrev w:An:=.seq .leaf .leaf
abbrev s(a b:An):An:=.seq a b
abbrev c(a b:An):An:=.cond a b
abbrev b(a:An):An:=.block a
end An
abbrev az:ArgT Unit:=ArgT.nil
abbrev ac{α β:Type}(t:Ty α)(r:ArgT β):ArgT (α×β):=ArgT.cons t r
abbrev ai{β:Type}(r:ArgT β):ArgT (Int×β):=ArgT.cons (Ty.leaf (.int .i64)) r
abbrev asl{β:Type}(r:ArgT β):ArgT (Sl×β):=ArgT.cons (Ty.leaf .sl) r
abbrev ap{β:Type}(r:ArgT β):ArgT (Option Addr×β):=ArgT.cons (Ty.leaf .ptr) r
abbrev tb:Ty Bool:=Ty.leaf .bool
abbrev ti:Ty Int:=Ty.leaf (.int .i64)
abbrev ts:Ty Sl:=Ty.leaf .sl
abbrev tu:Ty Unit:=Ty.unit
abbrev cg(P:Program)(n:Nat)(tab:List (Nat×zl))(mutL:List Nat:=[])(rtL:List (Nat×Nat):=[])(locL:List Nat:=[]):Cfg:={ P:=P,n:=n,tab:=tab,mutL:=mutL,rtL:=rtL,locL:=locL }
def bd(fn:Func):Code:=match fn.body with | some c=>c | none=>.skip
section
variable {α ρ : Type} {A : ArgT α} {R : Ty ρ} {F : α → (ρ → Hp → Prop) → Hp → Prop} {g : Nat} {fn : Func}
theorem eo(C:Cfg)(an:An)(hf:C.P.funcs[g]?=some fn)(hC:Tab C C.tab)(hBk:z1n C.P C.backs:=by exact trivial)
 (hb:fn.body=some (bd fn):=by exact rfl) (hn:fn.ntmps=C.n:=by exact rfl) (hname:(fn.name == "runtime.NumGoroutine")=false:=by decide) (ha:∀a,Nat.ble (A.up a).length C.n=true:=by exact λ_=>rfl)
 (hF:∀a K D,zr2 C fn (bd fn) an (A.up a) (λv h=>R.dn v λr=>K r h) D=F a K D:=by intro a K D;kernel_rfl):Entry C.P g (mkE A R F) false:=Z3r hC hBk hf hb hn hname ha hF
theorem eoM(C:Cfg)(an:An)(hf:C.P.funcs[g]?=some fn)(hC:Tab C C.tab)(hBk:z1n C.P C.backs:=by exact trivial)
 (hb:fn.body=some (bd fn):=by exact rfl) (hn:fn.ntmps=C.n:=by exact rfl) (hname:(fn.name == "runtime.NumGoroutine")=false:=by decide) (ha:∀a,Nat.ble (A.up a).length C.n=true:=by exact λ_=>rfl)
 (hF:∀a K D,zr2 C fn (bd fn) an (A.up a) (λv h=>R.dn v λr=>K r h) D=F a K D:=by intro a K D;kernel_rfl):Entry C.P g (mkM A R F) true:=zw4 hC hBk hf hb hn hname ha hF
end
end Den
end

noncomputable section
set_option maxRecDepth 100000
namespace Den
open Go Go.Proofs.Tryz
noncomputable section
abbrev EnP(g:Nat)(F:zl)(m:Bool):Prop:=Entry prog g F m
noncomputable abbrev cgP(n:Nat)(tab:List (Nat×zl))(mutL:List Nat:=[])(rtL:List (Nat×Nat):=[])(locL:List Nat:=[]):Cfg:=cg prog n tab mutL rtL locL
end
def Zcu:zl:=mkE (asl az) ts λa=>F.z68 a.1
theorem Zjg:EnP 136 Zcu false:=eo (cgP 21 []) (.q (.s (.b (.loop [(0,.s)] (.join [] (.q (.c .l .l)) (.b .l)))) .w)) func136 trivial
def Zj7:zl:=mkE (ac (Ty.leaf (.int .u64)) az) ts λa=>F.z2a a.1
theorem Zl6:EnP 135 Zj7 false:=eo (cgP 10 [(136,Zcu)]) (.q .w) func135 ⟨Zjg,trivial⟩
def Zj8:zl:=mkE (ac tb (asl az)) qd λa=>F.Vt a.1 a.2.1
theorem Zl7:EnP 134 Zj8 false:=eo (cgP 15 [(136,Zcu)] [] [] [4]) (.q (.q .w)) func134 ⟨Zjg,trivial⟩
def Zj9:zl:=mkE (ai az) qd λa=>F.z1k a.1
theorem Zl8:EnP 60 Zj9 false:=eo (cgP 14 [(135,Zj7),(134,Zj8)] [] [] [2]) (.q (.s (.q (.c .w .l)) .w)) func60 ⟨Zl6,Zl7,trivial⟩
def Zcw:zl:=mkE (ai az) Qq λa=>F.Wz a.1
theorem Zjh:EnP 28 Zcw false:=eo (cgP 7 [(60,Zj9)] [] [] [2]) (.q .w) func28 ⟨Zl8,trivial⟩
def z6s:zl:=mkE (ac Xp (asl az)) z00 λa=>F.z1u a.1 a.2.1
theorem zda:EnP 9 z6s false:=eo (cgP 60 [(28,Zcw)] [] [(10,2),(15,5),(34,5),(36,2),(45,5),(47,8),(49,8),(57,5)] [2,4,5,8,9,32,55]) (.q (.q (.s (.q (.b (.loop [(5,.box [.sl,.sl,.sl,.sl,.sl,.sl]),(12,.i)] (.q (.s (.c .l .l) (.s (.b (.q (.draw [0,1,2,3,4,5,6,7,9,10,11,12,13,14,8,15,16,17,18,19,20]))) .l)))))) (.s (.q (.b (.loop [(5,.box [.sl,.sl,.sl,.sl,.sl,.sl]),(39,.i)] (.q (.s (.c .l .l) (.s (.b (.q .w)) .l)))))) .w)))) func9 ⟨Zjh,trivial⟩
end Den
end

section
namespace Den
open Go Go.RowKit Go.Shelf
open Go.Proofs
attribute [local go_sem] Oper.semAt_some
set_option maxRecDepth 100000 in
set_option maxHeartbeats 2000000 in
theorem zy6:zpw Tryz.prog 316 (.leaf (.int .u32)):=by
 refine⟨enters_of Tryz.func316 (by kernel_rfl) rfl,?_⟩
 rintro l ab ⟨xa,xl,xc⟩ J w hxl h0 hbox hround
 simp only at hxl h0 hbox hround
 have hb0:=hbox _ _ h0
 refine callsIn_of_wp Tryz.func316 rfl trivial ?_ rfl
 simp only[Tryz.ntmps316,List.size_toArray,List.length_cons,List.length_nil,Nat.reduceAdd,Nat.reduceSub,Array.replicate_succ,Array.replicate_zero,List.push_toArray,List.append_toArray,List.nil_append,List.cons_append]
 gi_wp2
 gi_loopw [3] (λi wr=>∃k:Nat,k<=xl/\i=.int .i64 ((k:Int)-1)/\J k wr) (λi _=>(RowKit.intOf i+1).toNat)
 case atStart=>exact⟨xl,Nat.le_refl _,rfl,h0⟩
 case round=>
  obtain⟨k,hk,rfl,hJ⟩:=hrel
  have hbx:=hbox _ _ hJ
  cases k with
  | zero=>
    gi_wp2
    go_end0
    exact⟨⟨_,rfl⟩,hJ⟩
  | succ j=>
    obtain⟨ad,v,hxa,hcells,f,tmps1,asg,body,hy,hR⟩:=hround j wr (by omega) hJ
    subst hxa
    have hc0:wr.cell? (ad.add j)=some (.int .u32 v):=by
     have:=hcells 0 (.int .u32 v) rfl
     simpa [STy.size] using this
    have hkj:(((j+1:Nat):Int)-1)=(j:Int):=by omega
    rw[hkj]
    simp only[STy.val,Lf.up]at hy
    gi_wp2
    refine⟨rfl,hR.mono ?_⟩
    rintro e W3 ⟨rfl,hJ3⟩
    gi_wp2
    go_roundw
    case rel=>exact⟨j,by omega,by simp,hJ3⟩
    case measure=>simp[RowKit.intOf]
end Den
end

noncomputable section
set_option maxRecDepth 100000
namespace Den
open Go Go.Proofs.Tryz
def Z9r:zl:=mkE (asl az) tb λa=>F.z3l a.1
theorem Zji:EnP 143 Z9r false:=eo (cgP 6 []) (.q .w) func143 trivial
def Z9s:zl:=mkE (asl (ArgT.fn 143 az)) ti λa=>F.yk a.1
theorem Zjj:EnP 208 Z9s false:=eo (cgP 19 [(143,Z9r)]) (.q (.s (.q (.b (.loop [(8,.i)] (.q (.s (.c .l .l) (.s (.b (.q (.q (.c .w .l)))) .l)))))) .w)) func208 ⟨Zji,trivial⟩
def Z9t:zl:=mkE (asl (ArgT.fn 143 az)) tb λa=>F.Z8 a.1
theorem Zjk:EnP 142 Z9t false:=eo (cgP 9 [(208,Z9s)]) (.q .w) func142 ⟨Zjj,trivial⟩
def Z9u:zl:=mkE (ac z00 az) tb λa=>F.z2z a.1
theorem Zjl:EnP 70 Z9u false:=eo (cgP 35 [(142,Z9t)] [] [(5,1),(8,1),(11,1),(14,1),(17,1),(20,1),(32,1)] [1]) (.q (.s (.q (.b (.loop [(25,.i)] (.q (.s (.c .l .l) (.s (.b (.q (.q (.c .w .l)))) .l)))))) .w)) func70 ⟨Zjk,trivial⟩
def Z9v:zl:=mkE (ac qd az) tb λa=>F.z1d a.1
theorem Zjm:EnP 146 Z9v false:=eo (cgP 27 [] [] [(4,1),(10,1),(18,1)] [1]) (.q (.q .w)) func146 trivial
def z5t:zl:=mkE (asl az) ts λa=>F.zv a.1
theorem z71:EnP 210 z5t false:=eo (cgP 21 []) (.q (.s (.b (.loop [(0,.s)] (.join [] (.q (.c .l .l)) (.b .l)))) .w)) func210 trivial
def zui:zl:=mkE (ac qd az) ti λa=>F.Wn a.1
theorem Z6g:EnP 147 zui false:=eo (cgP 12 [(210,z5t)] [] [(4,1),(10,1)] [1]) (.q (.s (.b (.q (.c .w (.q (.c .w .l))))) .w)) func147 ⟨z71,trivial⟩
def zjs:zl:=mkE (asl az) ts λa=>F.Zg a.1
theorem zpa:EnP 213 zjs false:=eo (cgP 8 []) (.q (.s (.q (.c .w .l)) .w)) func213 trivial
def zgx:zl:=mkE (ac tb (asl az)) qd λa=>F.yu a.1 a.2.1
theorem zki:EnP 212 zgx false:=eo (cgP 14 [(210,z5t)] [] [] [4]) (.q (.q (.s (.q (.c .w .l)) .w))) func212 ⟨z71,trivial⟩
def Z3l:zl:=mkE (asl az) (Ty.clo 316) λa=>F.yz a.1
theorem Zay:EnP 279 Z3l false:=eo (cgP 4 []) (.q .w) func279 trivial
def Z3m:zl:=mkE (asl az) (Ty.leaf (.int .u64)) λa=>F.Xe a.1
theorem Zaz:EnP 214 Z3m false:=eo { P:=prog,n:=16,tab:=[(279,Z3l)],locL:=[3],backs:=[(316,(.leaf (.int .u32)))] } (.q (.q (.s (.q (.b (.back [(3,.box [.int .u64])] .l (.b .l)))) .w))) func214 ⟨Zay,trivial⟩ ⟨zy6,trivial⟩
def zns:zl:=mkE (ac (Ty.leaf (.int .u64)) az) ts λa=>F.Yx a.1
theorem zv9:EnP 215 zns false:=eo (cgP 10 [(210,z5t)]) (.q .w) func215 ⟨z71,trivial⟩
def Z9w:zl:=mkE (ai az) tb λa=>F.z19 a.1
theorem Zjn:EnP 224 Z9w false:=eo (cgP 6 []) (.q .w) func224 trivial
def znt:zl:=mkE (ai (ai az)) ti λa=>F.Qr a.1 a.2.1
theorem zva:EnP 169 znt false:=eo (cgP 20 [(224,Z9w)]) (.q (.q (.q (.s (.q (.c (.s (.q (.c .w .l)) .w) .l)) (.s (.q (.c .w .l)) (.s (.q (.c .w .l)) (.s (.q (.c .w .l)) .w))))))) func169 ⟨Zjn,trivial⟩
def Z9x:zl:=mkE (ac (Ty.leaf (.int .u32)) az) tb λa=>F.W8 a.1
theorem Zjo:EnP 348 Z9x false:=eo (cgP 6 []) (.q .w) func348 trivial
def Z9y:zl:=mkE (ac (Ty.leaf (.int .u32)) (ac (Ty.leaf (.int .u32)) az)) ti λa=>F.Vh a.1 a.2.1
theorem Zjp:EnP 315 Z9y false:=eo (cgP 20 [(348,Z9x)]) (.q (.q (.q (.s (.q (.c (.s (.q (.c .w .l)) .w) .l)) (.s (.q (.c .w .l)) (.s (.q (.c .w .l)) (.s (.q (.c .w .l)) .w))))))) func315 ⟨Zjo,trivial⟩
def zuj:zl:=mkE (asl (asl az)) ti λa=>F.Xn a.1 a.2.1
theorem Z6h:EnP 272 zuj false:=eo (cgP 41 [(169,znt),(315,Z9y)]) (.q (.s (.q (.c .w .l)) (.s (.q (.b (.loop [(5,.i)] (.s (.q (.c .l .l)) (.s (.b (.s (.draw [0,1,2,3,4,5,6,7,8]) (.c (.s (.draw [0,1,2,3,4,5,6,7,8,9]) .l) .l))) .l))))) .w))) func272 ⟨zva,Zjp,trivial⟩
def Z9z:zl:=mkE (asl (ac (Ty.leaf (.int .u32)) az)) (t2 ts ts) λa=>F.Vl a.1 a.2.1
theorem Zjq:EnP 273 Z9z false:=eo (cgP 43 [(210,z5t),(215,zns)]) (.q (.q (.q (.s (.q (.b (.loop [(7,.leaf (.int .u64)),(8,.i)] (.s (.q (.c .l .l)) (.s (.b (.q .w)) .l))))) .w)))) func273 ⟨z71,zv9,trivial⟩
def Za0:zl:=mkE (ac (Ty.leaf (.int .u32)) az) ti λa=>F.z1q a.1
theorem Zjr:EnP 243 Za0 false:=eo (cgP 19 []) (.q (.join [(0,.leaf (.int .u32)),(2,.i)] (.q (.c .w .l)) (.join [(0,.leaf (.int .u32)),(2,.i)] (.q (.c .w .l)) .w))) func243 trivial
def Za1:zl:=mkE (ac (Ty.leaf (.int .u32)) az) ti λa=>F.Q5 a.1
theorem Zjs:EnP 274 Za1 false:=eo (cgP 6 [(243,Za0)]) (.q .w) func274 ⟨Zjr,trivial⟩
def Za2:zl:=mkE (asl (ai az)) ts λa=>F.Xj a.1 a.2.1
theorem Zjt:EnP 275 Za2 false:=eo (cgP 41 []) (.q (.q (.s (.q (.b (.loop [(15,.i)] (.q (.s (.c .l .l) (.s (.b (.q (.q .w))) .l)))))) .w))) func275 trivial
def Za3:zl:=mkM (asl (asl (ac (Ty.leaf (.int .u64)) az))) tb λa=>F.z0n a.1 a.2.1 a.2.2.1
theorem Zju:EnP 276 Za3 true:=eoM (cgP 63 []) (.q (.q (.s (.q (.b (.loop [(7,.leaf (.int .u64)),(15,.i)] (.q (.s (.c .l .l) (.s (.b (.q (.q (.q .w)))) .l)))))) (.q (.q .w))))) func276 trivial
def Za4:zl:=mkM (asl (asl az)) tu λa=>F.z1p a.1 a.2.1
theorem Zjv:EnP 277 Za4 true:=eoM (cgP 41 []) (.q (.s (.q (.b (.loop [(4,.leaf (.int .u64)),(9,.i)] (.q (.s (.c .l .l) (.s (.b (.q (.q .w))) .l)))))) .l)) func277 trivial
def Za5:zl:=mkE (asl (ai az)) ts λa=>F.Vm a.1 a.2.1
theorem Zjw:EnP 278 Za5 false:=eo (cgP 47 []) (.q (.q (.s (.q (.b (.loop [(13,.i)] (.q (.s (.c .l .l) (.join [] (.b (.q (.q (.q (.c (.draw [0,1,2,3,4,5,6,7,8,9,10,11,12,13,14,15,16]) .l))))) .l)))))) .w))) func278 trivial
def Z3n:zl:=mkE (asl (asl az)) (t2 ts ts) λa=>F.X1 a.1 a.2.1
theorem Zb0:EnP 211 Z3n false:=eo (cgP 177 [(272,zuj),(213,zjs),(214,Z3m),(215,zns),(273,Z9z),(274,Za1),(275,Za2),(210,z5t),(276,Za3),(277,Za4),(278,Za5)] [276,277]) (.q (.s (.b (.q (.c .w (.q (.c (.q (.s (.draw [0,1,2,4,5,6,3,7,8,9]) .l)) (.q (.c .w .l))))))) (.q (.q (.q (.q (.s (.draw [0,1,2,3,4,5,6,7,8,9,10,11,12,13]) (.s (.q (.b (.loop [(15,.i)] (.s (.q (.c .l .l)) (.s (.b (.s (.draw [0,1,2,3,4,5,6,7,8,9,10,11,12,13,14,15,16,17]) (.s (.draw [0,1,2,3,4,5,6,7]) (.join [(17,.leaf (.int .u64))] (.b (.loop [(17,.leaf (.int .u64)),(18,.leaf (.int .u64))] (.join [] (.q (.c .l .l)) (.b (.q (.q (.q (.c .l .l)))))))) (.join [(17,.leaf (.int .u64))] (.q (.c .w .l)) .l))))) .l))))) (.s (.draw [0,2,3,4,6,1,5,7,8,9,10]) .l))))))))) func211 ⟨Z6h,zpa,Zaz,zv9,Zjq,Zjs,Zjt,z71,Zju,Zjv,Zjw,trivial⟩
def Z3o:zl:=mkE (ac qd (ac qd az)) qd λa=>F.z24 a.1 a.2.1
theorem Zb1:EnP 149 Z3o false:=eo (cgP 57 [(210,z5t),(213,zjs),(212,zgx),(214,Z3m),(215,zns),(211,Z3n)] [] [(11,2),(14,3)] [2,3,4]) (.q (.s (.draw [0,1,3,4,2,5,6,7]) (.join [(5,.s),(6,.s)] (.b (.loop [(5,.s),(6,.s)] (.join [] (.q (.c .l .l)) (.b .w)))) (.s (.q (.c .w .l)) (.q (.s (.b (.loop [(9,.leaf (.int .u64)),(10,.leaf (.int .u64))] (.s (.q (.c .l .l)) (.b (.draw [0,1,2,3,4,5]))))) .w)))))) func149 ⟨z71,zpa,zki,Zaz,zv9,Zb0,trivial⟩
def znu:zl:=mkE (ac qd az) tb λa=>F.Qn a.1
theorem zvb:EnP 148 znu false:=eo (cgP 19 [] [] [(3,1),(7,1),(13,1)] [1]) (.q .w) func148 trivial
def zjt:zl:=mkE (ac Qq az) tb λa=>F.qt a.1
theorem zpb:EnP 73 zjt false:=eo (cgP 25 [(146,Z9v),(147,zui),(149,Z3o),(148,znu)] [] [(3,1),(7,1),(12,1),(18,1),(20,1)] [1]) (.q .w) func73 ⟨Zjm,Z6g,Zb1,zvb,trivial⟩
end Den
end

noncomputable section
set_option maxRecDepth 100000
namespace Den
open Go Go.Proofs.Tryz
def Za6:zl:=mkE (ac zpf az) tb λa=>F.z6b a.1
theorem Zjx:EnP 72 Za6 false:=eo (cgP 11 [(73,zjt)] [] [(3,1),(7,1)] [1]) (.q .w) func72 ⟨zpb,trivial⟩
def Za7:zl:=mkE (ac zpf (ap az)) tb λa=>F.qa a.1 a.2.1
theorem Zjy:EnP 145 Za7 false:=eo { P:=prog,n:=8,tab:=[(72,Za6)],locL:=[2],fnL:=[(4,72,0)] } (.q .w) func145 ⟨Zjx,trivial⟩
def Za8:zl:=mkE (asl (ArgT.fnc 145 1 az)) ti λa=>F.Zi a.1 a.2.1
theorem Zjz:EnP 209 Za8 false:=eo (cgP 19 [(145,Za7)]) (.q (.s (.q (.b (.loop [(8,.i)] (.q (.s (.c .l .l) (.s (.b (.q (.q (.c .w .l)))) .l)))))) .w)) func209 ⟨Zjy,trivial⟩
def Za9:zl:=mkE (asl (ArgT.fnc 145 1 az)) tb λa=>F.Zd a.1 a.2.1
theorem Zk0:EnP 144 Za9 false:=eo (cgP 9 [(209,Za8)]) (.q .w) func144 ⟨Zjz,trivial⟩
def Zaa:zl:=mkE (asl (ArgT.fn 72 az)) tb λa=>F.Ym a.1
theorem Zk1:EnP 71 Zaa false:=eo (cgP 9 [(144,Za9)]) (.q .w) func71 ⟨Zk0,trivial⟩
def znv:zl:=mkE (ai (ai az)) tb λa=>F.W0 a.1 a.2.1
theorem zvc:EnP 76 znv false:=eo (cgP 12 []) (.q .w) func76 trivial
def zju:zl:=mkE (ac Qq az) ti λa=>F.Qj a.1
theorem zpc:EnP 77 zju false:=eo (cgP 6 [(147,zui)] [] [(3,1)] [1]) (.q .w) func77 ⟨Z6g,trivial⟩
def Zab:zl:=mkE (ac zpg (ap az)) tb λa=>F.z6c a.1 a.2.1
theorem Zk2:EnP 75 Zab false:=eo (cgP 19 [(76,znv),(73,zjt),(77,zju)] [] [(5,2),(9,2),(14,2)] [2]) (.q .w) func75 ⟨zvc,zpb,zpc,trivial⟩
def Zac:zl:=mkE (ac zpg (ap az)) tb λa=>F.qb a.1 a.2.1
theorem Zk3:EnP 151 Zac false:=eo { P:=prog,n:=8,tab:=[(75,Zab)],locL:=[2],fnL:=[(4,75,1)] } (.q .w) func151 ⟨Zk2,trivial⟩
def Zad:zl:=mkE (asl (ArgT.fnc 151 1 az)) ti λa=>F.Zj a.1 a.2.1
theorem Zk4:EnP 216 Zad false:=eo (cgP 19 [(151,Zac)]) (.q (.s (.q (.b (.loop [(8,.i)] (.q (.s (.c .l .l) (.s (.b (.q (.q (.c .w .l)))) .l)))))) .w)) func216 ⟨Zk3,trivial⟩
def Zae:zl:=mkE (asl (ArgT.fnc 151 1 az)) tb λa=>F.Ze a.1 a.2.1
theorem Zk5:EnP 150 Zae false:=eo (cgP 9 [(216,Zad)]) (.q .w) func150 ⟨Zk4,trivial⟩
def Zaf:zl:=mkE (asl (ArgT.fnc 75 1 az)) tb λa=>F.Yn a.1 a.2.1
theorem Zk6:EnP 74 Zaf false:=eo (cgP 9 [(150,Zae)]) (.q .w) func74 ⟨Zk5,trivial⟩
def Zag:zl:=mkE (ac ziq (ap az)) tb λa=>F.z6d a.1 a.2.1
theorem Zk7:EnP 79 Zag false:=eo (cgP 21 [(76,znv)] [] [(5,2),(10,2),(15,2),(17,2)] [2]) (.q .w) func79 ⟨zvc,trivial⟩
def Zah:zl:=mkE (ac ziq (ap az)) tb λa=>F.Y2 a.1 a.2.1
theorem Zk8:EnP 153 Zah false:=eo { P:=prog,n:=8,tab:=[(79,Zag)],locL:=[2],fnL:=[(4,79,1)] } (.q .w) func153 ⟨Zk7,trivial⟩
def Zai:zl:=mkE (asl (ArgT.fnc 153 1 az)) ti λa=>F.z7 a.1 a.2.1
theorem Zk9:EnP 217 Zai false:=eo (cgP 19 [(153,Zah)]) (.q (.s (.q (.b (.loop [(8,.i)] (.q (.s (.c .l .l) (.s (.b (.q (.q (.c .w .l)))) .l)))))) .w)) func217 ⟨Zk8,trivial⟩
def Zaj:zl:=mkE (asl (ArgT.fnc 153 1 az)) tb λa=>F.zz a.1 a.2.1
theorem Zka:EnP 152 Zaj false:=eo (cgP 9 [(217,Zai)]) (.q .w) func152 ⟨Zk9,trivial⟩
def Zak:zl:=mkE (asl (ArgT.fnc 79 1 az)) tb λa=>F.Yc a.1 a.2.1
theorem Zkb:EnP 78 Zak false:=eo (cgP 9 [(152,Zaj)]) (.q .w) func78 ⟨Zka,trivial⟩
def Zal:zl:=mkE (ac z00 (ac zu0 az)) tb λa=>F.z1t a.1 a.2.1
theorem Zkc:EnP 82 Zal false:=eo (cgP 48 [(76,znv)] [] [(6,2),(9,3),(14,2),(17,3),(23,2),(26,3),(31,2),(33,3),(38,3),(43,3)] [2,3]) (.q (.join [] (.q (.c .w .l)) (.q .w))) func82 ⟨zvc,trivial⟩
def Zam:zl:=mkE (ac zu0 (ap az)) tb λa=>F.z6e a.1 a.2.1
theorem Zkd:EnP 81 Zam false:=eo (cgP 7 [(82,Zal)] [] [] [2]) (.q .w) func81 ⟨Zkc,trivial⟩
def Zan:zl:=mkE (ac zu0 (ap az)) tb λa=>F.qu a.1 a.2.1
theorem Zke:EnP 155 Zan false:=eo { P:=prog,n:=8,tab:=[(81,Zam)],locL:=[2],fnL:=[(4,81,1)] } (.q .w) func155 ⟨Zkd,trivial⟩
def Zao:zl:=mkE (asl (ArgT.fnc 155 1 az)) ti λa=>F.Zr a.1 a.2.1
theorem Zkf:EnP 218 Zao false:=eo (cgP 19 [(155,Zan)]) (.q (.s (.q (.b (.loop [(8,.i)] (.q (.s (.c .l .l) (.s (.b (.q (.q (.c .w .l)))) .l)))))) .w)) func218 ⟨Zke,trivial⟩
def zyv:zl:=mkE (asl (ArgT.fnc 155 1 az)) tb λa=>F.Zl a.1 a.2.1
theorem Zds:EnP 154 zyv false:=eo (cgP 9 [(218,Zao)]) (.q .w) func154 ⟨Zkf,trivial⟩
def zyw:zl:=mkE (asl (ArgT.fnc 81 1 az)) tb λa=>F.Yv a.1 a.2.1
theorem Zdt:EnP 80 zyw false:=eo (cgP 9 [(154,zyv)]) (.q .w) func80 ⟨Zds,trivial⟩
def zyx:zl:=mkE (ac z00 (ac Z6q az)) (t2 ti ti) λa=>F.z4j a.1 a.2.1
theorem Zdu:EnP 157 zyx false:=eo (cgP 44 [] [] [(8,3),(10,2),(12,3),(17,2),(19,3),(24,2),(26,3),(31,2),(33,3),(38,3)] [2,3]) (.q (.q (.join [(6,.i),(7,.i)] (.q (.c (.draw [0,1,2,3,4,5,6,7,8,9,10,11,12,13,14,15]) (.draw [0,1,2,3,4,5,6,7,8,9,10,11,12,13,14,15]))) (.s (.q (.c .w .l)) .w)))) func157 trivial
def zyy:zl:=mkE (ac z00 (asl az)) tb λa=>F.z02 a.1 a.2.1
theorem Zdv:EnP 85 zyy false:=eo (cgP 49 [(76,znv),(157,zyx)] [] [(18,2),(21,7),(23,2),(27,7)] [2,7]) (.q (.q (.s (.q (.b (.loop [(5,.i),(13,.i)] (.q (.s (.c .l .l) (.join [(5,.i)] (.b (.q (.q (.join [(8,.i)] (.q (.c .l .l)) (.s (.q (.c .w .l)) (.q (.s (.q (.c .w .l)) .l))))))) .l)))))) .w))) func85 ⟨zvc,Zdu,trivial⟩
def zyz:zl:=mkE (asl (ap az)) tb λa=>F.z6f a.1 a.2.1
theorem Zdw:EnP 84 zyz false:=eo (cgP 7 [(85,zyy)]) (.q .w) func84 ⟨Zdv,trivial⟩
def zz0:zl:=mkE (asl (ap az)) tb λa=>F.Y9 a.1 a.2.1
theorem Zdx:EnP 156 zz0 false:=eo { P:=prog,n:=8,tab:=[(84,zyz)],fnL:=[(4,84,1)] } (.q .w) func156 ⟨Zdw,trivial⟩
def zz1:zl:=mkE (asl (ArgT.fnc 156 1 az)) ti λa=>F.Zh a.1 a.2.1
theorem Zdy:EnP 208 zz1 false:=eo (cgP 19 [(156,zz0)]) (.q (.s (.q (.b (.loop [(8,.i)] (.q (.s (.c .l .l) (.s (.b (.q (.q (.c .w .l)))) .l)))))) .w)) func208 ⟨Zdx,trivial⟩
def zz2:zl:=mkE (asl (ArgT.fnc 156 1 az)) tb λa=>F.Zc a.1 a.2.1
theorem Zdz:EnP 142 zz2 false:=eo (cgP 9 [(208,zz1)]) (.q .w) func142 ⟨Zdy,trivial⟩
def zz3:zl:=mkE (asl (ArgT.fnc 84 1 az)) tb λa=>F.Yl a.1 a.2.1
theorem Ze0:EnP 83 zz3 false:=eo (cgP 9 [(142,zz2)]) (.q .w) func83 ⟨Zdz,trivial⟩
def zr3:zl:=mkE (ai az) (t2 zb5 tb) λa=>F.Xw a.1
theorem Z5h:EnP 160 zr3 false:=eo (cgP 15 [] [] [] [2]) (.q (.join [(2,.box [.int .i64,.int .i64,.int .i64,.int .i64,.bool,.bool,.bool])] (.q (.c .w .l)) .w)) func160 trivial
def zld:zl:=mkE (ai az) qd λa=>F.Wj a.1
theorem ztd:EnP 197 zld false:=eo (cgP 15 [(215,zns),(212,zgx)] [] [] [2]) (.q (.q (.join [(3,.leaf (.int .u64))] (.q (.c .l .l)) .w))) func197 ⟨zv9,zki,trivial⟩
def zle:zl:=mkE az qd λa=>F.z0w
theorem zte:EnP 198 zle false:=eo (cgP 2 [(197,zld)] [] [] [0]) (.q .w) func198 ⟨ztd,trivial⟩
def zbr:zl:=mkE (ai az) Qq λa=>F.Y8 a.1
theorem zen:EnP 133 zbr false:=eo (cgP 7 [(197,zld),(198,zle)] [] [] [2]) (.q .w) func133 ⟨ztd,zte,trivial⟩
def zr4:zl:=mkE (ac qd (ac qd az)) ti λa=>F.z4b a.1 a.2.1
theorem Z5i:EnP 317 zr4 false:=eo (cgP 26 [(147,zui),(169,znt),(210,z5t),(272,zuj)] [] [(18,2),(21,3)] [2,3]) (.q (.s (.draw [0,2,1,3,4,5]) (.s (.q (.c .w .l)) (.s (.draw [0,1,2,4,5,3,6,7,8,9]) .l)))) func317 ⟨Z6g,zva,z71,Z6h,trivial⟩
def zz4:zl:=mkE (asl (asl az)) ts λa=>F.z1e a.1 a.2.1
theorem Ze1:EnP 365 zz4 false:=eo (cgP 75 [(210,z5t)]) (.q (.join [] (.q (.c .w .l)) (.q (.s (.q (.b (.loop [(27,.i)] (.q (.s (.c .l .l) (.s (.b (.q (.q (.s (.q (.b (.loop [(8,.leaf (.int .u64)),(34,.i)] (.q (.s (.c .l .l) (.s (.b (.q (.q .w))) .l)))))) .l)))) .l)))))) .w)))) func365 ⟨z71,trivial⟩
def zgu:zl:=mkE (ac qd (ac qd az)) qd λa=>F.Qh a.1 a.2.1
theorem zml:EnP 349 zgu false:=eo (cgP 18 [(210,z5t),(365,zz4),(212,zgx)] [] [(5,2),(7,3),(10,2),(13,3)] [2,3,4]) (.q (.s (.draw [0,1,2,3,4,5,6,8,9,7,10,11,12,13]) .l)) func349 ⟨z71,Ze1,zki,trivial⟩
def zr5:zl:=mkE (asl (asl az)) ts λa=>F.z0m a.1 a.2.1
theorem Z5j:EnP 390 zr5 false:=eo (cgP 58 [] [] [] [45,55]) (.q (.join [(0,.s),(1,.s)] (.q (.c .l .l)) (.q (.q (.s (.q (.b (.loop [(5,.s),(6,.leaf (.int .u64)),(22,.i)] (.q (.s (.c .l .l) (.s (.b (.q (.q (.join [(6,.leaf (.int .u64))] (.q (.c .l .l)) .w)))) .l)))))) (.s (.q (.c .l .l)) .w)))))) func390 trivial
def zr6:zl:=mkE (asl (asl az)) ts λa=>F.Wu a.1 a.2.1
theorem Z5k:EnP 391 zr6 false:=eo (cgP 45 [(210,z5t)]) (.q (.q (.q (.s (.q (.b (.loop [(6,.leaf (.int .u64)),(15,.i)] (.q (.s (.c .l .l) (.s (.b (.q (.q (.join [(9,.leaf (.int .u64))] (.q (.c .l .l)) .w)))) .l)))))) .w)))) func391 ⟨z71,trivial⟩
def zz5:zl:=mkE (ac qd (ac qd az)) (t3 qd qd ti) λa=>F.z2l a.1 a.2.1
theorem Ze2:EnP 380 zz5 false:=eo (cgP 53 [(210,z5t),(211,Z3n),(212,zgx),(390,zr5),(391,zr6)] [] [(10,3),(19,2),(26,2),(28,3),(42,2),(44,3),(49,3)] [2,3,4,5]) (.q (.q (.s (.q (.c .w .l)) (.q (.join [(8,.s),(9,.s)] (.q (.c .w .l)) (.s (.draw [0,1,2,3,4,5,7,8,9,6,10,11,12,13]) .l)))))) func380 ⟨z71,Zb0,zki,Z5j,Z5k,trivial⟩
end Den
end

noncomputable section
set_option maxRecDepth 100000
namespace Den
open Go Go.Proofs.Tryz
def zz6:zl:=mkE (ac qd (ac qd az)) qd λa=>F.z2s a.1 a.2.1
theorem Ze3:EnP 366 zz6 false:=eo (cgP 19 [(148,znu),(380,zz5)] [] [] [2,3,4,5,6]) (.q (.s (.q (.c .w .l)) (.q .w))) func366 ⟨zvb,Ze2,trivial⟩
def zr7:zl:=mkE (ac qd az) qd λa=>F.z4c a.1
theorem Z5l:EnP 339 zr7 false:=eo (cgP 11 [(210,z5t),(213,zjs),(212,zgx)] [] [(3,1),(6,1)] [1,2]) (.q (.s (.draw [0,1,2,3,4,5,6,7,8]) .l)) func339 ⟨z71,zpa,zki,trivial⟩
def zlf:zl:=mkE (ac qd (ac qd az)) Qq λa=>F.Wk a.1 a.2.1
theorem ztf:EnP 350 zlf false:=eo (cgP 20 [(149,Z3o),(366,zz6),(339,zr7)] [] [(9,3)] [2,3,4,5]) (.q (.q (.join [(5,.box [.bool,.sl])] (.q (.c .l .l)) (.s (.draw [0,1,3,4,2,5,6,7]) .l)))) func350 ⟨Zb1,Ze3,Z5l,trivial⟩
def zr8:zl:=mkE (ac Qq (ac Qq az)) Qq λa=>F.z2r a.1 a.2.1
theorem Z5m:EnP 318 zr8 false:=eo (cgP 31 [(349,zgu),(350,zlf),(148,znu),(198,zle)] [] [(5,2),(9,3),(13,2),(15,3),(20,2),(22,3),(25,2),(27,3)] [2,3,4]) (.q (.join [(4,.box [.bool,.sl,.bool,.sl])] (.q (.c .w .l)) (.s (.draw [0,1,2,3,5,6,7,8,4,9,10,11]) .l))) func318 ⟨zml,ztf,zvb,zte,trivial⟩
def zz7:zl:=mkE (ai az) (Ty.leaf .str) λa=>F.Vn a.1
theorem Ze4:EnP 382 zz7 false:=eo (cgP 15 []) (.q (.s (.q (.c .w .l)) .w)) func382 trivial
def zz8:zl:=mkE (ac (Ty.leaf (.int .u64)) az) ti λa=>F.z1r a.1
theorem Ze5:EnP 244 zz8 false:=eo (cgP 25 []) (.q (.join [(0,.leaf (.int .u64)),(2,.i)] (.q (.c .w .l)) (.join [(0,.leaf (.int .u64)),(2,.i)] (.q (.c .w .l)) (.join [(0,.leaf (.int .u64)),(2,.i)] (.q (.c .w .l)) .w)))) func244 trivial
def zz9:zl:=mkE (ai az) ti λa=>F.X3 a.1
theorem Ze6:EnP 394 zz9 false:=eo (cgP 6 []) (.q .w) func394 trivial
def zza:zl:=mkE (ac tb az) ti λa=>F.X2 a.1
theorem Ze7:EnP 395 zza false:=eo (cgP 4 []) (.q (.s (.q (.c .w .l)) .w)) func395 trivial
def zzb:zl:=mkE (ac (Ty.leaf (.int .u64)) az) ti λa=>F.Ql a.1
theorem Ze8:EnP 383 zzb false:=eo (cgP 15 [(244,zz8),(394,zz9),(395,zza)]) (.q (.q .w)) func383 ⟨Ze5,Ze6,Ze7,trivial⟩
def zzc:zl:=mkM (asl (ac (Ty.leaf (.int .u64)) az)) tu λa=>F.ql a.1 a.2.1
theorem Ze9:EnP 384 zzc true:=eoM (cgP 167 []) (.q (.s (.b (.loop [(1,.leaf (.int .u64)),(4,.i)] (.s (.q (.c .l .l)) (.b (.q (.q (.q (.q (.q (.s (.draw [0,1,2,3,4,5,6,7,8,9,10,11,12,13,14]) (.s (.draw [0,1,2,3,4,5,6,7,8,9,10,11,12,13,14]) (.s (.draw [0,1,2,3,4,5,6,7,8,9,10,11,12,13,14]) (.s (.draw [0,1,2,3,4,5,6,7,8,9,10,11,12,13,14]) .l))))))))))))) (.q (.join [(4,.i),(12,.leaf (.int .u32))] (.q (.c (.q (.q (.q (.s (.draw [0,1,2,3,4,5,6,7,8,9,10,11,12,13,14]) (.s (.draw [0,1,2,3,4,5,6,7,8,9,10,11,12,13,14]) .l))))) .l)) (.join [(4,.i),(12,.leaf (.int .u32))] (.q (.c (.q (.q (.s (.draw [0,1,2,3,4,5,6,7,8,9,10,11,12,13,14]) .l))) .l)) (.q (.c .l .l))))))) func384 trivial
def zzd:zl:=mkE (ac (Ty.leaf (.int .u64)) (ai az)) (Ty.leaf .str) λa=>F.Xt a.1 a.2.1
theorem Zea:EnP 368 zzd false:=eo (cgP 32 [(382,zz7),(383,zzb),(384,zzc)] [384]) (.q (.s (.q (.c (.s (.q (.c .w .l)) (.q (.q (.q .w)))) .l)) (.q .w))) func368 ⟨Ze4,Ze8,Ze9,trivial⟩
def zze:zl:=mkE (ac (Ty.leaf (.int .u64)) (ai az)) (Ty.leaf .str) λa=>F.Wb a.1 a.2.1
theorem Zeb:EnP 352 zze false:=eo (cgP 8 [(368,zzd)]) (.q .w) func352 ⟨Zea,trivial⟩
def z4z:ArgT ((Option Addr)×Unit):=(ap az)
def Xq:Ty Unit:=tu
def Xs:zl:=mkM z4z Xq (λa=>F.Qx a.1)
set_option maxHeartbeats 1000000 in
set_option maxRecDepth 100000 in
theorem z4r(b:Nat)(w:World)(h0:w.cell? ⟨b,0,none⟩=some (.pointer (some ⟨b,0,none⟩))) :
 Calls Go.Proofs.Tryz.prog 367 #[.pointer (some ⟨b,0,none⟩)] w λe w'=>e=.returned (.tuple #[])/\w'=w:=by
 obtain⟨j,hj,_⟩:=Option.map_eq_some_iff.1 (show(Go.Proofs.Tryz.prog.info? 364).map (·.size)=some 2 by kernel_rfl)
 go_enter Go.Proofs.Tryz.func367,Go.Proofs.Tryz.ntmps367
 go_wp2
 rw[Lib.run_neq_ptr_same w _ Go.Proofs.Tryz.underlying362 hj]
 go_wp2
 go_end0
 exact⟨rfl,rfl⟩
set_option maxHeartbeats 1000000 in
set_option maxRecDepth 100000 in
theorem z4q(b:Nat)(w:World)(h0:w.cell? ⟨b,0,none⟩=some (.pointer none))(hsh:w.shape? b=some (364,2))(hfz:w.frozen? ⟨b,0,none⟩=false) :
 Calls Go.Proofs.Tryz.prog 367 #[.pointer (some ⟨b,0,none⟩)] w λe w'=>e=.returned (.tuple #[])/\w'=w.setCell ⟨b,0,none⟩ (.pointer (some ⟨b,0,none⟩)):=by
 obtain⟨j,hj,hjs⟩:=Option.map_eq_some_iff.1 (show(Go.Proofs.Tryz.prog.info? 364).map (·.size)=some 2 by kernel_rfl)
 have hli:liesAt Go.Proofs.Tryz.prog Go.Proofs.Tryz.prog.depth 364 (2/Go.Proofs.Tryz.prog.cellsOf 364) 0 364 1=true:=by kernel_rfl
 go_enter Go.Proofs.Tryz.func367,Go.Proofs.Tryz.ntmps367
 go_wp2
 rw[Lib.run_to_unsafe w ⟨b,0,none⟩ Go.Proofs.Tryz.underlying362 Go.Proofs.Tryz.underlying388 hj (by rw[hjs];decide) hsh (Nat.zero_lt_succ 1)]
 simp only[Result.andThen]
 rw[Oper.upon_value]
 go_wp2
 rw[run_callFunc_extern Go.Proofs.Tryz.func381 (by kernel_rfl) (by kernel_rfl) (by kernel_rfl) (e:=Extern.AbiNoEscape.same) (by kernel_rfl)]
 rw[Lib.run_noEscape]
 simp only[Result.andThen]
 rw[Oper.upon_value]
 go_wp2
 rw[Lib.run_from_unsafe w ⟨b,0,none⟩ Go.Proofs.Tryz.underlying388 Go.Proofs.Tryz.underlying362 hj hsh hli]
 simp only[Result.andThen]
 rw[Oper.upon_value]
 go_wp2
 go_end0
 exact⟨rfl,rfl⟩
theorem z03:Entry Go.Proofs.Tryz.prog 367 Xs true:=
 z0r ⟨_,Go.Proofs.Tryz.func367,rfl,by decide⟩ (λa K D w hs hk=>by
  obtain⟨p,u⟩:=a
  obtain⟨b,bl,hp,hb,he,hf,hl,hc⟩:=hk
  simp only at hp
  subst hp
  have hw:=hs _ _ hb
  have hlt:=Xb hw
  rw[he,hf]at hw
  rcases hc with ⟨h0,hK⟩ | ⟨h0,hK⟩
  . have c0:w.cell? ⟨b,0,none⟩=some (.pointer none):=by unfold World.cell?;simp only[hw];simp[h0]
    refine(z4q b w c0 (by simp[World.shape?,hw,hl]) (by unfold World.frozen?;simp only[hw];simp)).mono ?_
    rintro e w' ⟨rfl,rfl⟩
    refine⟨_,_,rfl,(Xq.cmp _ _).2 hK,?_,?_,?_⟩
    . intro k c hk
      rw[za2 hw]
      by_cases hkb:k=b
      . subst hkb
        rw[Hp.ins_same]at hk;cases hk
        rw[z2b hlt]
        simp[he,hf]
      . rw[Hp.ins_ne hkb]at hk;rw[z3k hkb];exact hs k c hk
    . rw[za2 hw]
      refine⟨by rw[z4i];exact Nat.le_refl _,λk hk1 hk2=>?_,rfl,rfl,rfl,Nat.le_refl _⟩
      exact z3k λhh=>by rw[hh,hb]at hk2;cases hk2
    . intro k hk1 hk2
      have hkb:k≠b:=λhh=>by rw[hh,hb]at hk2;cases hk2
      rw[Hp.ins_ne hkb]at hk1;exact absurd hk2 hk1
  . have c0:w.cell? ⟨b,0,none⟩=some (.pointer (some ⟨b,0,none⟩)):=by unfold World.cell?;simp only[hw];simp[h0]
    refine(z4r b w c0).mono ?_
    rintro e w' ⟨rfl,rfl⟩
    exact⟨_,D,rfl,(Xq.cmp _ _).2 hK,hs,Fr.refl _ _,λk h1 h2=>absurd h2 h1⟩)
def zzf:zl:=mkM (ap (ac (Ty.leaf .str) az)) (t2 ti (Ty.leaf .val)) λa=>F.Zv a.1 a.2.1
theorem Zec:EnP 353 zzf true:=eoM { P:=prog,n:=19,tab:=[(367,Xs)],mutL:=[367],tyL:=[5] } (.q (.q (.q .w))) func353 ⟨z03,trivial⟩
def zzg:zl:=mkE (ac (Ty.leaf (.int .u64)) (ac (Ty.leaf (.int .u64)) az)) (Ty.tup (.cons (Ty.leaf (.int .u64)) (.cons (Ty.leaf (.int .u64)) .nil)) (λx=>(x.1,x.2,())) (λy=>(y.1,y.2.1)) (λ_=>rfl) (λ_=>rfl)) λa=>F.z4n a.1 a.2.1
theorem Zed:EnP 370 zzg false:=eo (cgP 51 []) (.q (.q (.q (.q (.q (.q (.q (.q (.q (.q (.q .w))))))))))) func370 trivial
def zzh:zl:=mkE (ac (Ty.leaf (.int .u64)) (ac (Ty.leaf (.int .u64)) az)) (Ty.tup (.cons (Ty.leaf (.int .u64)) (.cons (Ty.leaf (.int .u64)) .nil)) (λx=>(x.1,x.2,())) (λy=>(y.1,y.2.1)) (λ_=>rfl) (λ_=>rfl)) λa=>F.z3y a.1 a.2.1
theorem Zee:EnP 355 zzh false:=eo (cgP 30 [(370,zzg)]) (.q (.s (.c (.q .w) .l) (.q .w))) func355 ⟨Zed,trivial⟩
def zzi:zl:=mkE (ac (Ty.leaf .str) (ac (Ty.leaf .str) az)) tb λa=>F.Qz a.1 a.2.1
theorem Zef:EnP 371 zzi false:=eo (cgP 18 []) (.q .w) func371 trivial
def zzj:zl:=mkE (ac (Ty.leaf .str) (ac (Ty.leaf .str) az)) tb λa=>F.zm a.1 a.2.1
theorem Zeg:EnP 356 zzj false:=eo (cgP 8 [(371,zzi)]) (.q .w) func356 ⟨Zef,trivial⟩
def zr9:zl:=mkE (ac (Ty.leaf .str) (ai az)) (Ty.leaf .str) λa=>F.Vb a.1 a.2.1
theorem Z5n:EnP 320 zr9 false:=eo { P:=prog,n:=125,tab:=[(355,zzh),(356,zzj)],tyL:=[364] } (.q (.s (.q (.b (.q (.c .w (.q (.c .w .l)))))) (.join [] (.q (.c .l .l)) (.q (.join [] (.q (.c .l .l)) (.q (.s (.q (.c .w .l)) (.join [] (.q (.b (.join [(43,.b)] (.q (.c .l (.q (.c .l (.q (.c .l (.q (.c .l .l)))))))) (.c (.b (.q (.c .w (.q (.c .w (.q (.c .w (.q (.c .w (.q (.c .w .l))))))))))) .l)))) (.q (.join [(8,.i)] (.q (.c (.q (.q (.c .l .l))) .l)) (.q (.q (.q (.s (.b (.loop [] (.s (.q (.c .l .l)) (.b .w)))) .w)))))))))))))) func320 ⟨Zee,Zeg,trivial⟩
def z75:ArgT ((Option Addr)×Unit):=(ap az)
def Wr:Ty ByteArray:=(Ty.leaf .str)
def z1b:zl:=mkM z75 Wr (λa=>F.Xv a.1)
set_option maxHeartbeats 2000000 in
set_option maxRecDepth 100000 in
theorem z6m(b:Nat)(p:Value)(w:World)(hbk:w.heap[b]?=some (.cells #[p,.slice none 0 0] 364 (0,0))) :
 Calls Go.Proofs.Tryz.prog 354 #[.pointer (some ⟨b,0,none⟩)] w λe w'=>e=.returned (.string ⟨#[]⟩)/\w'=w.drew:=by
 have hUS:∀(W:World) (q:Option Addr),(Builtin.unsafeString_ #[380,3] 9 #[.pointer q,.int .i64 0]).run Go.Proofs.Tryz.prog W=.ok (.string .empty) W:=λW q=>Lib.run_unsafeString_none W _ _ _ q
 have c1:w.drew.cell? ⟨b,1,none⟩=some (.slice none 0 0):=by
  have:w.drew.heap[b]?=some (.cells #[p,.slice none 0 0] 364 (0,0)):=hbk
  rw[Lib.cell_of_heap this];rfl
 have hSD:(Builtin.unsafeSliceData_ #[359] 380 #[.slice none 0 0]).run Go.Proofs.Tryz.prog w.drew=.ok (.pointer none) w.drew:=rfl
 go_enter Go.Proofs.Tryz.func354,Go.Proofs.Tryz.ntmps354
 go_wp2
 go_region
 all_goals (go_wp2;go_ret;exact⟨rfl,rfl⟩)
set_option maxHeartbeats 2000000 in
set_option maxRecDepth 100000 in
theorem z6n(b g cap cells:Nat)(p:Value)(l:List UInt8)(w:World)(h0:l≠[])(hbk:w.heap[b]?=some (.cells #[p,.slice (some ⟨g,0,none⟩) l.length cap] 364 (0,0)))(hc:l.length<=cap)(hsh:w.shape? g=some (5,cells))(hn:l.length<=cells)(h63:l.length<=140737488355328)
 (hcell:∀j x,l[j]?=some x->w.cell? ((⟨g,0,none⟩:Addr).add j)=some (.int .u8 x.toNat)) :
 Calls Go.Proofs.Tryz.prog 354 #[.pointer (some ⟨b,0,none⟩)] w λe w'=>e=.returned (.string ⟨l.toArray⟩)/\w'=w.drew.freeze ⟨g,0,none⟩ l.length:=by
 have hl0:l.length≠0:=by simpa using h0
 have c1:w.drew.cell? ⟨b,1,none⟩=some (.slice (some ⟨g,0,none⟩) l.length cap):=by
  have:w.drew.heap[b]?=some (.cells #[p,.slice (some ⟨g,0,none⟩) l.length cap] 364 (0,0)):=hbk
  rw[Lib.cell_of_heap this];rfl
 have hSD:(Builtin.unsafeSliceData_ #[359] 380 #[.slice (some ⟨g,0,none⟩) l.length cap]).run Go.Proofs.Tryz.prog w.drew=.ok (.pointer (some ⟨g,0,none⟩)) w.drew:=
  Lib.run_unsafeSliceData_row _ _ _ _ _ _ (by omega)
 have hUS:(Builtin.unsafeString_ #[380,3] 9 #[.pointer (some ⟨g,0,none⟩),.int .i64 l.length]).run Go.Proofs.Tryz.prog w.drew=.ok (.string ⟨l.toArray⟩) (w.drew.freeze ⟨g,0,none⟩ l.length):=
  Lib.run_unsafeString_row w.drew 380 3 9 5 Go.Proofs.Tryz.underlying380 (by kernel_rfl) g cells hsh l h0 hn (by omega) hcell
 go_enter Go.Proofs.Tryz.func354,Go.Proofs.Tryz.ntmps354
 go_wp2
 go_region
 all_goals (go_wp2;go_ret;exact⟨rfl,rfl⟩)
theorem z7d:Entry Go.Proofs.Tryz.prog 354 z1b true:=
 z0r ⟨_,Go.Proofs.Tryz.func354,rfl,by decide⟩ (λa K D w hs hk=>by
  obtain⟨q,u⟩:=a
  obtain⟨b,bl,p,hp,hb,he,hf,hc⟩:=hk
  simp only at hp
  subst hp
  have hw:=hs _ _ hb
  rw[he,hf]at hw
  rcases hc with ⟨hcs,hK⟩ | ⟨g,c,l,bg,h0,hcs,hlc,hg,hge,hlg,h63,hall,hK⟩
  . rw[hcs]at hw
    refine(z6m b p w hw).mono ?_
    rintro e w' ⟨rfl,rfl⟩
    exact⟨_,D,rfl,(Wr.cmp _ _).2 hK,hs,zcm D w,λk h1 h2=>absurd h2 h1⟩
  . rw[hcs]at hw
    have hwg:=hs _ _ hg
    rw[hge]at hwg
    have hltg:=Xb hwg
    refine(z6n b g c bg.cells.length p l w h0 hw hlc (by simp[World.shape?,hwg]) hlg h63 (λj x hj=>?_)).mono ?_
    . rw[z17,Nat.zero_add]
      unfold World.cell?
      simp only[hwg]
      simp[hall j x hj]
    . rintro e w' ⟨rfl,rfl⟩
      have hsz:(w.drew.freeze ⟨g,0,none⟩ l.length).heap.size=w.heap.size:=by
       unfold World.freeze
       split
       . rfl
       . simp only[Array.size_modify]
         rfl
      have hne:∀k,k≠g->(w.drew.freeze ⟨g,0,none⟩ l.length).heap[k]?=w.heap[k]?:=λk hk=>by
       unfold World.freeze
       split
       . rfl
       . simp only[Array.getElem?_modify]
         rw[if_neg (λhh=>hk hh.symm)]
         rfl
      refine⟨_,_,rfl,(Wr.cmp _ _).2 hK,?_,?_,?_⟩
      . intro k cb hk
        by_cases hkg:k=g
        . simp[hkg]at hk
        . simp only[if_neg hkg]at hk
          rw[hne k hkg];exact hs k cb hk
      . refine⟨Nat.le_of_eq hsz.symm,λk hk1 hk2=>?_,?_,?_,?_,?_⟩
        . exact hne k λhh=>by rw[hh,hg]at hk2;cases hk2
        . unfold World.freeze;split<;>rfl
        . unfold World.freeze;split<;>rfl
        . unfold World.freeze;split<;>rfl
        . unfold World.freeze;split<;>exact Nat.le_succ _
      . intro k hk1 hk2
        by_cases hkg:k=g
        . simp[hkg]at hk1
        . simp only[if_neg hkg]at hk1;exact absurd hk2 hk1)
def zzk:zl:=mkM (ap (ac (Ty.leaf (.int .u8)) az)) (Ty.leaf .val) λa=>F.z13 a.1 a.2.1
theorem Zeh:EnP 351 zzk true:=eoM { P:=prog,n:=17,tab:=[(367,Xs)],mutL:=[367],locL:=[13],tyL:=[5] } (.q (.q (.q .w))) func351 ⟨z03,trivial⟩
def zzl:zl:=mkE (ac qd az) (Ty.leaf .str) λa=>F.z2m a.1
theorem Zei:EnP 319 zzl false:=eo { P:=prog,n:=74,tab:=[(210,z5t),(213,zjs),(279,Z3l),(352,zze),(353,zzf),(320,zr9),(354,z1b),(351,zzk)],mutL:=[353,354,351],rtL:=[(11,1),(51,1)],locL:=[1,4,49],backs:=[(316,(.leaf (.int .u32)))],tyL:=[364] } (.q (.q (.s (.q (.c .w .l)) (.q (.s (.b (.loop [(3,.s),(4,.box [.sl])] (.s (.q (.c .l .l)) (.b (.q (.s (.q (.b (.loop [(5,.leaf (.int .u64)),(6,.i)] (.s (.q (.c .l .l)) (.s (.b (.q .w)) .l))))) .w)))))) (.q (.join [] (.q (.c .l .l)) (.s (.q (.b (.back [] .w (.b (.q (.join [] (.q (.c .l .l)) .l)))))) .w)))))))) func319 ⟨z71,zpa,Zay,Zeb,Zec,Z5n,z7d,Zeh,trivial⟩ ⟨zy6,trivial⟩
def zzm:zl:=mkE (ac Qq az) (t2 (Ty.leaf .str) tb) λa=>F.z1o a.1
theorem Zej:EnP 280 zzm false:=eo (cgP 65 [(133,zbr),(197,zld),(317,zr4),(318,zr8),(319,zzl),(320,zr9),(73,zjt),(77,zju)] [] [(23,1),(31,1)] [1,4,5]) (.q (.join [] (.q (.c .w .l)) (.q (.q (.s (.q (.b (.loop [(1,.box [.bool,.sl,.bool,.sl]),(6,.i)] (.s (.q (.c .l .l)) (.s (.b (.s (.q (.c .w .l)) (.q (.join [(7,.leaf (.str))] (.q (.c (.join [(7,.leaf (.str))] (.q (.q (.c .l .l))) (.draw [0,1,2,3,4,5,6,7,8,9,10,11,12,13,14])) .l)) .w)))) .l))))) .w))))) func280 ⟨zen,ztd,Z5i,Z5m,Zei,Z5n,zpb,zpc,trivial⟩
def zra:zl:=mkE (ac (Ty.leaf (.int .u8)) az) tb λa=>F.z07 a.1
theorem Z5o:EnP 321 zra false:=eo (cgP 17 []) (.q .w) func321 trivial
def zzn:zl:=mkE (ac (Ty.leaf (.int .u8)) az) tb λa=>F.z1f a.1
theorem Zek:EnP 359 zzn false:=eo (cgP 9 []) (.q .w) func359 trivial
def zzo:zl:=mkE (ac (Ty.leaf (.int .u8)) az) tb λa=>F.z5a a.1
theorem Zel:EnP 323 zzo false:=eo (cgP 13 [(321,zra),(359,zzn)]) (.q .w) func323 ⟨Z5o,Zek,trivial⟩
def zzp:zl:=mkE (ac (Ty.leaf .str) (ArgT.fn 323 az)) ti λa=>F.Xk a.1
theorem Zem:EnP 322 zzp false:=eo (cgP 20 [(323,zzo)]) (.q (.q (.s (.b (.loop [(5,.i)] (.join [] (.q (.c .l .l)) (.b .l)))) .w))) func322 ⟨Zel,trivial⟩
def zzq:zl:=mkE (ac (Ty.leaf .str) az) tb λa=>F.z0o a.1
theorem Zen:EnP 281 zzq false:=eo (cgP 22 [(321,zra),(322,zzp)]) (.q .w) func281 ⟨Z5o,Zem,trivial⟩
def zzr:zl:=mkE (ac Qq az) tb λa=>F.z2j a.1
theorem Zeo:EnP 282 zzr false:=eo (cgP 27 [] [] [(3,1),(4,1),(9,1),(10,1),(16,1),(17,1),(22,1),(23,1)] [1]) (.q .w) func282 trivial
def zdj:ArgT (TExpr×Unit):=(ac z8u az)
def zdm:Ty Bool:=tb
def Zb3:ArgT (TExpr×Unit):=(ac z8u az)
def Zbd:Ty Bool:=tb
def zzs(Zle:TExpr->(Bool->Hp->Prop)->Hp->Prop):zl:=mkE Zb3 Zbd λa=>F.z0l Zle a.1
theorem Zep(Zle:TExpr->(Bool->Hp->Prop)->Hp->Prop)(Zlh:EnP 222 (mkE zdj zdm (λa=>Zle a.1)) false):EnP 283 (zzs Zle) false:=eo (cgP 6 [(222,mkE zdj zdm (λa=>Zle a.1))] [] [] [1]) (.q .w) func283 ⟨Zlh,trivial⟩
def Zb4:ArgT (Sl×Unit):=(asl (ArgT.fn 283 az))
def Zbe:Ty Int:=ti
def zzt(Zle:TExpr->(Bool->Hp->Prop)->Hp->Prop):zl:=mkE Zb4 Zbe λa=>F.yp Zle a.1
theorem Zeq(Zle:TExpr->(Bool->Hp->Prop)->Hp->Prop)(Zlh:EnP 222 (mkE zdj zdm (λa=>Zle a.1)) false):EnP 221 (zzt Zle) false:=eo (cgP 19 [(283,(zzs Zle))]) (.q (.s (.q (.b (.loop [(8,.i)] (.q (.s (.c .l .l) (.s (.b (.q (.q (.c .w .l)))) .l)))))) .w)) func221 ⟨(Zep Zle Zlh),trivial⟩
def Zb5:ArgT (Sl×Unit):=(asl (ArgT.fn 283 az))
def Zbf:Ty Bool:=tb
def zzu(Zle:TExpr->(Bool->Hp->Prop)->Hp->Prop):zl:=mkE Zb5 Zbf λa=>F.yc Zle a.1
theorem Zer(Zle:TExpr->(Bool->Hp->Prop)->Hp->Prop)(Zlh:EnP 222 (mkE zdj zdm (λa=>Zle a.1)) false):EnP 162 (zzu Zle) false:=eo (cgP 9 [(221,(zzt Zle))]) (.q .w) func162 ⟨(Zeq Zle Zlh),trivial⟩
def zzv:zl:=mkE zdj zdm λa=>F.z2i a.1
def Zbn(n:Nat):Cfg:=(cgP 68 [(280,zzm),(281,zzq),(282,zzr),(162,(zzu (F.qx n)))] [] [(5,1),(9,1),(14,1),(17,1),(23,1),(28,1),(35,1),(39,1),(46,1),(50,1),(54,1),(58,1),(63,1)] [1])
theorem Z6t:∃fn,prog.funcs[222]?=some fn/\fn.body.isNone=false/\(fn.name == "runtime.NumGoroutine")=false:=⟨_,func222,rfl,by decide⟩
set_option maxHeartbeats 4000000 in
theorem Z77:∀n a K D w,Sub D w->F.qx n a.1 K D->Calls prog 222 (zdj.up a).toArray w (z52 (λv h=>zdm.dn v λr=>K r h) D w)
 | 0,_,_,_,_,_,h=>h.elim
 | n+1,a,K,D,w,hs,h=>z0g (C:=Zbn n) (F:=λa=>F.qx (n+1) a.1) (fn:=f222) (c:=bd f222) (an:=(.seq .leaf (.join [] (.seq (.draw [0,1,2,3,4,5,6,7,8,9,10,11,12,13,14,15,16,17]) (.cond (.seq .leaf .leaf) .leaf)) (.seq (.seq .leaf (.block (.seq .leaf (.cond (.seq .leaf (.seq .leaf .leaf)) (.seq .leaf (.cond (.seq .leaf .leaf) .leaf)))))) (.seq .leaf .leaf))))) ⟨Zej,Zen,Zeo,(Zer (F.qx n) (Y7 Z6t (Z77 n))),trivial⟩ trivial func222 rfl rfl (λ_=>rfl) (by intro a K D;kernel_rfl) a K D w hs h
theorem Zes:EnP 222 zzv false:=Y7 Z6t (λa K D w hs h=>h.elim λm h=>Z77 m a K D w hs h)
def zpn:ArgT (TExpr×Unit):=(ac z8u az)
def zq4:Ty Int:=ti
def zzw:zl:=mkE zpn zq4 λa=>F.z3u a.1
def Zbo(n:Nat):Cfg:=(cgP 20 [(223,mkE zpn zq4 (λa=>F.Xz n a.1))] [] [(6,1)] [1,5])
theorem Z6u:∃fn,prog.funcs[223]?=some fn/\fn.body.isNone=false/\(fn.name == "runtime.NumGoroutine")=false:=⟨_,func223,rfl,by decide⟩
set_option maxHeartbeats 4000000 in
theorem Z78:∀n a K D w,Sub D w->F.Xz n a.1 K D->Calls prog 223 (zpn.up a).toArray w (z52 (λv h=>zq4.dn v λr=>K r h) D w)
 | 0,_,_,_,_,_,h=>h.elim
 | n+1,a,K,D,w,hs,h=>z0g (C:=Zbo n) (F:=λa=>F.Xz (n+1) a.1) (fn:=f223) (c:=bd f223) (an:=(.seq .leaf (.seq .leaf (.seq (.seq .leaf (.block (.loop [(3,.i),(9,.i)] (.seq .leaf (.seq (.cond .leaf .leaf) (.seq (.block (.seq .leaf .leaf)) .leaf)))))) (.seq .leaf .leaf))))) ⟨(Y7 Z6u (Z78 n)),trivial⟩ trivial func223 rfl rfl (λ_=>rfl) (by intro a K D;kernel_rfl) a K D w hs h
theorem Zet:EnP 223 zzw false:=Y7 Z6u (λa K D w hs h=>h.elim λm h=>Z78 m a K D w hs h)
def zzx:zl:=mkE (ac z8u az) ti λa=>F.z3v a.1
theorem Zeu:EnP 164 zzx false:=eo (cgP 11 [(222,zzv),(223,zzw)] [] [] [1]) (.q (.s (.b (.q (.c .w (.q (.c .w .l))))) .w)) func164 ⟨Zes,Zet,trivial⟩
def zzy:zl:=mkE (ac z8u az) tb λa=>F.Vi a.1
theorem Zev:EnP 163 zzy false:=eo (cgP 6 [(164,zzx)] [] [] [1]) (.q .w) func163 ⟨Zeu,trivial⟩
def zzz:zl:=mkE (asl (ArgT.fn 163 az)) ti λa=>F.yi a.1
theorem Zew:EnP 221 zzz false:=eo (cgP 19 [(163,zzy)]) (.q (.s (.q (.b (.loop [(8,.i)] (.q (.s (.c .l .l) (.s (.b (.q (.q (.c .w .l)))) .l)))))) .w)) func221 ⟨Zev,trivial⟩
def Z00:zl:=mkE (asl (ArgT.fn 163 az)) tb λa=>F.Zp a.1
theorem Zex:EnP 162 Z00 false:=eo (cgP 9 [(221,zzz)]) (.q .w) func162 ⟨Zew,trivial⟩
def Z01:zl:=mkE (asl az) tb λa=>F.z0k a.1
theorem Zey:EnP 165 Z01 false:=eo (cgP 49 []) (.q (.s (.draw [0,1,2,3,4,5,6,7,8,9,10,11,12,13,14,15]) .w)) func165 trivial
def zrb:zl:=mkE (asl (ai az)) ti λa=>F.Xh a.1 a.2.1
theorem Z5p:EnP 104 zrb false:=eo (cgP 19 []) (.q (.s (.q (.b (.loop [(8,.i)] (.q (.s (.c .l .l) (.s (.b (.q (.q (.c .w .l)))) .l)))))) .w)) func104 trivial
end Den
end

noncomputable section
set_option maxRecDepth 100000
namespace Den
open Go Go.Proofs.Tryz
def z9b:zl:=mkE (asl (ai az)) tb λa=>F.Z2 a.1 a.2.1
theorem zc6:EnP 40 z9b false:=eo (cgP 9 [(104,zrb)]) (.q .w) func40 ⟨Z5p,trivial⟩
def Z02:zl:=mkE (asl az) tb λa=>F.Xc a.1
theorem Zez:EnP 166 Z02 false:=eo (cgP 18 [(40,z9b)]) (.q (.s (.q (.b (.loop [(7,.i)] (.q (.s (.c .l .l) (.s (.b (.q (.q (.c .w .l)))) .l)))))) .w)) func166 ⟨zc6,trivial⟩
def Z03:zl:=mkE (ai (ap az)) tb λa=>F.z14 a.1 a.2.1
theorem Zf0:EnP 220 Z03 false:=eo (cgP 11 []) (.q .w) func220 trivial
def Z04:zl:=mkE (asl (ArgT.fnc 220 1 az)) ti λa=>F.Yk a.1 a.2.1
theorem Zf1:EnP 98 Z04 false:=eo (cgP 19 [(220,Z03)]) (.q (.s (.q (.b (.loop [(8,.i)] (.q (.s (.c .l .l) (.s (.b (.q (.q (.c .w .l)))) .l)))))) .w)) func98 ⟨Zf0,trivial⟩
def Z05:zl:=mkE (asl (ArgT.fnc 220 1 az)) tb λa=>F.Ya a.1 a.2.1
theorem Zf2:EnP 92 Z05 false:=eo (cgP 9 [(98,Z04)]) (.q .w) func92 ⟨Zf1,trivial⟩
def Z06:zl:=mkE (asl (ai (ai az))) tb λa=>F.Wm a.1 a.2.1 a.2.2.1
theorem Zf3:EnP 161 Z06 false:=eo (cgP 17 [(92,Z05)]) (.q .w) func161 ⟨Zf2,trivial⟩
def Z07:zl:=mkE (ac Q8 (ai (ai az))) tb λa=>F.z0j a.1 a.2.1 a.2.2.1
theorem Zf4:EnP 88 Z07 false:=eo (cgP 86 [(160,zr3),(162,Z00),(165,Z01),(166,Z02),(161,Z06)] [] [(10,3),(18,3),(20,7),(27,3),(29,7),(36,3),(39,7),(43,3),(46,7),(49,3),(54,3),(59,7),(63,3),(68,3),(75,3),(78,3),(82,3)] [3,7]) (.q (.q (.join [] (.q (.c .w .l)) (.s (.q (.c .w .l)) (.join [] (.q (.c .w .l)) (.s (.q (.b (.join [(70,.b)] (.q (.c .l (.q (.c .l (.q (.c .l .l)))))) (.c .w .l)))) .w)))))) func88 ⟨Z5h,Zex,Zey,Zez,Zf3,trivial⟩
def Z08:zl:=mkE (ac Q8 (ap (ap az))) tb λa=>F.z6g a.1 a.2.1 a.2.2.1
theorem Zf5:EnP 87 Z08 false:=eo (cgP 9 [(88,Z07)] [] [] [3]) (.q .w) func87 ⟨Zf4,trivial⟩
def Z09:zl:=mkE (ac Q8 (ap az)) tb λa=>F.Ys a.1 a.2.1
theorem Zf6:EnP 159 Z09 false:=eo { P:=prog,n:=8,tab:=[(87,Z08)],locL:=[2],fnL:=[(4,87,2)] } (.q .w) func159 ⟨Zf5,trivial⟩
def Z0a:zl:=mkE (asl (ArgT.fnc 159 1 az)) ti λa=>F.zy a.1 a.2.1
theorem Zf7:EnP 219 Z0a false:=eo (cgP 19 [(159,Z09)]) (.q (.s (.q (.b (.loop [(8,.i)] (.q (.s (.c .l .l) (.s (.b (.q (.q (.c .w .l)))) .l)))))) .w)) func219 ⟨Zf6,trivial⟩
def Z0b:zl:=mkE (asl (ArgT.fnc 159 1 az)) tb λa=>F.zx a.1 a.2.1
theorem Zf8:EnP 158 Z0b false:=eo (cgP 9 [(219,Z0a)]) (.q .w) func158 ⟨Zf7,trivial⟩
def Z0c:zl:=mkE (asl (ArgT.fnc 87 2 az)) tb λa=>F.yx a.1 a.2.1
theorem Zf9:EnP 86 Z0c false:=eo (cgP 9 [(158,Z0b)]) (.q .w) func86 ⟨Zf8,trivial⟩
def zrc:zl:=mkE (ac z00 az) ti λa=>F.z0y a.1
theorem Z5q:EnP 35 zrc false:=eo (cgP 49 [(70,Z9u),(71,Zaa),(74,Zaf),(78,Zak),(80,zyw),(83,zz3),(86,Z0c)] [] [] [3,4]) (.q (.s (.q (.c .w .l)) (.s (.drawP [0,1,2,3,4,5,6,7,8,9] [3,4]) (.join [(5,.b)] .l (.s (.q (.c .w .l)) .w))))) func35 ⟨Zjl,Zk1,Zk6,Zkb,Zdt,Ze0,Zf9,trivial⟩
def Z0d:zl:=mkE (asl (asl az)) tb λa=>F.Xg a.1 a.2.1
theorem Zfa:EnP 225 Z0d false:=eo (cgP 26 []) (.q (.s (.q (.c .w .l)) (.s (.q (.b (.loop [(13,.i)] (.q (.s (.c .l .l) (.s (.b (.q (.s (.draw [0,1,2,3,4,5,6,7,8]) (.c .w .l)))) .l)))))) .w))) func225 trivial
def Z0e:zl:=mkE (asl (asl az)) tb λa=>F.z0c a.1 a.2.1
theorem Zfb:EnP 324 Z0e false:=eo (cgP 26 []) (.q (.s (.q (.c .w .l)) (.s (.q (.b (.loop [(13,.i)] (.q (.s (.c .l .l) (.s (.b (.q (.s (.draw [0,1,2,3,4,5,6,7,8]) (.c .w .l)))) .l)))))) .w))) func324 trivial
def Z0f:zl:=mkE (ac qd (ac qd az)) tb λa=>F.z3b a.1 a.2.1
theorem Zfc:EnP 284 Z0f false:=eo (cgP 17 [(324,Z0e)] [] [(5,2),(7,3),(11,2),(13,3)] [2,3]) (.q .w) func284 ⟨Zfb,trivial⟩
def zko:ArgT (Sl×Sl×Unit):=(asl (asl (ArgT.fn 227 az)))
def zks:Ty Bool:=tb
def Zb6:ArgT (TExpr×TExpr×Unit):=(ac z8u (ac z8u az))
def Zbg:Ty Bool:=tb
def Z0g(Zlf:Sl->Sl->(Bool->Hp->Prop)->Hp->Prop):zl:=mkE Zb6 Zbg λa=>F.zb8 Zlf a.1 a.2.1
theorem Zfd(Zlf:Sl->Sl->(Bool->Hp->Prop)->Hp->Prop)(Zli:EnP 226 (mkE zko zks (λa=>Zlf a.1 a.2.1)) false):EnP 227 (Z0g Zlf) false:=eo (cgP 42 [(284,Z0f),(226,mkE zko zks (λa=>Zlf a.1 a.2.1))] [] [(5,2),(7,3),(11,2),(13,3),(18,2),(19,2),(21,3),(22,3),(27,2),(28,2),(30,3),(31,3),(36,2),(38,3)] [2,3]) (.q .w) func227 ⟨Zfc,Zli,trivial⟩
def Z0h:zl:=mkE zko zks λa=>F.Zu a.1 a.2.1
def Zbp(n:Nat):Cfg:=(cgP 32 [(227,(Z0g (F.zn n)))] [] [] [8,9])
theorem Z6v:∃fn,prog.funcs[226]?=some fn/\fn.body.isNone=false/\(fn.name == "runtime.NumGoroutine")=false:=⟨_,func226,rfl,by decide⟩
set_option maxHeartbeats 4000000 in
theorem Z79:∀n a K D w,Sub D w->F.zn n a.1 a.2.1 K D->Calls prog 226 (zko.up a).toArray w (z52 (λv h=>zks.dn v λr=>K r h) D w)
 | 0,_,_,_,_,_,h=>h.elim
 | n+1,a,K,D,w,hs,h=>z0g (C:=Zbp n) (F:=λa=>F.zn (n+1) a.1 a.2.1) (fn:=f226) (c:=bd f226) (an:=(.seq .leaf (.seq (.seq .leaf (.cond (.seq .leaf .leaf) .leaf)) (.seq (.seq .leaf (.block (.loop [(17,.i)] (.seq .leaf (.seq (.cond .leaf .leaf) (.seq (.block (.seq .leaf (.seq .leaf (.seq .leaf (.cond (.seq .leaf .leaf) .leaf))))) .leaf)))))) (.seq .leaf .leaf))))) ⟨(Zfd (F.zn n) (Y7 Z6v (Z79 n))),trivial⟩ trivial func226 rfl rfl (λ_=>rfl) (by intro a K D;kernel_rfl) a K D w hs h
theorem Zfe:EnP 226 Z0h false:=Y7 Z6v (λa K D w hs h=>h.elim λm h=>Z79 m a K D w hs h)
def Z0i:zl:=mkE (ac Q8 (ac Q8 az)) tb λa=>F.z0i a.1 a.2.1
theorem Zff:EnP 172 Z0i false:=eo (cgP 38 [(225,Z0d),(226,Z0h)] [] [(5,2),(7,3),(11,2),(13,3),(18,2),(20,3),(25,2),(27,3),(32,2),(34,3)] [2,3]) (.q .w) func172 ⟨Zfa,Zfe,trivial⟩
def Z0j:zl:=mkE (ac Q8 (ap az)) tb λa=>F.z0x a.1 a.2.1
theorem Zfg:EnP 171 Z0j false:=eo (cgP 7 [(172,Z0i)] [] [] [2]) (.q .w) func171 ⟨Zff,trivial⟩
def Z0k:zl:=mkE (asl (ArgT.fnc 171 1 az)) ti λa=>F.Zx a.1 a.2.1
theorem Zfh:EnP 219 Z0k false:=eo (cgP 19 [(171,Z0j)]) (.q (.s (.q (.b (.loop [(8,.i)] (.q (.s (.c .l .l) (.s (.b (.q (.q (.c .w .l)))) .l)))))) .w)) func219 ⟨Zfg,trivial⟩
def Z0l:zl:=mkE (asl (ArgT.fnc 171 1 az)) tb λa=>F.zo a.1 a.2.1
theorem Zfi:EnP 158 Z0l false:=eo (cgP 9 [(219,Z0k)]) (.q .w) func158 ⟨Zfh,trivial⟩
def Z0m:zl:=mkE (ac z00 az) ts λa=>F.z2y a.1
theorem Zfj:EnP 96 Z0m false:=eo (cgP 52 [(158,Z0l)] [] [(10,1),(17,5),(19,5),(29,5),(34,1)] [1,5,47]) (.q (.q (.s (.q (.b (.loop [(3,.s),(13,.i)] (.q (.s (.c .l .l) (.s (.b (.q (.q (.b (.loop [(3,.s),(23,.i)] (.q (.s (.c .l .l) (.join [(3,.s)] (.b (.q (.q (.q (.q (.c .l .l)))))) .l)))))))) .l)))))) .w))) func96 ⟨Zfi,trivial⟩
def Z0n:zl:=mkE (asl (ai az)) ts λa=>F.yr a.1 a.2.1
theorem Zfk:EnP 170 Z0n false:=eo (cgP 27 []) (.q (.join [] (.q (.c .l .l)) (.s (.q (.q (.c .l .l))) .w))) func170 trivial
def Z0o:zl:=mkE (asl az) ts λa=>F.yh a.1
theorem Zfl:EnP 95 Z0o false:=eo (cgP 36 [(170,Z0n)]) (.q (.q (.s (.q (.b (.loop [(3,.i),(11,.i)] (.q (.s (.c .l .l) (.join [(3,.i)] (.b (.q (.q (.q (.c .l .l))))) .l)))))) (.q (.s (.q (.b (.loop [(6,.s),(27,.i)] (.q (.s (.c .l .l) (.s (.b .w) .l)))))) .w))))) func95 ⟨Zfk,trivial⟩
def Z0p:zl:=mkE (asl az) ts λa=>F.Wp a.1
theorem Zfm:EnP 97 Z0p false:=eo (cgP 8 []) (.q (.s (.q (.c .w .l)) .w)) func97 trivial
def Z0q:zl:=mkE (ac z00 az) (Ty.leaf .ptr) λa=>F.z01 a.1
theorem Zfn:EnP 38 Z0q false:=eo (cgP 99 [(96,Z0m),(95,Z0o),(97,Z0p)] [] [(12,1),(20,1),(32,5),(48,7),(51,7),(63,7),(67,7),(72,7)] [1,5,7,34,61,84,93]) (.q (.s (.draw [0,1,2,3,4,5,6,7,8,9]) (.s (.q (.b (.loop [(23,.i)] (.q (.s (.c .l .l) (.s (.b (.q (.draw [0,1,2,3,4,5,6,7,8,9,10,11]))) .l)))))) (.s (.q (.b (.loop [(44,.i)] (.q (.s (.c .l .l) (.s (.b (.q (.q (.s (.q (.b (.loop [(8,.s),(54,.i)] (.q (.s (.c .l .l) (.join [(8,.s)] (.b (.q (.q (.q (.c .l .l))))) .l)))))) .l)))) .l)))))) .w)))) func38 ⟨Zfj,Zfl,Zfm,trivial⟩
def Z0r:zl:=mkE (ap az) ts λa=>F.y_henneberg_peeler_all a.1
theorem Zfo:EnP 99 Z0r false:=eo (cgP 36 [] [] [] [17,32]) (.q (.q (.s (.q (.b (.loop [(3,.s),(12,.i)] (.q (.s (.c .l .l) (.s (.b .w) .l)))))) (.s (.q (.b (.loop [(3,.s),(26,.i)] (.q (.s (.c .l .l) (.s (.b .w) .l)))))) .w)))) func99 trivial
def Z0s:zl:=mkE (ai (ap az)) tb λa=>F.y_henneberg_peeler_remaining_1 a.1 a.2.1
theorem Zfp:EnP 228 Z0s false:=eo (cgP 7 [(40,z9b)]) (.q .w) func228 ⟨zc6,trivial⟩
def Z0t:zl:=mkE (asl (ArgT.fnc 228 1 az)) ti λa=>F.ye a.1 a.2.1
theorem Zfq:EnP 98 Z0t false:=eo (cgP 19 [(228,Z0s)]) (.q (.s (.q (.b (.loop [(8,.i)] (.q (.s (.c .l .l) (.s (.b (.q (.q (.c .w .l)))) .l)))))) .w)) func98 ⟨Zfp,trivial⟩
def Z0u:zl:=mkE (asl (ArgT.fnc 228 1 az)) tb λa=>F.Z4 a.1 a.2.1
theorem Zfr:EnP 92 Z0u false:=eo (cgP 9 [(98,Z0t)]) (.q .w) func92 ⟨Zfq,trivial⟩
def Z0v:zl:=mkE (ap (ai (asl az))) ts λa=>F.y_henneberg_peeler_remaining a.1 a.2.1 a.2.2.1
theorem Zfs:EnP 173 Z0v false:=eo (cgP 35 [(40,z9b),(92,Z0u)] [] [] [31]) (.q (.q (.s (.q (.b (.loop [(7,.s),(15,.i)] (.q (.s (.c .l .l) (.join [(7,.s)] (.b (.q (.q (.c .l .l)))) .l)))))) .w))) func173 ⟨zc6,Zfr,trivial⟩
def zrd:zl:=mkE (ap (ai az)) ti λa=>F.y_henneberg_peeler_equations a.1 a.2.1
theorem Z5r:EnP 178 zrd false:=eo (cgP 21 [(160,zr3)] [] [(19,5)] [5]) (.q (.q .w)) func178 ⟨Z5h,trivial⟩
def Z0w:zl:=mkE (ap (asl az)) ti λa=>F.y_henneberg_peeler_weight a.1 a.2.1
theorem Zft:EnP 174 Z0w false:=eo (cgP 21 [(178,zrd)]) (.q (.q (.s (.q (.b (.loop [(5,.i),(10,.i)] (.q (.s (.c .l .l) (.s (.b .w) .l)))))) .w))) func174 ⟨Z5r,trivial⟩
def Z0x:zl:=mkE (ac Q8 (asl (ai az))) tb λa=>F.z6t a.1 a.2.1 a.2.2.1
theorem Zfu:EnP 176 Z0x false:=eo (cgP 52 [(104,zrb),(40,z9b)] [] [(8,3),(14,3),(22,3),(32,3),(37,3),(44,3)] [3]) (.q (.q (.s (.q (.c .w .l)) (.s (.q (.b (.join [(16,.b)] (.q (.c .l .l)) (.c .w (.join [(19,.b)] (.q (.c .l .l)) (.c (.s (.draw [0,1,2,3,4,5,6,7,8]) .l) (.q (.c (.s (.draw [0,1,2,3,4,5,6,7,8,9,10,11,12,13,14,15,16,17,18,19,20]) .l) .l)))))))) .w)))) func176 ⟨Z5p,zc6,trivial⟩
def Z0y:zl:=mkE (ai (ap (ap az))) tb λa=>F.y_henneberg_peeler_removable_1 a.1 a.2.1 a.2.2.1
theorem Zfv:EnP 175 Z0y false:=eo (cgP 20 [(176,Z0x)]) (.q (.s (.draw [0,1,2,3,4,5,6,7,8,9,10,11,12,13,14,15]) .l)) func175 ⟨Zfu,trivial⟩
def Z0z:zl:=mkE (asl (ArgT.fnc 175 2 az)) ti λa=>F.yf a.1 a.2.1
theorem Zfw:EnP 98 Z0z false:=eo (cgP 19 [(175,Z0y)]) (.q (.s (.q (.b (.loop [(8,.i)] (.q (.s (.c .l .l) (.s (.b (.q (.q (.c .w .l)))) .l)))))) .w)) func98 ⟨Zfv,trivial⟩
def Z10:zl:=mkE (asl (ArgT.fnc 175 2 az)) tb λa=>F.Z5 a.1 a.2.1
theorem Zfx:EnP 92 Z10 false:=eo (cgP 9 [(98,Z0z)]) (.q .w) func92 ⟨Zfw,trivial⟩
def Z11:zl:=mkE (ac Q8 (ai az)) ts λa=>F.z5b a.1 a.2.1
theorem Zfy:EnP 285 Z11 false:=eo (cgP 25 [] [] [(8,2)] [2,21]) (.q (.q (.s (.q (.b (.loop [(5,.s),(11,.i)] (.q (.s (.c .l .l) (.join [(5,.s)] (.b (.q (.q (.c .l .l)))) .l)))))) .w))) func285 trivial
def Z12:zl:=mkE (ai (ap (ap (ap az)))) tb λa=>F.Vo a.1 a.2.1 a.2.2.1 a.2.2.2.1
theorem Zfz:EnP 286 Z12 false:=eo (cgP 16 []) (.q (.s (.draw [0,1,2,3,4,5,6,7,8,9,10]) .l)) func286 trivial
end Den
end

noncomputable section
set_option maxRecDepth 100000
namespace Den
open Go Go.Proofs.Tryz
def Z13:zl:=mkE (ac Q8 (asl (ai az))) ti λa=>F.z8c a.1 a.2.1 a.2.2.1
theorem Zg0:EnP 229 Z13 false:=eo (cgP 77 [(285,Z11),(286,Z12)]) (.q (.q (.q (.s (.q (.b (.q (.c (.s (.q (.c .w .l)) .w) (.q (.c (.s (.q (.c .w .l)) .w) (.q (.c (.s (.q (.c .w .l)) .w) .l)))))))) (.s (.q (.c .w .l)) (.s (.q (.b (.join [(44,.b)] (.q (.c .l .l)) (.c .w (.q (.c .w (.join [(49,.b)] (.q (.c .l (.q (.c .l (.q (.c .l .l)))))) (.c .w (.q (.c (.q (.c .w .l)) (.q (.c (.q (.c .w .l)) (.join [(66,.b)] (.q (.c .l .l)) (.c (.s (.q (.c .w .l)) .w) (.q (.c (.s (.q (.c .w .l)) .w) .l)))))))))))))))) .w)))))) func229 ⟨Zfy,Zfz,trivial⟩
def Z14:zl:=mkE (ap (ai (ai az))) ti λa=>F.y_henneberg_peeler_kind a.1 a.2.1 a.2.2.1
theorem Zg1:EnP 177 Z14 false:=eo (cgP 20 [(229,Z13)]) (.q (.s (.draw [0,1,2,3,4,5,6,7,8,9,10,11,12,13]) .l)) func177 ⟨Zg0,trivial⟩
def Z15:zl:=mkE (ap (ai (asl az))) tb λa=>F.y_henneberg_peeler_removable a.1 a.2.1 a.2.2.1
theorem Zg2:EnP 101 Z15 false:=eo (cgP 60 [(40,z9b),(173,Z0v),(174,Z0w),(92,Z10),(177,Z14),(178,zrd)]) (.q (.s (.q (.c .w .l)) (.q (.s (.q (.c .w .l)) (.s (.q (.c .w .l)) (.s (.q (.b (.loop [(37,.i)] (.q (.s (.c .l .l) (.s (.b (.q (.q (.join [(11,.b)] .l (.join [(11,.b)] (.q (.c .l .l)) (.q (.c .w .l))))))) .l)))))) .w)))))) func101 ⟨zc6,Zfs,Zft,Zfx,Zg1,Z5r,trivial⟩
def Z16:zl:=mkE (ai (ap (ap az))) tb λa=>F.y_henneberg_peeler_peel_1 a.1 a.2.1 a.2.2.1
theorem Zg3:EnP 100 Z16 false:=eo (cgP 9 [(101,Z15)]) (.q .w) func100 ⟨Zg2,trivial⟩
def Z17:zl:=mkE (asl (ArgT.fnc 100 2 az)) ti λa=>F.Z1 a.1 a.2.1
theorem Zg4:EnP 98 Z17 false:=eo (cgP 19 [(100,Z16)]) (.q (.s (.q (.b (.loop [(8,.i)] (.q (.s (.c .l .l) (.s (.b (.q (.q (.c .w .l)))) .l)))))) .w)) func98 ⟨Zg3,trivial⟩
def zre:zl:=mkE (ai (ap az)) tb λa=>F.y_henneberg_peeler_peel_2 a.1 a.2.1
theorem Z5s:EnP 103 zre false:=eo (cgP 7 [(40,z9b)]) (.q .w) func103 ⟨zc6,trivial⟩
def Z18:zl:=mkE (asl (ArgT.fnc 103 1 az)) ti λa=>F.y7 a.1 a.2.1
theorem Zg5:EnP 98 Z18 false:=eo (cgP 19 [(103,zre)]) (.q (.s (.q (.b (.loop [(8,.i)] (.q (.s (.c .l .l) (.s (.b (.q (.q (.c .w .l)))) .l)))))) .w)) func98 ⟨Z5s,trivial⟩
def Z19:zl:=mkM (asl (ArgT.fnc 103 1 az)) ts λa=>F.Z0 a.1 a.2.1
theorem Zg6:EnP 102 Z19 true:=eoM (cgP 42 [(98,Z18),(103,zre)]) (.q (.q (.s (.q (.c .w .l)) (.s (.q (.b (.loop [(5,.i),(6,.i)] (.s (.q (.c .l .l)) (.join [(5,.i)] (.b (.q (.q (.c .w .l)))) .l))))) (.q .w))))) func102 ⟨Zg5,Z5s,trivial⟩
def Z1a:zl:=mkE (ap az) (t2 ts ts) λa=>F.y_henneberg_peeler_peel a.1
theorem Zg7:EnP 39 Z1a false:=eo (cgP 27 [(99,Z0r),(98,Z17),(102,Z19)] [102] [] [19]) (.q (.q (.s (.b (.loop [(4,.leaf (.ptr))] (.b (.q (.s (.q (.c .l .l)) (.draw [0,1,3,2,4,5,6,7,8])))))) (.q .w)))) func39 ⟨Zfo,Zg4,Zg6,trivial⟩
def Z1b:zl:=mkE (ac z00 az) (t2 ts ts) λa=>F.z2k a.1
theorem Zg8:EnP 13 Z1b false:=eo (cgP 12 [(35,zrc),(38,Z0q),(39,Z1a)] [] [] [1]) (.q (.s (.q (.c .w .l)) .w)) func13 ⟨Z5q,Zfn,Zg7,trivial⟩
def Z1c:zl:=mkE (ai (ai az)) tb λa=>F.z7n a.1 a.2.1
theorem Zg9:EnP 49 Z1c false:=eo (cgP 12 []) (.q .w) func49 trivial
def Z1d:zl:=mkE (asl az) ti λa=>F.zbp a.1
theorem Zga:EnP 168 Z1d false:=eo (cgP 18 []) (.q (.q (.s (.q (.b (.loop [(8,.i)] (.q (.s (.c .l .l) (.s (.b (.q (.q (.c .w .l)))) .l)))))) .w))) func168 trivial
def Z1e:zl:=mkE (ac z4k (ac z4k az)) ti λa=>F.z3w a.1 a.2.1
theorem Zgb:EnP 94 Z1e false:=eo (cgP 17 [(169,znt),(168,Z1d)] [] [(5,2),(7,3),(10,2),(12,3)] [2,3]) (.q (.s (.draw [0,1,2,3,5,6,7,8,4,9,10,11,12]) .l)) func94 ⟨zva,Zga,trivial⟩
def z88:zl:=mkE (ac Xp az) tb λa=>F.Xd a.1
theorem za8:EnP 37 z88 false:=eo (cgP 58 [(49,Z1c),(94,Z1e)] [] [(5,1),(9,1),(13,1),(21,1),(23,4),(28,1),(30,4),(36,4),(38,4),(46,1)] [1,4]) (.q (.join [] (.q (.c .w .l)) (.s (.q (.b (.loop [(16,.i)] (.q (.s (.c .l .l) (.join [] (.b (.q (.s (.draw [0,1,2,3,4,5,6,7,8,9,10,11,12,13,14,15,16,17,18,19,20,21,22,23,24,25,26,27,28,29,30,31,32,33,34,35]) (.c .w .l)))) .l)))))) .w))) func37 ⟨Zg9,Zgb,trivial⟩
def Z1f:zl:=mkE (ac Xp az) ts λa=>F.z87 a.1
theorem Zgc:EnP 12 Z1f false:=eo (cgP 94 [(37,z88)] [] [(14,1),(18,1),(21,1),(29,7),(36,7),(43,7),(50,7)] [1,7,90]) (.q (.s (.q (.c .w .l)) (.q (.s (.q (.b (.loop [(4,.b)] (.s (.q (.c .l .l)) (.b (.q (.q (.s (.q (.b (.loop [(24,.i)] (.q (.s (.c .l .l) (.join [] (.b (.q (.q (.c .w .l)))) .l)))))) (.q (.b (.loop [(4,.b),(59,.i)] (.q (.s (.c .l .l) (.join [(4,.b)] (.b (.q (.q (.c .l .l)))) .l)))))))))))))) (.q (.s (.q (.b (.loop [(9,.s),(80,.i)] (.q (.s (.c .l .l) (.join [(9,.s)] (.b (.q (.q (.c .l .l)))) .l)))))) .w)))))) func12 ⟨za8,trivial⟩
def Z1g:zl:=mkE (ac z00 az) tb λa=>F.Vj a.1
theorem Zgd:EnP 16 Z1g false:=eo (cgP 16 [(35,zrc),(13,Z1b)] [] [] [1]) (.q (.s (.q (.c .w .l)) (.q .w))) func16 ⟨Z5q,Zg8,trivial⟩
def Z1h:zl:=mkE (ai az) (Ty.leaf .ptr) λa=>F.z5c a.1
theorem Zge:EnP 105 Z1h false:=eo (cgP 7 []) (.q .w) func105 trivial
def zrf:zl:=mkE (ap (ai az)) ti λa=>F.y_pebble_game_free a.1 a.2.1
theorem Z5t:EnP 230 zrf false:=eo (cgP 14 []) (.q .w) func230 trivial
def Z1i:zl:=mkM (asl (ai (ai az))) ts λa=>F.qp a.1 a.2.1 a.2.2.1
theorem Zgf:EnP 287 Z1i true:=eoM (cgP 33 []) (.q (.q (.s (.q (.c .w .l)) (.q (.s (.draw [0,1,2,3,4,5,6,7]) (.q .w)))))) func287 trivial
def zpo:ArgT ((Option Addr)×Int×Sl×Unit):=(ap (ai (asl az)))
def zq5:Ty Bool:=tb
def Z1j:zl:=mkM zpo zq5 λa=>F.y_pebble_game_fetch a.1 a.2.1 a.2.2.1
def Zbq(n:Nat):Cfg:=(cgP 73 [(230,zrf),(287,Z1i),(231,mkM zpo zq5 (λa=>F.y_pebble_game_fetch_ n a.1 a.2.1 a.2.2.1))] [287,231] [] [69])
theorem Z6w:∃fn,prog.funcs[231]?=some fn/\fn.body.isNone=false/\(fn.name == "runtime.NumGoroutine")=false:=⟨_,func231,rfl,by decide⟩
set_option maxHeartbeats 4000000 in
theorem Z7a:∀n a K D w,Sub D w->F.y_pebble_game_fetch_ n a.1 a.2.1 a.2.2.1 K D->Calls prog 231 (zpo.up a).toArray w (z52 (λv h=>zq5.dn v λr=>K r h) D w)
 | 0,_,_,_,_,_,h=>h.elim
 | n+1,a,K,D,w,hs,h=>z0g (C:=Zbq n) (F:=λa=>F.y_pebble_game_fetch_ (n+1) a.1 a.2.1 a.2.2.1) (fn:=f231) (c:=bd f231) (an:=(.seq .leaf (.seq .leaf (.seq (.seq .leaf (.block (.loop [(20,.i)] (.seq .leaf (.seq (.cond .leaf .leaf) (.join [] (.block (.seq .leaf (.seq (.seq .leaf (.cond .leaf .leaf)) (.seq .leaf (.cond (.seq (.drawC [0,1,2,3,4,5,6,7,8,9,10,11,12,13,14] 15 [16,17] [3]) (.seq (.drawC [0,1,2,3,4,5,6,7,8,9,10,11,12,13] 14 [15,16] [3]) (.seq .leaf .leaf))) .leaf))))) .leaf)))))) (.seq .leaf .leaf))))) ⟨Z5t,Zgf,(z0r Z6w (Z7a n)),trivial⟩ trivial func231 rfl rfl (λ_=>rfl) (by intro a K D;kernel_rfl) a K D w hs h
theorem Zgg:EnP 231 Z1j true:=z0r Z6w (λa K D w hs h=>h.elim λm h=>Z7a m a K D w hs h)
def Z1k:zl:=mkM (ap (ai (ai az))) ti λa=>F.y_pebble_game_gather a.1 a.2.1 a.2.2.1
theorem Zgh:EnP 179 Z1k true:=eoM (cgP 51 [(230,zrf),(231,Z1j)] [231] [(23,8),(34,8),(38,8)] [8]) (.q (.s (.q (.b (.loop [(18,.i)] (.q (.s (.c .l .l) (.join [] (.b (.q (.b (.loop [] (.s (.q (.c .l .l)) (.b (.q (.q (.q (.c .l .l)))))))))) .l)))))) .w)) func179 ⟨Z5t,Zgg,trivial⟩
def Z1l:zl:=mkM (ap (ai (ai az))) tb λa=>F.y_pebble_game_accept a.1 a.2.1 a.2.2.1
theorem Zgi:EnP 106 Z1l true:=eoM (cgP 28 [(179,Z1k)] [179] [] [25]) (.q (.s (.q (.c .w .l)) (.s (.drawC [0,1,2,3,4,5,6,7,8,9,10,11,12,13] 14 [15,16] [3]) .w))) func106 ⟨Zgh,trivial⟩
def zrg:zl:=mkE (ai (asl az)) (t2 ts (Ty.leaf .ptr)) λa=>F.z4e a.1 a.2.1
theorem Z5u:EnP 41 zrg false:=eo (cgP 32 [(105,Z1h),(106,Z1l)] [106] [(20,9),(22,9)] [9,27]) (.q (.q (.q (.s (.q (.b (.loop [(7,.s),(14,.i)] (.q (.s (.c .l .l) (.join [(7,.s)] (.b (.q (.q (.c .l .l)))) .l)))))) .w)))) func41 ⟨Zge,Zgi,trivial⟩
def zlg:zl:=mkE (ac Xp az) ts λa=>F.Q0 a.1
theorem ztg:EnP 17 zlg false:=eo (cgP 17 [(37,z88),(41,zrg)] [] [(9,1),(11,1)] [1]) (.q (.s (.q (.c .w .l)) (.q .w))) func17 ⟨za8,Z5u,trivial⟩
def z5s:zl:=mkE az Xp λa=>F.z0z
theorem zc5:EnP 26 z5s false:=eo (cgP 8 [] [] [] [0]) (.q .w) func26 trivial
def Z1m:zl:=mkE (ac Qq az) Zt λa=>F.z7c a.1
theorem Zgj:EnP 195 Z1m false:=eo (cgP 6 [] [] [] [1,2]) (.q .w) func195 trivial
def Z1n:zl:=mkE (ai az) Zt λa=>F.z1l a.1
theorem Zgk:EnP 131 Z1n false:=eo (cgP 6 [(28,Zcw),(195,Z1m)] [] [] [2]) (.q .w) func131 ⟨Zjh,Zgj,trivial⟩
def Z1o:zl:=mkE (ai (ai az)) ts λa=>F.z8l a.1 a.2.1
theorem Zgl:EnP 58 Z1o false:=eo (cgP 23 [(131,Z1n)] [] [] [7,20]) (.q (.q (.s (.q (.b (.loop [(5,.s),(6,.i)] (.s (.q (.c .l .l)) (.s (.b (.q (.join [(7,.box [.sl,.sl])] (.q (.c .l .l)) .l))) .l))))) .w))) func58 ⟨Zgk,trivial⟩
def zrh:zl:=mkE (ac Qq az) Qq λa=>F.z0a a.1
theorem Z5v:EnP 196 zrh false:=eo (cgP 16 [(213,zjs)] [] [(3,1),(4,1),(7,1),(8,1),(11,1),(12,1),(13,1),(14,1)] [1,2]) (.q (.s (.draw [0,1,2,4,5,6,3,8,9,7,10,11,12,13]) .w)) func196 ⟨zpa,trivial⟩
end Den
end

noncomputable section
set_option maxRecDepth 100000
namespace Den
open Go Go.Proofs.Tryz
def Z1p:zl:=mkE (ac Qq az) Zt λa=>F.z2p a.1
theorem Zgm:EnP 132 Z1p false:=eo (cgP 7 [(196,zrh)] [] [] [1,2]) (.q .w) func132 ⟨Z5v,trivial⟩
def zlh:zl:=mkE (ai az) Zt λa=>F.X8 a.1
theorem zth:EnP 59 zlh false:=eo (cgP 6 [(133,zbr),(132,Z1p)] [] [] [2]) (.q .w) func59 ⟨zen,Zgm,trivial⟩
def z8y:zl:=mkE (ac Xp (asl az)) ts λa=>F.z41 a.1 a.2.1
theorem zfx:EnP 25 z8y false:=eo (cgP 68 [(58,Z1o),(59,zlh)] [] [(11,2),(18,2),(26,7),(34,7),(43,7),(49,7)] [2,7,64]) (.q (.q (.s (.q (.b (.loop [(5,.s),(14,.i)] (.q (.s (.c .l .l) (.s (.b (.q (.q (.s (.q (.b (.loop [(22,.i)] (.q (.s (.c .l .l) (.s (.b (.q (.s (.draw [0,1,2,3,4,5,6,7,8,9,10,11,12,13,14,15,16,17]) (.draw [0,1,2,3,4,5,6,7,8,9,10,11,12,14,15,13,16,17,18,19,20])))) .l)))))) .l)))) .l)))))) .w))) func25 ⟨Zgl,zth,trivial⟩
def zli:zl:=mkE (asl az) ti λa=>F.X6 a.1
theorem zti:EnP 122 zli false:=eo (cgP 10 []) (.q (.s (.q (.c .w .l)) .w)) func122 trivial
def Z1q:zl:=mkE (asl (ap az)) tb λa=>F.z5y a.1 a.2.1
theorem Zgn:EnP 121 Z1q false:=eo (cgP 9 [(122,zli)]) (.q .w) func121 ⟨zti,trivial⟩
def Z1r:zl:=mkE (asl (ArgT.fnc 121 1 az)) ti λa=>F.yj a.1 a.2.1
theorem Zgo:EnP 124 Z1r false:=eo (cgP 19 [(121,Z1q)]) (.q (.s (.q (.b (.loop [(8,.i)] (.q (.s (.c .l .l) (.s (.b (.q (.q (.c .w .l)))) .l)))))) .w)) func124 ⟨Zgn,trivial⟩
def Z1s:zl:=mkE (asl (ArgT.fnc 121 1 az)) tb λa=>F.Z7 a.1 a.2.1
theorem Zgp:EnP 120 Z1s false:=eo (cgP 9 [(124,Z1r)]) (.q .w) func120 ⟨Zgo,trivial⟩
def zri:zl:=mkE (asl az) tb λa=>F.z2n a.1
theorem Z5w:EnP 55 zri false:=eo (cgP 7 [(120,Z1s)]) (.q .w) func55 ⟨Zgp,trivial⟩
def Z1t:zl:=mkE (asl az) ts λa=>F.z0p a.1
theorem Zgq:EnP 57 Z1t false:=eo (cgP 40 [(55,zri),(122,zli)] [] [] [34]) (.q (.s (.q (.c .w .l)) (.q (.s (.q (.b (.loop [(15,.i)] (.q (.s (.c .l .l) (.s (.b (.q (.q (.b (.loop [(20,.i)] (.q (.s (.c .l .l) (.s (.b (.q (.draw [0,1,2,3,4,5,6,7,8,9,10,11,12,13]))) .l)))))))) .l)))))) .w)))) func57 ⟨Z5w,zti,trivial⟩
def Z1u:zl:=mkE (asl (ai az)) ts λa=>F.Yw a.1 a.2.1
theorem Zgr:EnP 259 Z1u false:=eo (cgP 27 []) (.q (.join [] (.q (.c .l .l)) (.s (.q (.q (.c .l .l))) .w))) func259 trivial
def Z1v:zl:=mkE (asl az) ts λa=>F.Yo a.1
theorem Zgs:EnP 187 Z1v false:=eo (cgP 36 [(259,Z1u)]) (.q (.q (.s (.q (.b (.loop [(3,.i),(11,.i)] (.q (.s (.c .l .l) (.join [(3,.i)] (.b (.q (.q (.q (.c .l .l))))) .l)))))) (.q (.s (.q (.b (.loop [(6,.s),(27,.i)] (.q (.s (.c .l .l) (.s (.b .w) .l)))))) .w))))) func187 ⟨Zgr,trivial⟩
def Z1w:zl:=mkE (ac Qq (ac Qq az)) ti λa=>F.zd7 a.1 a.2.1
theorem Zgt:EnP 329 Z1w false:=eo (cgP 28 [(77,zju),(349,zgu),(317,zr4)] [] [(17,2),(19,3),(22,3),(24,2)] [2,3]) (.q (.s (.s (.draw [0,2,1,3,4,5]) (.q (.c (.s (.q (.c .w .l)) .w) .l))) (.s (.draw [0,1,2,3,5,6,7,8,4,9,10,11]) .l))) func329 ⟨zpc,zml,Z5i,trivial⟩
def Z1x:zl:=mkE (ac Qq (ac Qq az)) tb λa=>F.z4d a.1 a.2.1
theorem Zgu:EnP 328 Z1x false:=eo (cgP 9 [(329,Z1w)] [] [] [2,3]) (.q .w) func328 ⟨Zgt,trivial⟩
def Z1y:zl:=mkE (asl (asl (ArgT.fn 328 az))) tb λa=>F.yl a.1 a.2.1
theorem Zgv:EnP 327 Z1y false:=eo (cgP 32 [(328,Z1x)] [] [] [8,9]) (.q (.s (.q (.c .w .l)) (.s (.q (.b (.loop [(17,.i)] (.q (.s (.c .l .l) (.s (.b (.q (.q (.q (.c .w .l))))) .l)))))) .w))) func327 ⟨Zgu,trivial⟩
def Z1z:zl:=mkE (asl (asl az)) tb λa=>F.z62 a.1 a.2.1
theorem Zgw:EnP 297 Z1z false:=eo (cgP 8 [(327,Z1y)]) (.q .w) func297 ⟨Zgv,trivial⟩
def Z20:zl:=mkE (asl (asl (ArgT.fn 297 az))) tb λa=>F.Zs a.1 a.2.1
theorem Zgx:EnP 296 Z20 false:=eo (cgP 32 [(297,Z1z)]) (.q (.s (.q (.c .w .l)) (.s (.q (.b (.loop [(17,.i)] (.q (.s (.c .l .l) (.s (.b (.q (.q (.q (.c .w .l))))) .l)))))) .w))) func296 ⟨Zgw,trivial⟩
def zrj:zl:=mkE (asl (asl az)) tb λa=>F.V8 a.1 a.2.1
theorem Z5x:EnP 255 zrj false:=eo (cgP 18 [(296,Z20)]) (.q .w) func255 ⟨Zgx,trivial⟩
def zrk:zl:=mkE (ai az) ts λa=>F.z2f a.1
theorem Z5y:EnP 334 zrk false:=eo (cgP 18 [(133,zbr)]) (.q (.q (.s (.q (.b (.loop [(9,.i)] (.q (.s (.c .l .l) (.s (.b .w) .l)))))) .w))) func334 ⟨zen,trivial⟩
def Z21:zl:=mkE (ac Qq az) tb λa=>F.z4v a.1
theorem Zgy:EnP 338 Z21 false:=eo (cgP 6 [(73,zjt)] [] [] [1]) (.q .w) func338 ⟨zpb,trivial⟩
def Z22:zl:=mkE (asl (ArgT.fn 338 az)) ti λa=>F.y8 a.1
theorem Zgz:EnP 361 Z22 false:=eo (cgP 19 [(338,Z21)]) (.q (.s (.q (.b (.loop [(8,.i)] (.q (.s (.c .l .l) (.s (.b (.q (.q (.c .w .l)))) .l)))))) .w)) func361 ⟨Zgy,trivial⟩
def Z23:zl:=mkE (asl (ArgT.fn 338 az)) tb λa=>F.yo a.1
theorem Zh0:EnP 335 Z23 false:=eo (cgP 9 [(361,Z22)]) (.q .w) func335 ⟨Zgz,trivial⟩
def zlj:zl:=mkE (asl (ai az)) tb λa=>F.V9 a.1 a.2.1
theorem ztj:EnP 306 zlj false:=eo (cgP 14 [(335,Z23)]) (.q .w) func306 ⟨Zh0,trivial⟩
def zrl:zl:=mkE (asl az) tb λa=>F.V5 a.1
theorem Z5z:EnP 305 zrl false:=eo (cgP 18 [(306,zlj)]) (.q (.s (.q (.b (.loop [(7,.i)] (.q (.s (.c .l .l) (.s (.b (.q (.q (.c .w .l)))) .l)))))) .w)) func305 ⟨ztj,trivial⟩
def zrm:zl:=mkE (asl (ac Qq az)) ts λa=>F.z42 a.1 a.2.1
theorem Z60:EnP 300 zrm false:=eo (cgP 22 [(334,zrk),(305,zrl),(73,zjt)] [] [] [3]) (.q (.join [] (.q (.c .w .l)) (.q (.q .w)))) func300 ⟨Z5y,Z5z,zpb,trivial⟩
def Z24:zl:=mkE (ac Qq az) tb λa=>F.zdc a.1
theorem Zh1:EnP 336 Z24 false:=eo (cgP 6 [(77,zju)] [] [] [1]) (.q .w) func336 ⟨zpc,trivial⟩
def Z25:zl:=mkE (asl (ArgT.fn 336 az)) ti λa=>F.Qa a.1
theorem Zh2:EnP 361 Z25 false:=eo (cgP 19 [(336,Z24)]) (.q (.s (.q (.b (.loop [(8,.i)] (.q (.s (.c .l .l) (.s (.b (.q (.q (.c .w .l)))) .l)))))) .w)) func361 ⟨Zh1,trivial⟩
def Z26:zl:=mkE (asl (ArgT.fn 336 az)) tb λa=>F.qj a.1
theorem Zh3:EnP 335 Z26 false:=eo (cgP 9 [(361,Z25)]) (.q .w) func335 ⟨Zh2,trivial⟩
def zrn:zl:=mkE (asl az) tb λa=>F.z8t a.1
theorem Z61:EnP 301 zrn false:=eo (cgP 6 [(335,Z26)]) (.q .w) func301 ⟨Zh3,trivial⟩
def Z27:zl:=mkE (asl az) ts λa=>F.qz a.1
theorem Zh4:EnP 298 Z27 false:=eo (cgP 8 []) (.q (.s (.q (.c .w .l)) .w)) func298 trivial
def zro:zl:=mkE (asl (asl az)) ts λa=>F.z61 a.1 a.2.1
theorem Z62:EnP 256 zro false:=eo (cgP 19 [(298,Z27),(133,zbr)] [] [] [16]) (.q (.q (.s (.b (.loop [(5,.s)] (.s (.q (.c .l .l)) (.b .l)))) .w))) func256 ⟨Zh4,zen,trivial⟩
def ze1:zl:=mkE (asl (asl az)) tb λa=>F.Wq a.1 a.2.1
theorem zim:EnP 263 ze1 false:=eo (cgP 14 [(305,zrl),(306,zlj)]) (.q .w) func263 ⟨Z5z,ztj,trivial⟩
def zlk:zl:=mkE (asl (asl (asl az))) tb λa=>F.z10 a.1 a.2.1 a.2.2.1
theorem ztk:EnP 308 zlk false:=eo (cgP 17 [(263,ze1),(306,zlj)]) (.q .w) func308 ⟨zim,ztj,trivial⟩
def zll:zl:=mkE (asl az) (t2 ts ts) λa=>F.z73 a.1
theorem ztl:EnP 340 zll false:=eo (cgP 15 []) (.q (.s (.draw [0,1,2,3,4,5,6,7,8,9,10,11,12]) .l)) func340 trivial
def zlm:zl:=mkE (asl az) (t2 ts ts) λa=>F.z31 a.1
theorem ztm:EnP 341 zlm false:=eo (cgP 14 []) (.q (.s (.draw [0,1,2,3,4,5,6,7,8,9,10,11]) .l)) func341 trivial
def Z28:zl:=mkE (ac qd (ac qd az)) qd λa=>F.z4a a.1 a.2.1
theorem Zh5:EnP 377 Z28 false:=eo (cgP 40 [(210,z5t),(390,zr5),(212,zgx),(272,zuj),(391,zr6)] [] [(7,2),(10,3),(13,2),(15,3),(18,2),(28,3),(34,2)] [2,3,4]) (.q (.s (.draw [0,1,3,4,2,5,6,7]) (.s (.q (.c (.s (.draw [0,1,2,3,4,5,6]) .l) .l)) (.s (.q (.c (.s (.draw [0,1,2,3,4,5,6]) .l) .l)) (.s (.draw [0,1,2,3,4,5,6]) .l))))) func377 ⟨z71,Z5j,zki,Z6h,Z5k,trivial⟩
def Z29:zl:=mkE (ac Qq (ac Qq az)) Qq λa=>F.z5e a.1 a.2.1
theorem Zh6:EnP 362 Z29 false:=eo (cgP 39 [(349,zgu),(377,Z28),(350,zlf),(148,znu),(198,zle)] [] [(6,2),(10,3),(14,2),(16,3),(21,2),(23,3),(26,3),(28,2),(33,2),(35,3)] [2,3,4,5]) (.q (.join [(4,.box [.bool,.sl,.bool,.sl])] (.q (.c .w .l)) (.s (.draw [0,1,2,3,5,6,7,8,11,4,9,10,12]) (.s (.draw [0,1,2,3,4,5,6,7]) .l)))) func362 ⟨zml,Zh5,ztf,zvb,zte,trivial⟩
def zgv:zl:=mkE (asl (asl az)) ts λa=>F.z2d a.1 a.2.1
theorem zmm:EnP 337 zgv false:=eo (cgP 29 [(362,Z29)]) (.q (.q (.s (.q (.b (.loop [(12,.i)] (.q (.s (.c .l .l) (.s (.b (.q (.draw [0,1,2,3,4,5,6,7,8,9,10,11,12]))) .l)))))) .w))) func337 ⟨Zh6,trivial⟩
def zpp:ArgT (Sl×Sl×Sl×Unit):=(asl (asl (asl az)))
def zq6:Ty Sl:=ts
def zln:zl:=mkE zpp zq6 λa=>F.z2e a.1 a.2.1 a.2.2.1
def Zbr(n:Nat):Cfg:=(cgP 74 [(340,zll),(341,zlm),(309,mkE zpp zq6 (λa=>F.W4 n a.1 a.2.1 a.2.2.1)),(337,zgv),(318,zr8),(301,zrn),(334,zrk)])
theorem Z6x:∃fn,prog.funcs[309]?=some fn/\fn.body.isNone=false/\(fn.name == "runtime.NumGoroutine")=false:=⟨_,func309,rfl,by decide⟩
set_option maxHeartbeats 4000000 in
theorem Z7b:∀n a K D w,Sub D w->F.W4 n a.1 a.2.1 a.2.2.1 K D->Calls prog 309 (zpp.up a).toArray w (z52 (λv h=>zq6.dn v λr=>K r h) D w)
 | 0,_,_,_,_,_,h=>h.elim
 | n+1,a,K,D,w,hs,h=>z0g (C:=Zbr n) (F:=λa=>F.W4 (n+1) a.1 a.2.1 a.2.2.1) (fn:=f309) (c:=bd f309) (an:=(.seq .leaf (.join [] (.block (.seq .leaf (.cond (.seq (.draw [0,1,2,3,4,5,6,7,8]) .leaf) (.seq .leaf (.cond (.seq .leaf .leaf) .leaf))))) (.seq .leaf (.seq .leaf (.seq .leaf (.seq .leaf (.seq .leaf .leaf)))))))) ⟨ztl,ztm,(Y7 Z6x (Z7b n)),zmm,Z5m,Z61,Z5y,trivial⟩ trivial func309 rfl rfl (λ_=>rfl) (by intro a K D;kernel_rfl) a K D w hs h
theorem ztn:EnP 309 zln false:=Y7 Z6x (λa K D w hs h=>h.elim λm h=>Z7b m a K D w hs h)
def zlo:zl:=mkE (asl (asl (asl az))) ts λa=>F.z2c a.1 a.2.1 a.2.2.1
theorem zto:EnP 266 zlo false:=eo (cgP 16 [(308,zlk),(309,zln)]) (.q (.s (.q (.c .w .l)) .w)) func266 ⟨ztk,ztn,trivial⟩
def Z2a:zl:=mkE (asl (asl (asl az))) ts λa=>F.zkk a.1 a.2.1 a.2.2.1
theorem Zh7:EnP 302 Z2a false:=eo (cgP 15 [(308,zlk),(337,zgv)]) (.q (.s (.q (.c .w .l)) .w)) func302 ⟨ztk,zmm,trivial⟩
end Den
end

section
namespace Den
open Go Iv Go.Sort
theorem zfw{α:Type}[Inhabited α]{enc:α->Value}{off:Nat}{d:Array α}{cs:List Value}(h:off+d.size<=cs.length):putCells enc off d cs.toArray=(z8 cs off (d.toList.map enc)).toArray:=by
 have hl:(z8 cs off (d.toList.map enc)).length=cs.length:=Yb (by simpa using h)
 refine Array.ext' ?_
 show _=z8 cs off (d.toList.map enc)
 refine List.ext_getElem? λi=>?_
 rw[Array.getElem?_toList]
 unfold putCells
 rw[Array.getElem?_mapIdx,List.getElem?_toArray]
 rcases Nat.lt_or_ge i cs.length with hi | hi
 . rw[List.getElem?_eq_getElem hi]
   have e:(z8 cs off (d.toList.map enc))[i]?=some (if off<=i/\i<off+d.size then enc d[i-off]! else cs[i]):=by
    unfold z8
    by_cases c1:i<off
    . rw[if_neg (by omega),List.append_assoc,List.getElem?_append_left (by simp;omega),List.getElem?_take_of_lt c1,List.getElem?_eq_getElem hi]
    . by_cases c2:i<off+d.size
      . rw[if_pos ⟨by omega,c2⟩,List.append_assoc,List.getElem?_append_right (by simp;omega)]
        have e1:i-(cs.take off).length=i-off:=by simp;omega
        rw[e1,List.getElem?_append_left (by simp;omega),List.getElem?_map]
        have:d.toList[i-off]?=some d[i-off]! := by
         rw[Array.getElem?_toList,getElem!_pos d (i-off) (by omega),getElem?_pos d (i-off) (by omega)]
        rw[this];rfl
      . rw[if_neg (by omega),List.getElem?_append_right (by simp;omega)]
        rw[List.getElem?_drop,List.getElem?_eq_some_iff]
        refine⟨by simp;omega,?_⟩
        congr 1
        simp;omega
   exact e.symm
 . rw[List.getElem?_eq_none hi,List.getElem?_eq_none (by rw[hl];exact hi)];rfl
theorem zfi{α:Type}[Inhabited α]{enc:α->Value}{D:Hp}{w w':World}{blk off n:Nat}{d:Array α}{os:Array Obj}{bl:Blk}{K:Value->Hp->Prop}(hs:Sub D w)(hb:D blk=some bl)(hfz:bl.fz=(0,0))(hlen:off+d.size<=bl.cells.length)
 (hw:w'=grow (putRow enc (ahead w n) blk off d) os) (hK:K (.tuple #[]) (D.ins blk { bl with cells:=z8 bl.cells off (d.toList.map enc) })):z52 K D w (.returned (.tuple #[])) w':=by
 subst hw
 have hwb:=hs _ _ hb
 have hlt:=hs.lt hb
 have hsz:(putRow enc (ahead w n) blk off d).heap.size=w.heap.size:=by
  unfold putRow mapBlock
  simp only[Array.size_modify];rfl
 have hget:∀k,k<w.heap.size->(grow (putRow enc (ahead w n) blk off d) os).heap[k]?=(w.heap.modify blk (onCells (putCells enc off d)))[k]?:=λk hk=>by
  unfold grow
  simp only
  rw[Array.getElem?_append_left (by rw[hsz];exact hk)]
  rfl
 have hne:∀k,k<w.heap.size->k≠blk->(grow (putRow enc (ahead w n) blk off d) os).heap[k]?=w.heap[k]?:=λk hk hkb=>by
  rw[hget k hk,Array.getElem?_modify,if_neg (λhh=>hkb hh.symm)]
 refine⟨_,_,rfl,hK,λk b hk=>?_,⟨?_,λk h1 h2=>?_,rfl,rfl,rfl,?_⟩,λk h1 h2=>?_⟩
 . by_cases hkb:k=blk
   . subst hkb
     rw[Hp.ins_same]at hk;cases hk
     rw[hget k hlt,Array.getElem?_modify,if_pos rfl,hwb,hfz]
     simp only[Option.map_some,onCells]
     rw[zfw hlen]
   . rw[Hp.ins_ne hkb]at hk
     rw[hne k (hs.lt hk) hkb];exact hs k b hk
 . unfold grow
   simp only[Array.size_append,hsz];omega
 . exact hne k h1 λhh=>by rw[hh,hb]at h2;cases h2
 . show w.drawn<=w.drawn+n;omega
 . by_cases hkb:k=blk
   . subst hkb;rw[hb]at h2;cases h2
   . rw[Hp.ins_ne hkb]at h1;exact absurd h2 h1
theorem zs6{α:Type}[Inhabited α]{enc:α->List Value}{k:Nat}{d:Array α}(hk:∀x,(enc x).length=k):(flatK enc k d).toList.map id=d.toList.flatMap enc:=by
 rw[List.map_id]
 refine List.ext_getElem? λt=>?_
 by_cases ht:t<d.size*k
 . have k0:0<k:=by
    rcases Nat.eq_zero_or_pos k with h | h
    . subst h;simp at ht
    . exact h
   have h1:t/k<d.toList.length:=by rw[Array.length_toList];exact Nat.div_lt_of_lt_mul (by rw[Nat.mul_comm];exact ht)
   have h2:t % k<k:=Nat.mod_lt _ k0
   have e:=z9g (c:=enc) hk (xs:=d.toList) h1 h2
   rw[show t/k*k+t % k=t from by rw[Nat.mul_comm];exact Nat.div_add_mod t k]at e
   rw[e,Array.getElem?_toList]
   have e2:=get_flatK enc k d t ht
   rw[getElem!_pos _ t (by rw[size_flatK];exact ht)]at e2
   rw[getElem?_pos _ t (by rw[size_flatK];exact ht),e2]
   have e3:d[t/k]! = d.toList[t/k]:=by rw[getElem!_pos d (t/k) (by simpa using h1)];rfl
   rw[e3,getElem!_pos _ _ (by rw[hk];exact h2)]
   exact(List.getElem?_eq_getElem (by rw[hk];exact h2)).symm
 . rw[List.getElem?_eq_none (by rw[Array.length_toList,size_flatK];omega),List.getElem?_eq_none (by rw[Qf hk,Array.length_toList];omega)]
theorem Z4v{K:Value->Hp->Prop}{w w':World}{e:Ending}(h:z52 K Hp.emp w e w'):∃v h',e=.returned v/\K v h'/\∃q os,w'=grow (w.drewN q) os:=by
 obtain⟨v,h',rfl,hK,_,⟨h1,h2,h3,h4,h5,h6⟩,_⟩:=h
 refine⟨v,h',rfl,hK,w'.drawn-w.drawn,w'.heap.extract w.heap.size w'.heap.size,?_⟩
 have e1:w'.heap=w.heap++w'.heap.extract w.heap.size w'.heap.size:=by
  apply Array.ext_getElem?
  intro k
  by_cases hk:k<w.heap.size
  . rw[Array.getElem?_append_left hk];exact h2 k hk rfl
  . rw[Array.getElem?_append_right (by omega),Array.getElem?_extract]
    by_cases hk2:k<w'.heap.size
    . rw[if_pos (by omega)];congr 1;omega
    . rw[if_neg (by omega),getElem?_neg w'.heap k (by omega)]
 cases w' with
 | mk a b c d f=>
   simp only at h3 h4 h5 h6 e1 |-
   unfold grow World.drewN
   cases w
   simp only[World.mk.injEq]at *
   exact⟨e1,h3,by omega,h4,h5⟩
theorem zk9{D:Hp}{w:World}{K:Value->Hp->Prop}(hs:Sub D w)(hK:K (.tuple #[]) D):z52 K D w (.returned (.tuple #[])) w:=
 ⟨_,D,rfl,hK,hs,Fr.refl D w,λk h1 h2=>absurd h2 h1⟩
theorem zue{D:Hp}{w:World}{b o i:Nat}{bl:Blk}{v:Value}(hs:Sub D w)(hb:D b=some bl)(hfz:bl.fz=(0,0))(hv:bl.cells[o+i]?=some v):w.cell? ⟨b,o+i,none⟩=some v/\w.frozen? ⟨b,o+i,none⟩=false:=by
 refine⟨hs.cell ?_,?_⟩
 . unfold Hp.cell
   simp only[hb];exact hv
 . have h:=hs _ _ hb
   unfold World.frozen?;simp only[h,hfz];simp
theorem zt5{P:Program}{g:Nat}(h0:∀(p:Option Addr) (c:Nat) (w:World),Calls P g #[.slice p 0 c] w λe w'=>e=.returned (.tuple #[])/\w'=w)
 (h1:∀(blk off cap:Nat) (zs:List Int) (w:World),Holds (Value.int .i64) w blk off zs.toArray->blk<w.heap.size->zs.length<4611686018427387904->Calls P g #[.slice (some ⟨blk,off,none⟩) zs.length cap] w λe w'=>e=.returned (.tuple #[])/\∃n os,w'=grow (putRow (Value.int .i64) (Sort.ahead w n) blk off (zs.mergeSort λx y=>decide (x<=y)).toArray) os)
 (x:Sl) (K:Unit->Hp->Prop) (D:Hp) (w:World) (hs:Sub D w) (hk:zfk Z8c 1 Z9f x K D):Calls P g #[.slice x.a x.len x.cap] w (z52 (λv h=>Ty.unit.dn v λr=>K r h) D w):=by
 rcases hk with ⟨h2,h3⟩ | ⟨b,o,bl,xs,h2,h3,h4,h5,h6,h7,h8,h9⟩
 . rw[h2]
   exact(h0 x.a x.cap w).mono λe w' ⟨he,hw⟩=>by rw[he,hw];exact zk9 hs h3
 . rw[h2,h3]
   have hfm:∀l:List Int,l.flatMap Z8c=l.map (Value.int .i64):=λl=>by
    induction l with
    | nil=>rfl
    | cons a l ih=>rw[List.flatMap_cons,List.map_cons,ih];rfl
   rw[Nat.mul_one]at h7 h8
   rw[hfm]at h8 h9
   have hcell:∀j (hj:j<xs.length),bl.cells[o+j]?=some (.int .i64 xs[j]):=λj hj=>by
    have this:((bl.cells.drop o).take _)[j]?=_:=congrArg (λl=>l[j]?) h8
    rw[List.getElem?_take,if_pos hj,List.getElem?_drop,List.getElem?_map,List.getElem?_eq_getElem hj]at this
    exact this
   refine(h1 b o x.cap xs w (λj hj=>?_) (hs.lt h5) (by omega)).mono λe w' ⟨he,n,os,hw⟩=>?_
   . have hj':j<xs.length:=by simpa using hj
     have e:xs.toArray[j]! = xs[j]:=by rw[getElem!_pos _ j (by simpa using hj')];rfl
     rw[e];exact zue hs h5 h6 (hcell j hj')
   . rw[he]
     refine zfi (bl:=bl) hs h5 h6 (by simp;omega) hw ?_
     exact h9
theorem zo1{α:Type}[Inhabited α]{enc:α->List Value}{k:Nat}{d:Array α}(hk:∀x,(enc x).length=k):(flatK enc k d).toList=d.toList.flatMap enc:=by
 have:=zs6 (d:=d) hk
 rwa [List.map_id]at this
theorem zp6{P:Program}{g f:Nat}{C:Nat->Nat->Nat->World->Prop}{lt:(Int×Int)->(Int×Int)->Bool}(h0:∀(p:Option Addr) (c:Nat) (fv:Value) (w:World),Calls P f #[.slice p 0 c,fv] w λe w'=>e=.returned (.tuple #[])/\w'=w)
 (h1:∀(blk off cap:Nat) (d:Array (Int×Int)) (w:World),C blk off d.size w->HoldsK Xy 2 w blk off d->blk<w.heap.size->d.size<4611686018427387904->Calls P f #[.slice (some ⟨blk,off,none⟩) d.size cap,.func (.func g) #[] #[]] w λe w'=>e=.returned (.tuple #[])/\∃n os,w'=Go.Proofs.sortWorldK Xy 2 w blk off n (d.toList.mergeSort lt).toArray os)
 (hlt:∀xs,zij xs=xs.mergeSort lt) (hC:∀blk off n w,C blk off n w)
 (x:Sl) (K:Unit->Hp->Prop) (D:Hp) (w:World) (hs:Sub D w) (hk:zfk Xy 2 zij x K D):Calls P f #[.slice x.a x.len x.cap,.func (.func g) #[] #[]] w (z52 (λv h=>Ty.unit.dn v λr=>K r h) D w):=by
 have hc2:∀e:Int×Int,(Xy e).length=2:=λ_=>rfl
 rcases hk with ⟨h2,h3⟩ | ⟨b,o,bl,xs,h2,h3,h4,h5,h6,h7,h8,h9⟩
 . rw[h2]
   exact(h0 x.a x.cap _ w).mono λe w' ⟨he,hw⟩=>by rw[he,hw];exact zk9 hs h3
 . rw[h2,h3]
   have hfl:(xs.flatMap Xy).length=xs.length*2:=Qf hc2 xs
   have hfk:(flatK Xy 2 xs.toArray).toList=xs.flatMap Xy:=zo1 (d:=xs.toArray) hc2
   have hcell:∀j (hj:j<xs.length*2),bl.cells[o+j]?=some ((xs.flatMap Xy)[j]'(by rw[hfl];exact hj)):=λj hj=>by
    have this:((bl.cells.drop o).take _)[j]?=_:=congrArg (λl=>l[j]?) h8
    rw[List.getElem?_take,if_pos hj,List.getElem?_drop,List.getElem?_eq_getElem (l:=xs.flatMap Xy) (by rw[hfl];exact hj)]at this
    exact this
   have hsz:xs.toArray.size=xs.length:=List.size_toArray
   have hcall:=h1 b o x.cap xs.toArray w (hC _ _ _ _) (λj hj=>?_) (hs.lt h5) (by rw[hsz];omega)
   . rw[hsz]at hcall
     refine hcall.mono λe w' ⟨he,n,os,hw⟩=>?_
     rw[he]
     have hsl:(zij xs).length=xs.length:=by rw[hlt];exact List.length_mergeSort _
     refine zfi (enc:=id) (d:=flatK Xy 2 (xs.mergeSort lt).toArray) (bl:=bl) hs h5 h6 (by rw[size_flatK,List.size_toArray,<-hlt,hsl];omega) hw ?_
     have e2:(flatK Xy 2 (xs.mergeSort lt).toArray).toList.map id=(zij xs).flatMap Xy:=by
      rw[List.map_id,zo1 (d:=(xs.mergeSort lt).toArray) hc2,hlt]
     rw[e2];exact h9
   . have hj':j<xs.length*2:=by simpa [hsz] using hj
     have e:(flatK Xy 2 xs.toArray)[j]! = (xs.flatMap Xy)[j]'(by rw[hfl];exact hj'):=by
      rw[getElem!_pos _ j hj]
      have this:((flatK Xy 2 xs.toArray).toList)[j]?=(xs.flatMap Xy)[j]?:=by rw[hfk]
      rw[List.getElem?_eq_getElem (l:=xs.flatMap Xy) (by rw[hfl];exact hj'),List.getElem?_eq_getElem (l:=(flatK Xy 2 xs.toArray).toList) (by rw[Array.length_toList];exact hj)]at this
      have:=Option.some.inj this
      rw[<-this];rfl
     show w.cell? _=some (id _)/\_
     rw[e]
     exact zue hs h5 h6 (hcell j hj')
end Den
end

section
namespace Den
open Go Iv Go.Sort
theorem ltE{x y:Int×Int}:Go.Proofs.ltOf z56 x y=true↔x.1<y.1\/x.1=y.1/\x.2<y.2:=by
 unfold Go.Proofs.ltOf z56
 rw[decide_eq_true_iff]
 by_cases h1:x.1<y.1
 . rw[if_pos h1];simp[h1]
 . rw[if_neg h1]
   by_cases h2:y.1<x.1
   . rw[if_pos h2];constructor<;>intro h<;>omega
   . rw[if_neg h2]
     by_cases h3:x.2<y.2
     . rw[if_pos h3];constructor<;>intro h<;>omega
     . rw[if_neg h3]
       by_cases h4:y.2<x.2
       . rw[if_pos h4];constructor<;>intro h<;>omega
       . rw[if_neg h4];constructor<;>intro h<;>omega
theorem zwn{x y:Int×Int}:Go.Proofs.ltOf z56 x y=false↔¬(x.1<y.1\/x.1=y.1/\x.2<y.2):=by
 rw[<-ltE];simp
theorem Zl2:SWO (Go.Proofs.ltOf z56):=⟨λx=>zwn.2 (by omega),λx y z h1 h2=>ltE.2 (by have:=ltE.1 h1;have:=ltE.1 h2;omega),λx y z h1 h2=>zwn.2 (by have:=zwn.1 h1;have:=zwn.1 h2;omega)⟩
theorem Zlb:∀x y:Int×Int,Go.Proofs.ltOf z56 x y=false->Go.Proofs.ltOf z56 y x=false->x=y:=λx y h1 h2=>by
 have h1:=zwn.1 h1
 have h2:=zwn.1 h2
 exact Prod.ext (by omega) (by omega)
theorem Z3p:∀x:Int×Int,∀v∈Xy x,v.oneCell'=true:=λx v hv=>by
 simp only[Xy,List.mem_cons,List.not_mem_nil,or_false]at hv
 rcases hv with rfl | rfl<;>rfl
theorem zvq{P:Program}{g:Nat}{F:zl}(hF:Z7s P g F){blk off n:Nat}{w:World}(hk:∀(x y:Int×Int) (K:Value->Hp->Prop),(∀h,K (.int .i64 (z56 x y)) h)->F [.agg (Xy x).toArray,.agg (Xy y).toArray] K Hp.emp):Go.Proofs.CmpLays P g #[] Xy 2 z56 blk off n w:=λm os dk _ x y=>by
 have hs:Sub Hp.emp (Go.Proofs.sortWorldK Xy 2 w blk off m dk os):=λk b hb=>by cases hb
 have h:=hF.2 [.agg (Xy x).toArray,.agg (Xy y).toArray] (λv _=>v=.int .i64 (z56 x y)) Hp.emp _ hs (hk x y _ λ_=>rfl)
 refine h.mono λe w' hp=>?_
 obtain⟨v,h',rfl,rfl,hq⟩:=Z4v hp
 exact⟨rfl,hq⟩
end Den
end

section
namespace Den
open Go Iv Lx
def cm(a b:Int):Int:=if a<b then -1 else if b<a then 1 else 0
theorem zl1{x y:Int×Int}:z56 x y=if cm x.1 y.1≠0 then cm x.1 y.1 else cm x.2 y.2:=by
 unfold z56 cm
 by_cases h1:x.1<y.1
 . rw[if_pos h1,if_pos h1];rfl
 . by_cases h2:y.1<x.1
   . rw[if_neg h1,if_neg h1,if_pos h2,if_pos h2];rfl
   . simp[h1,h2]
theorem z7x{h:Hp}{x y:Int×Int}{K:Int->Hp->Prop}(H:∀h',h.le h'->K (z56 x y) h'):F.z16 ⟨x.1,x.2⟩ ⟨y.1,y.2⟩ K h:=by
 unfold F.z16
 refine z9q λp1 h1 hl1 c1=>?_
 refine z9q λp2 h2 hl2 c2=>?_
 have i1:IL h2 ⟨some p1,2,2⟩ [x.1,x.2]:=IL.le ⟨z2t (size:=1) (n:=2) c1 rfl,Nat.le_refl _⟩ hl2
 have i2:IL h2 ⟨some p2,2,2⟩ [y.1,y.2]:=⟨z2t (size:=1) (n:=2) c2 rfl,Nat.le_refl _⟩
 have j1:=i1.cut (n:=2) (Nat.le_refl _)
 have j2:=i2.cut (n:=2) (Nat.le_refl _)
 refine⟨by omega,by omega,Int.le_refl _,by omega,by omega,Int.le_refl _,?_⟩
 have hle:=Hp.le_trans hl1 hl2
 refine zd (λr h'=>r=z56 x y) (λK2 hk2=>?_) λr h' hl hr=>by subst hr;exact H _ (Hp.le_trans hle hl)
 unfold F.Vv
 have l1:=j1.len
 have l2:=j2.len
 refine Yr (n:=2) (by omega) (λi h'=>h2.le h'/\(0<i->cm x.1 y.1=0)/\(1<i->cm x.2 y.2=0)) ⟨Hp.le_refl _,by omega,by omega⟩ ?_
 rintro i h4 hi2 ⟨hl4,z1,z2⟩ k hk4
 refine ze (λh5=>?_) (λh5=>?_)
 . have hi':i<2:=by have:(i:Int)<((2:Nat):Int):=h5;omega
   rcases(by omega:i=0\/i=1)with rfl | rfl
   . refine(j1.le hl4).get 0 rfl (by simp) (ze (λhh=>absurd hh (by show ¬((0:Nat):Int)>=((2:Nat):Int);omega)) λ_=>?_)
     refine(j2.le hl4).get 0 rfl (by simp) ?_
     refine z23 ?_
     show ifP (cm x.1 y.1 != 0) _ _
     refine yt (λh6=>hk2 _ _ hl4 ?_) (λh6=>hk4 _ hi' ⟨hl4,λ_=>h6,by omega⟩)
     have e:z56 x y=cm x.1 y.1:=by rw[zl1,if_pos h6]
     exact e.symm
   . have z:=z1 (by omega)
     refine(j1.le hl4).get 1 rfl (by simp) (ze (λhh=>absurd hh (by show ¬((1:Nat):Int)>=((2:Nat):Int);omega)) λ_=>?_)
     refine(j2.le hl4).get 1 rfl (by simp) ?_
     refine z23 ?_
     show ifP (cm x.2 y.2 != 0) _ _
     have e:z56 x y=cm x.2 y.2:=by rw[zl1,if_neg (by omega)]
     exact yt (λh6=>hk2 _ _ hl4 e.symm) (λh6=>hk4 _ hi' ⟨hl4,λ_=>z,λ_=>h6⟩)
 . have:i=2:=by have:¬(i:Int)<((2:Nat):Int):=h5;omega
   subst this
   refine ze (λhh=>absurd hh (by show ¬((2:Nat):Int)<((2:Nat):Int);omega)) λ_=>hk2 _ _ hl4 ?_
   rw[zl1,if_neg (by have:=z1 (by omega);omega),z2 (by omega)]
end Den
end

section
namespace Go.Proofs
open Go.Shelf
def Tryz.sortI_ren:Go.Shelf.Ren:=⟨λ| 189=>109 | 125=>182 | 257=>181 | 128=>243 | 129=>244 | 294=>234 | 295=>235 | 296=>236 | 297=>237 | 298=>238 | 299=>239 | 216=>240 | 300=>241 | 301=>242 | 328=>288 | 329=>289 | 330=>290 | 331=>291 | 332=>292 | 215=>224 | 343=>325 | n=>n,λ| 28=>41 | 3=>3 | 46=>235 | 0=>0 | 51=>206 | 53=>203 | 4=>4 | 183=>273 | 182=>272 | 131=>184 | 5=>5 | 9=>9 | 218=>313 | 222=>317 | 228=>342 | 229=>135 | n=>n,λ| n=>n⟩
theorem Tryz.sortI:Go.Proofs.Lays.n189 Tryz.prog Tryz.sortI_ren:={
 mixed:=by kernel_rfl
 f125:=Tryz.func182.trans (congrArg some (by kernel_rfl))
 f128:=Tryz.func243.trans (congrArg some (by kernel_rfl))
 f129:=Tryz.func244.trans (congrArg some (by kernel_rfl))
 f189:=Tryz.func109.trans (congrArg some (by kernel_rfl))
 f215:=Tryz.func224.trans (congrArg some (by kernel_rfl))
 f216:=Tryz.func240.trans (congrArg some (by kernel_rfl))
 f257:=Tryz.func181.trans (congrArg some (by kernel_rfl))
 f294:=Tryz.func234.trans (congrArg some (by kernel_rfl))
 f295:=Tryz.func235.trans (congrArg some (by kernel_rfl))
 f296:=Tryz.func236.trans (congrArg some (by kernel_rfl))
 f297:=Tryz.func237.trans (congrArg some (by kernel_rfl))
 f298:=Tryz.func238.trans (congrArg some (by kernel_rfl))
 f299:=Tryz.func239.trans (congrArg some (by kernel_rfl))
 f300:=Tryz.func241.trans (congrArg some (by kernel_rfl))
 f301:=Tryz.func242.trans (congrArg some (by kernel_rfl))
 f328:=Tryz.func288.trans (congrArg some (by kernel_rfl))
 f329:=Tryz.func289.trans (congrArg some (by kernel_rfl))
 f330:=Tryz.func290.trans (congrArg some (by kernel_rfl))
 f331:=Tryz.func291.trans (congrArg some (by kernel_rfl))
 f332:=Tryz.func292.trans (congrArg some (by kernel_rfl))
 f343:=Tryz.func325.trans (congrArg some (by kernel_rfl))
 t0:=Tryz.underlying0
 a0:=Tryz.isAgg0
 z0:=Tryz.sizeOf0
 v0:=Tryz.zeroValue0
 t3:=Tryz.underlying3
 a3:=Tryz.isAgg3
 z3:=Tryz.sizeOf3
 v3:=Tryz.zeroValue3
 t4:=Tryz.underlying4
 a4:=Tryz.isAgg4
 z4:=Tryz.sizeOf4
 v4:=Tryz.zeroValue4
 t5:=Tryz.underlying5
 a5:=Tryz.isAgg5
 z5:=Tryz.sizeOf5
 v5:=Tryz.zeroValue5
 t9:=Tryz.underlying9
 a9:=Tryz.isAgg9
 z9:=Tryz.sizeOf9
 v9:=Tryz.zeroValue9
 t28:=Tryz.underlying41
 a28:=Tryz.isAgg41
 z28:=Tryz.sizeOf41
 v28:=Tryz.zeroValue41
 t46:=Tryz.underlying235
 a46:=Tryz.isAgg235
 z46:=Tryz.sizeOf235
 v46:=Tryz.zeroValue235
 t51:=Tryz.underlying206
 a51:=Tryz.isAgg206
 z51:=Tryz.sizeOf206
 v51:=Tryz.zeroValue206
 t53:=Tryz.underlying203
 a53:=Tryz.isAgg203
 z53:=Tryz.sizeOf203
 v53:=Tryz.zeroValue203
 t131:=Tryz.underlying184
 a131:=Tryz.isAgg184
 z131:=Tryz.sizeOf184
 v131:=Tryz.zeroValue184
 t182:=Tryz.underlying272
 a182:=Tryz.isAgg272
 z182:=Tryz.sizeOf272
 v182:=Tryz.zeroValue272
 t183:=Tryz.underlying273
 a183:=Tryz.isAgg273
 z183:=Tryz.sizeOf273
 v183:=Tryz.zeroValue273
 t218:=Tryz.underlying313
 a218:=Tryz.isAgg313
 z218:=Tryz.sizeOf313
 v218:=Tryz.zeroValue313
 t222:=Tryz.underlying317
 a222:=Tryz.isAgg317
 z222:=Tryz.sizeOf317
 v222:=Tryz.zeroValue317
 t228:=Tryz.underlying342
 a228:=Tryz.isAgg342
 z228:=Tryz.sizeOf342
 v228:=Tryz.zeroValue342
 t229:=Tryz.underlying135
 a229:=Tryz.isAgg135
 z229:=Tryz.sizeOf135
 v229:=Tryz.zeroValue135 }
def Tryz.sortP_ren:Go.Shelf.Ren:=⟨λ| 6=>112 | 15=>182 | 14=>183 | 28=>243 | 29=>244 | 20=>245 | 21=>246 | 22=>247 | 23=>248 | 24=>249 | 25=>250 | 26=>251 | 27=>252 | 46=>293 | 47=>289 | 48=>290 | 49=>294 | 50=>295 | 57=>326 | n=>n,λ| 22=>22 | 24=>58 | 25=>161 | 3=>3 | 39=>235 | 0=>0 | 53=>206 | 55=>203 | 4=>4 | 46=>273 | 45=>272 | 50=>184 | 5=>5 | 9=>9 | 66=>313 | 70=>317 | 76=>342 | 77=>135 | n=>n,λ| n=>n⟩
theorem Tryz.sortP:Go.Proofs.SlLaysF0.n6 Tryz.prog Tryz.sortP_ren:={
 mixed:=by kernel_rfl
 f6:=⟨Tryz.f112.name,by decide,Tryz.func112.trans (congrArg some (by kernel_rfl))⟩
 f14:=⟨Tryz.f183.name,by decide,Tryz.func183.trans (congrArg some (by kernel_rfl))⟩
 f15:=Tryz.func182.trans (congrArg some (by kernel_rfl))
 f20:=⟨Tryz.f245.name,by decide,Tryz.func245.trans (congrArg some (by kernel_rfl))⟩
 f21:=⟨Tryz.f246.name,by decide,Tryz.func246.trans (congrArg some (by kernel_rfl))⟩
 f22:=⟨Tryz.f247.name,by decide,Tryz.func247.trans (congrArg some (by kernel_rfl))⟩
 f23:=⟨Tryz.f248.name,by decide,Tryz.func248.trans (congrArg some (by kernel_rfl))⟩
 f24:=⟨Tryz.f249.name,by decide,Tryz.func249.trans (congrArg some (by kernel_rfl))⟩
 f25:=⟨Tryz.f250.name,by decide,Tryz.func250.trans (congrArg some (by kernel_rfl))⟩
 f26:=⟨Tryz.f251.name,by decide,Tryz.func251.trans (congrArg some (by kernel_rfl))⟩
 f27:=⟨Tryz.f252.name,by decide,Tryz.func252.trans (congrArg some (by kernel_rfl))⟩
 f28:=Tryz.func243.trans (congrArg some (by kernel_rfl))
 f29:=Tryz.func244.trans (congrArg some (by kernel_rfl))
 f46:=⟨Tryz.f293.name,by decide,Tryz.func293.trans (congrArg some (by kernel_rfl))⟩
 f47:=Tryz.func289.trans (congrArg some (by kernel_rfl))
 f48:=Tryz.func290.trans (congrArg some (by kernel_rfl))
 f49:=⟨Tryz.f294.name,by decide,Tryz.func294.trans (congrArg some (by kernel_rfl))⟩
 f50:=⟨Tryz.f295.name,by decide,Tryz.func295.trans (congrArg some (by kernel_rfl))⟩
 f57:=⟨Tryz.f326.name,by decide,Tryz.func326.trans (congrArg some (by kernel_rfl))⟩
 t0:=Tryz.underlying0
 a0:=Tryz.isAgg0
 z0:=Tryz.sizeOf0
 v0:=Tryz.zeroValue0
 t3:=Tryz.underlying3
 a3:=Tryz.isAgg3
 z3:=Tryz.sizeOf3
 v3:=Tryz.zeroValue3
 t4:=Tryz.underlying4
 a4:=Tryz.isAgg4
 z4:=Tryz.sizeOf4
 v4:=Tryz.zeroValue4
 t5:=Tryz.underlying5
 a5:=Tryz.isAgg5
 z5:=Tryz.sizeOf5
 v5:=Tryz.zeroValue5
 t9:=Tryz.underlying9
 a9:=Tryz.isAgg9
 z9:=Tryz.sizeOf9
 v9:=Tryz.zeroValue9
 t22:=Tryz.underlying22
 a22:=Tryz.isAgg22
 z22:=Tryz.sizeOf22
 v22:=Tryz.zeroValue22
 t25:=Tryz.underlying161
 a25:=Tryz.isAgg161
 z25:=Tryz.sizeOf161
 v25:=Tryz.zeroValue161
 t39:=Tryz.underlying235
 a39:=Tryz.isAgg235
 z39:=Tryz.sizeOf235
 v39:=Tryz.zeroValue235
 t45:=Tryz.underlying272
 a45:=Tryz.isAgg272
 z45:=Tryz.sizeOf272
 v45:=Tryz.zeroValue272
 t46:=Tryz.underlying273
 a46:=Tryz.isAgg273
 z46:=Tryz.sizeOf273
 v46:=Tryz.zeroValue273
 t50:=Tryz.underlying184
 a50:=Tryz.isAgg184
 z50:=Tryz.sizeOf184
 v50:=Tryz.zeroValue184
 t53:=Tryz.underlying206
 a53:=Tryz.isAgg206
 z53:=Tryz.sizeOf206
 v53:=Tryz.zeroValue206
 t55:=Tryz.underlying203
 a55:=Tryz.isAgg203
 z55:=Tryz.sizeOf203
 v55:=Tryz.zeroValue203
 t66:=Tryz.underlying313
 a66:=Tryz.isAgg313
 z66:=Tryz.sizeOf313
 v66:=Tryz.zeroValue313
 t70:=Tryz.underlying317
 a70:=Tryz.isAgg317
 z70:=Tryz.sizeOf317
 v70:=Tryz.zeroValue317
 t76:=Tryz.underlying342
 a76:=Tryz.isAgg342
 z76:=Tryz.sizeOf342
 v76:=Tryz.zeroValue342
 t77:=Tryz.underlying135
 a77:=Tryz.isAgg135
 z77:=Tryz.sizeOf135
 v77:=Tryz.zeroValue135 }
end Go.Proofs
end

noncomputable section
set_option maxRecDepth 100000
namespace Den
open Go Go.Proofs Go.Proofs.Tryz
def zpq:ArgT (Tnumber_embedding×Sl×Unit):=(ac z4y (asl az))
def zq7:Ty Sl:=ts
def zrp:zl:=mkE zpq zq7 λa=>F.y_number_embedding_image a.1 a.2.1
def Zbs(n:Nat):Cfg:=(cgP 60 [(300,zrm),(258,mkE zpq zq7 (λa=>F.y_number_embedding_image_ n a.1 a.2.1)),(301,zrn),(256,zro),(266,zlo),(302,Z2a)] [] [(12,2),(39,2),(46,2),(48,2),(55,2)] [2])
theorem Z6y:∃fn,prog.funcs[258]?=some fn/\fn.body.isNone=false/\(fn.name == "runtime.NumGoroutine")=false:=⟨_,func258,rfl,by decide⟩
set_option maxHeartbeats 4000000 in
theorem Z7c:∀n a K D w,Sub D w->F.y_number_embedding_image_ n a.1 a.2.1 K D->Calls prog 258 (zpq.up a).toArray w (z52 (λv h=>zq7.dn v λr=>K r h) D w)
 | 0,_,_,_,_,_,h=>h.elim
 | n+1,a,K,D,w,hs,h=>z0g (C:=Zbs n) (F:=λa=>F.y_number_embedding_image_ (n+1) a.1 a.2.1) (fn:=f258) (c:=bd f258) (an:=(.seq .leaf (.seq (.seq .leaf (.cond (.seq (.draw [0,1,2,3,4,5,6]) .leaf) .leaf)) (.seq .leaf (.seq (.block (.loop [(6,.i)] (.seq (.seq .leaf (.cond .leaf .leaf)) (.block .leaf)))) (.seq (.draw [0,1,2,3,4,5]) (.seq (.seq .leaf (.cond (.seq .leaf .leaf) .leaf)) (.seq (.draw [0,1,2,3,4,5,7,8,9,10,11,12,13,6,14,15,16]) (.seq .leaf .leaf))))))))) ⟨Z60,(Y7 Z6y (Z7c n)),Z61,Z62,zto,Zh7,trivial⟩ trivial func258 rfl rfl (λ_=>rfl) (by intro a K D;kernel_rfl) a K D w hs h
theorem Z63:EnP 258 zrp false:=Y7 Z6y (λa K D w hs h=>h.elim λm h=>Z7c m a K D w hs h)
def zrq:zl:=mkE (asl (asl az)) (t2 z4y ti) λa=>F.z7b a.1 a.2.1
theorem Z64:EnP 257 zrq false:=eo (cgP 44 [(258,zrp)] [] [(21,6),(35,6),(40,6),(41,6)] [4,6,38]) (.q (.q (.s (.q (.b (.loop [(4,.box [.sl,.sl]),(6,.box [.sl,.sl]),(16,.i)] (.q (.s (.c .l .l) (.s (.b (.q (.s (.draw [0,1,2,3,4,5,6,7,8,9,10,11,12]) (.s (.q (.c .w .l)) .l)))) .l)))))) .w))) func257 ⟨Z63,trivial⟩
def Z2b:zl:=mkE (asl az) (t2 ts ti) λa=>F.z3z a.1
theorem Zh8:EnP 254 Z2b false:=eo (cgP 41 [(255,zrj),(257,zrq)] [] [(17,6),(25,7),(29,6),(33,6),(37,6)] [6,7]) (.q (.q (.s (.q (.b (.loop [(4,.s),(11,.i)] (.q (.s (.c .l .l) (.join [(4,.s)] (.b (.q (.b (.q (.c .l (.q (.c .l (.q (.s (.q (.c .w .l)) .l))))))))) .l)))))) .w))) func254 ⟨Z5x,Z64,trivial⟩
def Z2c:zl:=mkE (asl az) ts λa=>F.V4 a.1
theorem Zh9:EnP 262 Z2c false:=eo (cgP 23 [(196,zrh)] [] [] [5]) (.q (.q (.s (.q (.b (.loop [(11,.i)] (.q (.s (.c .l .l) (.s (.b .w) .l)))))) .w))) func262 ⟨Z5v,trivial⟩
def zrr:zl:=mkE (ac Zt az) Zt λa=>F.z1h a.1
theorem Z65:EnP 189 zrr false:=eo (cgP 26 [(262,Z2c)] [] [(6,1),(10,1),(17,3),(23,3)] [1,2,3,21]) (.q (.q (.s (.q (.b (.loop [(3,.box [.sl,.sl]),(13,.i)] (.q (.s (.c .l .l) (.s (.b (.q (.draw [0,1,2,3,4,5,6,7]))) .l)))))) .w))) func189 ⟨Zh9,trivial⟩
def zlp:zl:=mkE (asl az) (t2 ts ti) λa=>F.z27 a.1
theorem ztp:EnP 186 zlp false:=eo (cgP 59 [(254,Z2b),(189,zrr),(255,zrj),(256,zro),(257,zrq),(258,zrp)] [] [(29,8),(33,8),(36,9),(39,8),(48,8),(51,9)] [8,9,10,55]) (.q (.q (.s (.q (.c .w .l)) (.q (.s (.q (.b (.loop [(6,.s),(22,.i)] (.q (.s (.c .l .l) (.s (.b (.q (.q (.join [(9,.box [.sl,.sl])] (.q (.c .l (.q (.s (.q (.c .w .l)) .l)))) .l)))) .l)))))) .w))))) func186 ⟨Zh8,Z65,Z5x,Z62,Z64,Z63,trivial⟩
def Z2d:zl:=mkE (asl az) (t2 ts ti) λa=>F.z1g a.1
theorem Zha:EnP 123 Z2d false:=eo (cgP 43 [(187,Z1v),(186,zlp)]) (.q (.q (.s (.q (.c .w .l)) (.q (.s (.q (.b (.loop [(4,.s),(23,.i)] (.q (.s (.c .l .l) (.s (.b (.q (.draw [0,1,2,3,4,5,6,7,8,9,10,11,12,13,14]))) .l)))))) .w))))) func123 ⟨Zgs,ztp,trivial⟩
def Z2e:zl:=mkE (ac Qq az) Qq λa=>F.z5g a.1
theorem Zhb:EnP 307 Z2e false:=eo (cgP 9 [(339,zr7)] [] [(3,1),(6,1)] [1,2]) (.q (.s (.draw [0,1,3,4,2,5,6]) .l)) func307 ⟨Z5l,trivial⟩
def zgw:zl:=mkE (asl az) ts λa=>F.z3o a.1
theorem zmn:EnP 264 zgw false:=eo (cgP 23 [(307,Z2e)] [] [] [5]) (.q (.q (.s (.q (.b (.loop [(11,.i)] (.q (.s (.c .l .l) (.s (.b .w) .l)))))) .w))) func264 ⟨Zhb,trivial⟩
def zrs:zl:=mkE (asl (asl (asl az))) ts λa=>F.z7w a.1 a.2.1 a.2.2.1
theorem Z66:EnP 304 zrs false:=eo (cgP 16 [(308,zlk),(264,zgw),(337,zgv)]) (.q (.s (.q (.c .w .l)) .w)) func304 ⟨ztk,zmn,zmm,trivial⟩
def zpr:ArgT (Sl×Sl×Unit):=(asl (asl az))
def zq8:Ty Int:=ti
def zrt:zl:=mkE zpr zq8 λa=>F.z8q a.1 a.2.1
def Zbt(n:Nat):Cfg:=(cgP 75 [(77,zju),(261,mkE zpr zq8 (λa=>F.Vf n a.1 a.2.1)),(266,zlo),(304,zrs)])
theorem Z6z:∃fn,prog.funcs[261]?=some fn/\fn.body.isNone=false/\(fn.name == "runtime.NumGoroutine")=false:=⟨_,func261,rfl,by decide⟩
set_option maxHeartbeats 4000000 in
theorem Z7d:∀n a K D w,Sub D w->F.Vf n a.1 a.2.1 K D->Calls prog 261 (zpr.up a).toArray w (z52 (λv h=>zq8.dn v λr=>K r h) D w)
 | 0,_,_,_,_,_,h=>h.elim
 | n+1,a,K,D,w,hs,h=>z0g (C:=Zbt n) (F:=λa=>F.Vf (n+1) a.1 a.2.1) (fn:=f261) (c:=bd f261) (an:=(.seq .leaf (.seq (.seq .leaf (.cond (.seq .leaf .leaf) .leaf)) (.seq .leaf (.seq (.draw [0,1,2,3,4,5,6,7,8,9,10,11]) (.seq .leaf (.join [] (.block (.seq .leaf (.cond (.seq .leaf .leaf) (.seq .leaf (.cond (.seq .leaf .leaf) .leaf))))) (.seq (.draw [0,1,2,3,5,6,7,8,9,10,11,12,4,13,14,15,16]) (.seq .leaf .leaf))))))))) ⟨zpc,(Y7 Z6z (Z7d n)),zto,Z66,trivial⟩ trivial func261 rfl rfl (λ_=>rfl) (by intro a K D;kernel_rfl) a K D w hs h
theorem Z67:EnP 261 zrt false:=Y7 Z6z (λa K D w hs h=>h.elim λm h=>Z7d m a K D w hs h)
def Z2f:zl:=mkE (asl az) tb λa=>F.zaz a.1
theorem Zhc:EnP 303 Z2f false:=eo (cgP 25 [(133,zbr),(300,zrm),(263,ze1),(261,zrt)]) (.q (.s (.q (.c .w .l)) (.s (.q (.b (.loop [(13,.i)] (.q (.s (.c .l .l) (.s (.b (.q (.q (.c .w .l)))) .l)))))) .w))) func303 ⟨zen,Z60,zim,Z67,trivial⟩
def Z2g:zl:=mkE (asl (asl az)) tb λa=>F.zek a.1 a.2.1
theorem Zhd:EnP 260 Z2g false:=eo (cgP 20 [(263,ze1),(303,Z2f)]) (.q (.s (.q (.b (.loop [(9,.i)] (.q (.s (.c .l .l) (.s (.b (.q (.q (.c .w .l)))) .l)))))) .w)) func260 ⟨zim,Zhc,trivial⟩
def Z2h:zl:=mkE (asl (asl az)) ti λa=>F.zej a.1 a.2.1
theorem Zhe:EnP 188 Z2h false:=eo (cgP 13 [(260,Z2g),(261,zrt)]) (.q (.s (.q (.c .w .l)) .w)) func188 ⟨Zhd,Z67,trivial⟩
def zlq:zl:=mkE (ac Zt az) ti λa=>F.z29 a.1
theorem ztq:EnP 126 zlq false:=eo (cgP 8 [(188,Z2h)] [] [(3,1),(5,1)] [1]) (.q .w) func126 ⟨Zhe,trivial⟩
def Z2i:zl:=mkE (asl (ap az)) tb λa=>F.Vp a.1 a.2.1
theorem Zhf:EnP 125 Z2i false:=eo (cgP 10 [(126,zlq)]) (.q .w) func125 ⟨ztq,trivial⟩
def Z2j:zl:=mkE (asl (ArgT.fnc 125 1 az)) ti λa=>F.Zm a.1 a.2.1
theorem Zhg:EnP 124 Z2j false:=eo (cgP 19 [(125,Z2i)]) (.q (.s (.q (.b (.loop [(8,.i)] (.q (.s (.c .l .l) (.s (.b (.q (.q (.c .w .l)))) .l)))))) .w)) func124 ⟨Zhf,trivial⟩
def Z2k:zl:=mkE (ac Zt (ac Zt (ArgT.fn 266 az))) (t2 Zt ti) λa=>F.Wx a.1 a.2.1
theorem Zhh:EnP 265 Z2k false:=eo (cgP 39 [(186,zlp),(266,zlo)] [] [] [3,4,6]) (.q (.q (.s (.q (.c .w .l)) (.q (.s (.draw [0,1,2,3,4,5,6,7,8,9,10,11,12,13,14]) .l))))) func265 ⟨ztp,zto,trivial⟩
def zru:zl:=mkE (ac Zt (ac Zt az)) (t2 Zt ti) λa=>F.z60 a.1 a.2.1
theorem Z68:EnP 191 zru false:=eo (cgP 11 [(265,Z2k)] [] [] [2,3,4]) (.q .w) func191 ⟨Zhh,trivial⟩
def zlr:zl:=mkE (ap (ac Zt (ai az))) Zt λa=>F.y_matrix_calc_take a.1 a.2.1 a.2.2.1
theorem ztr:EnP 192 zlr false:=eo (cgP 24 [(59,zlh)] [] [] [4,6]) (.q (.join [] (.q (.c .l .l)) (.s (.q (.c .w .l)) .w))) func192 ⟨zth,trivial⟩
def zrv:zl:=mkE (ap (ac Zt (ac Zt az))) Zt λa=>F.y_matrix_calc_mul a.1 a.2.1 a.2.2.1
theorem Z69:EnP 128 zrv false:=eo (cgP 19 [(191,zru),(192,zlr)] [] [] [4,5,6,7]) (.q (.q .w)) func128 ⟨Z68,ztr,trivial⟩
def Z2l:zl:=mkE (ac qd az) tb λa=>F.z1s a.1
theorem Zhi:EnP 363 Z2l false:=eo (cgP 7 [] [] [(3,1)] [1]) (.q .w) func363 trivial
def Z2m:zl:=mkE (ac Qq (ac Qq az)) (t2 Qq ti) λa=>F.z5f a.1 a.2.1
theorem Zhj:EnP 342 Z2m false:=eo (cgP 21 [(363,Z2l),(349,zgu),(350,zlf)] [] [(6,3),(10,2),(12,3),(15,2),(17,3)] [2,3,4]) (.q (.s (.q (.c .w .l)) (.s (.draw [0,1,2,3,5,6,7,8,4,9,10,11,12]) .l))) func342 ⟨Zhi,zml,ztf,trivial⟩
def Z2n:zl:=mkE (asl (asl az)) ts λa=>F.zin a.1 a.2.1
theorem Zhk:EnP 343 Z2n false:=eo (cgP 32 [(340,zll),(341,zlm),(309,zln),(264,zgw),(337,zgv)]) (.q (.q (.q .w))) func343 ⟨ztl,ztm,ztn,zmn,zmm,trivial⟩
def zps:ArgT (Sl×Sl×Unit):=(asl (asl az))
def zq9:Ty (Sl×Bool):=(t2 ts tb)
def Z2o:zl:=mkE zps zq9 λa=>F.z7e a.1 a.2.1
def Zbu(n:Nat):Cfg:=(cgP 59 [(133,zbr),(342,Z2m),(340,zll),(343,Z2n),(310,mkE zps zq9 (λa=>F.Vc n a.1 a.2.1)),(341,zlm),(309,zln),(264,zgw)] [] [] [6])
theorem Z70:∃fn,prog.funcs[310]?=some fn/\fn.body.isNone=false/\(fn.name == "runtime.NumGoroutine")=false:=⟨_,func310,rfl,by decide⟩
set_option maxHeartbeats 4000000 in
theorem Z7e:∀n a K D w,Sub D w->F.Vc n a.1 a.2.1 K D->Calls prog 310 (zps.up a).toArray w (z52 (λv h=>zq9.dn v λr=>K r h) D w)
 | 0,_,_,_,_,_,h=>h.elim
 | n+1,a,K,D,w,hs,h=>z0g (C:=Zbu n) (F:=λa=>F.Vc (n+1) a.1 a.2.1) (fn:=f310) (c:=bd f310) (an:=(.seq .leaf (.seq (.seq .leaf (.cond (.seq (.draw [1,2,3,8,0,4,5,6,7,9,10]) (.seq .leaf .leaf)) .leaf)) (.seq .leaf (.seq .leaf (.seq (.seq .leaf (.cond (.seq .leaf .leaf) .leaf)) (.seq .leaf (.seq .leaf .leaf)))))))) ⟨zen,Zhj,ztl,Zhk,(Y7 Z70 (Z7e n)),ztm,ztn,zmn,trivial⟩ trivial func310 rfl rfl (λ_=>rfl) (by intro a K D;kernel_rfl) a K D w hs h
theorem Zhl:EnP 310 Z2o false:=Y7 Z70 (λa K D w hs h=>h.elim λm h=>Z7e m a K D w hs h)
def Z2p:zl:=mkE (asl (asl az)) (t2 ts ti) λa=>F.zeo a.1 a.2.1
theorem Zhm:EnP 267 Z2p false:=eo (cgP 21 [(263,ze1),(310,Z2o)]) (.q (.s (.q (.c .w .l)) (.q (.s (.q (.c .w .l)) .w)))) func267 ⟨zim,Zhl,trivial⟩
def Z2q:zl:=mkE (ac Zt (ac Zt az)) (t2 Zt ti) λa=>F.zc0 a.1 a.2.1
theorem Zhn:EnP 193 Z2q false:=eo (cgP 28 [(267,Z2p),(191,zru)] [] [(9,3),(11,3),(21,3)] [2,3,4]) (.q (.q (.s (.q (.c .w .l)) .w))) func193 ⟨Zhm,Z68,trivial⟩
def Z2r:zl:=mkE (ap (ac Zt (ac Zt az))) Zt λa=>F.y_matrix_calc_div a.1 a.2.1 a.2.2.1
theorem Zho:EnP 129 Z2r false:=eo (cgP 19 [(193,Z2q),(192,zlr)] [] [] [4,5,6,7]) (.q (.q .w)) func129 ⟨Zhn,ztr,trivial⟩
def Z2s:zl:=mkE (ac Zt (ac Zt (ArgT.fn 304 az))) (t2 Zt ti) λa=>F.Wy a.1 a.2.1
theorem Zhp:EnP 265 Z2s false:=eo (cgP 39 [(186,zlp),(304,zrs)] [] [] [3,4,6]) (.q (.q (.s (.q (.c .w .l)) (.q (.s (.draw [0,1,2,3,4,5,6,7,8,9,10,11,12,13,14]) .l))))) func265 ⟨ztp,Z66,trivial⟩
def Z2t:zl:=mkE (ac Zt (ac Zt az)) (t2 Zt ti) λa=>F.z8g a.1 a.2.1
theorem Zhq:EnP 268 Z2t false:=eo (cgP 11 [(265,Z2s)] [] [] [2,3,4]) (.q .w) func268 ⟨Zhp,trivial⟩
def Z2u:zl:=mkE (ap (ac Zt (ac Zt az))) Zt λa=>F.y_matrix_calc_sub a.1 a.2.1 a.2.2.1
theorem Zhr:EnP 194 Z2u false:=eo (cgP 19 [(268,Z2t),(192,zlr)] [] [] [4,5,6,7]) (.q (.q .w)) func194 ⟨Zhq,ztr,trivial⟩
def Z2v:zl:=mkM (ap (asl (asl (ac Zt (ai az))))) tu λa=>F.y_matrix_calc_subtract a.1 a.2.1 a.2.2.1 a.2.2.2.1 a.2.2.2.2.1
theorem Zhs:EnP 130 Z2v true:=eoM (cgP 40 [(126,zlq),(128,zrv),(194,Z2u)] [] [] [8]) (.q (.q (.b (.loop [(10,.i)] (.s (.q (.c .l .l)) (.join [] (.b (.q (.c (.draw [0,1,2,3,4,5,6,7,8,9,10,11,12,13,14,15,16]) .l))) .l)))))) func130 ⟨ztq,Z69,Zhr,trivial⟩
def Z2w:zl:=mkE (asl (asl az)) ts λa=>F.zep a.1 a.2.1
theorem Zht:EnP 190 Z2w false:=eo (cgP 11 [(263,ze1),(264,zgw)]) (.q (.s (.q (.c .w .l)) .w)) func190 ⟨zim,zmn,trivial⟩
def Z2x:zl:=mkE (ac Zt az) Zt λa=>F.z8f a.1
theorem Zhu:EnP 127 Z2x false:=eo (cgP 12 [(189,zrr),(190,Z2w)] [] [(5,1),(7,1),(10,1)] [1,2]) (.q (.q (.q .w))) func127 ⟨Z65,Zht,trivial⟩
def Z2y:zl:=mkE (asl az) (t2 zdd ti) λa=>F.z0q a.1
theorem Zhv:EnP 56 Z2y false:=eo (cgP 155 [(123,Z2d),(59,zlh),(122,zli),(124,Z2j),(128,zrv),(129,Z2r),(126,zlq),(130,Z2v),(127,Z2x)] [130] [(35,7),(65,7),(68,7),(77,7),(81,7),(137,7),(142,7)] [2,7,11,15,140]) (.q (.q (.s (.q (.c .w .l)) (.q (.q (.s (.q (.b (.loop [(7,.box [.sl,.sl,.sl,.sl]),(32,.i)] (.q (.s (.c .l .l) (.join [(7,.box [.sl,.sl,.sl,.sl])] (.b (.q (.q (.q (.s (.q (.c .l .l)) (.join [(7,.box [.sl,.sl,.sl,.sl])] (.q (.c (.s (.draw [0,1,2,3,4,5,6,7,8,9,10,11,12,13,14,15,16,17,18,19]) .l) .l)) (.s (.draw [0,1,2,3,4,5,6,7,8]) (.q (.s (.q (.b (.loop [(12,.i)] (.s (.q (.c .l .l)) (.s (.b (.draw [0,1,2,3,4,5,6,7,8,9,10,11,12,13,14,15,16])) .l))))) (.s (.q (.b (.loop [(110,.i)] (.q (.s (.c .l .l) (.join [] (.b (.q (.q (.q (.c (.draw [0,1,2,3,4,5,6,7,8]) .l))))) .l)))))) .l)))))))))) .l)))))) (.s (.q (.c (.s (.draw [0,1,2,3,4,5,6]) .l) .l)) .w))))))) func56 ⟨Zha,zth,zti,Zhg,Z69,Zho,ztq,Zhs,Zhu,trivial⟩
def Z2z:zl:=mkE (asl az) (t2 ts ti) λa=>F.z6u a.1
theorem Zhw:EnP 24 Z2z false:=eo (cgP 18 [(55,zri),(57,Z1t),(56,Z2y)] [] [(15,4)] [4]) (.q (.s (.q (.c .w .l)) (.q .w))) func24 ⟨Z5w,Zgq,Zhv,trivial⟩
def zpt:ArgT (TTree×Unit):=(ac z33 az)
def zqa:Ty Sl:=ts
def zrw:zl:=mkE zpt zqa λa=>F.z1m a.1
def Zbv(n:Nat):Cfg:=(cgP 29 [(108,mkE zpt zqa (λa=>F.Wc n a.1))] [] [(6,1),(10,1),(12,1),(16,1)] [1,5])
theorem Z71:∃fn,prog.funcs[108]?=some fn/\fn.body.isNone=false/\(fn.name == "runtime.NumGoroutine")=false:=⟨_,func108,rfl,by decide⟩
set_option maxHeartbeats 4000000 in
theorem Z7f:∀n a K D w,Sub D w->F.Wc n a.1 K D->Calls prog 108 (zpt.up a).toArray w (z52 (λv h=>zqa.dn v λr=>K r h) D w)
 | 0,_,_,_,_,_,h=>h.elim
 | n+1,a,K,D,w,hs,h=>z0g (C:=Zbv n) (F:=λa=>F.Wc (n+1) a.1) (fn:=f108) (c:=bd f108) (an:=(.seq .leaf (.seq (.seq .leaf (.cond (.seq .leaf .leaf) .leaf)) (.seq .leaf (.seq (.seq .leaf (.block (.loop [(3,.s),(19,.i)] (.seq .leaf (.seq (.cond .leaf .leaf) (.seq (.block (.seq .leaf .leaf)) .leaf)))))) (.seq .leaf .leaf)))))) ⟨(Y7 Z71 (Z7f n)),trivial⟩ trivial func108 rfl rfl (λ_=>rfl) (by intro a K D;kernel_rfl) a K D w hs h
theorem Z6a:EnP 108 zrw false:=Y7 Z71 (λa K D w hs h=>h.elim λm h=>Z7f m a K D w hs h)
def z36:zl:=mkM (asl az) tu λa=>F.z4x a.1
theorem z93:EnP 109 z36 true:=z0r ⟨_,func109,rfl,by decide⟩ λa K D w hs hk=>zt5 (λp c w=>Any.slices_Sort_int_none Tryz.sortI p c w) (λb o c zs w h1 h2 h3=>Any.slices_Sort_int Tryz.sortI b o c zs w h1 h2 h3) a.1 K D w hs hk
def Z30:zl:=mkM (asl az) ts λa=>F.Xu a.1
theorem Zhx:EnP 110 Z30 true:=eoM (cgP 61 []) (.q (.s (.q (.c .w .l)) (.s (.q (.b (.loop [(3,.i)] (.s (.q (.c .l .l)) (.s (.b (.s (.draw [0,1,2,3,4,5,6,7,8,9]) (.c (.q (.s (.q (.b (.loop [(3,.i),(5,.i)] (.s (.q (.c .l .l)) (.join [(3,.i)] (.b (.s (.draw [0,1,2,3,4,5,6,7,8,9]) (.c .w .l))) .l))))) (.q .w))) .l))) .l))))) .w))) func110 trivial
def zls:zl:=mkE (ac z33 az) ts λa=>F.Qs a.1
theorem zts:EnP 43 zls false:=eo (cgP 25 [(108,zrw),(109,z36),(110,Z30)] [109,110] [(14,5),(16,5)] [1,5,18]) (.q (.q (.s (.q (.b (.loop [(3,.s),(9,.i)] (.q (.s (.c .l .l) (.s (.b .w) .l)))))) (.q .w)))) func43 ⟨Z6a,z93,Zhx,trivial⟩
end Den
end
