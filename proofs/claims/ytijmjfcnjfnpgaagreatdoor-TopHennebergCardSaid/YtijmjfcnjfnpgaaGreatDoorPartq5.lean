/-
  Part 5 of the tools and contracts from which the statement is proved.
-/
import Derived.Test.YtijmjfcnjfnpgaaGreatDoorPartq4
import Derived.Calls
set_option linter.all false
open Go.IntKind
section
namespace Den
open Go Iv Lx
def cAt(cs:List Int)(c:PCon)(i:Nat):Int:=cs.getD (c.cir.getD i 0).toNat 0
def cnt(l:List Int)(t:Int):Nat:=(l.filter (·==t)).length
def zbi(c:PCon)(cs:List Int)(t:Int):Int:=
 if c.kind=13 then (if (t∈c.pts)↔cAt cs c 0=t then 0 else 2)
 else if c.kind=16 then (if cAt cs c 0=t/\t∉c.pts then 1 else 0)
 else if c.kind=17 then (if cAt cs c 0=t↔cAt cs c 1=t then 0 else 2)
 else if t∉c.pts then 0
 else if c.kind=1\/c.kind=9 then 3
 else if c.kind=2 then 2
 else if c.kind=3\/c.kind=6\/c.kind=11\/c.kind=12 then 1
 else if c.kind=4 then (if c.pts[0]?=some t then 1 else 0)
 else if c.kind=10 then (if c.pts[0]?=some t\/c.pts[1]?=some t then 3 else 0)
 else if c.kind=5\/c.kind=7 then (if cnt c.pts t=2 then 2 else 1)
 else if c.kind=8 then (if cnt c.pts t=2 then 1 else 2)
 else 0
def zc9(c:PCon)(cs:List Int)(k:Int):Prop:=
 k∈c.cir/\(if c.kind=13\/c.kind=16 then cs.getD k.toNat 0∉c.pts else if c.kind=17 then c.side=1/\cAt cs c 0≠cAt cs c 1 else True)
instance (c:PCon) (cs:List Int) (k:Int):Decidable (zc9 c cs k):=by unfold zc9;infer_instance
def z81(c:PCon)(cs:List Int)(item:Int):Prop:=
 if item<0 then zc9 c cs (-1-item)else if eqK c.kind=2 then zbi c cs item=3 else zbi c cs item=1\/zbi c cs item=2
instance (c:PCon) (cs:List Int) (k:Int):Decidable (z81 c cs k):=by unfold z81;infer_instance
def zfn(l:List Int)(item:Int)(R:List Int):Prop:=item∈l/\∀x∈l,x∉R
instance (l:List Int) (item:Int) (R:List Int):Decidable (zfn l item R):=by unfold zfn;infer_instance
def zer(its:List (List Int))(item:Int)(R:List Int):Nat->List Int
 | 0=>[]
 | k+1=>zer its item R k++(if zfn (its.getD k []) item R then [(k:Int)]else [])
def za7(its:List (List Int))(item:Int)(R:List Int):List Int:=zer its item R its.length
theorem zp1{its:List (List Int)}{item:Int}{R:List Int}:∀{k:Nat} {j:Int},j∈zer its item R k↔∃i:Nat,i<k/\j=i/\zfn (its.getD i []) item R
 | 0,j=>by simp[zer]
 | k+1,j=>by
   unfold zer
   rw[List.mem_append,zp1]
   constructor
   . rintro(⟨i,hi,h1,h2⟩ | h)
     . exact⟨i,by omega,h1,h2⟩
     . split at h
       . rename_i h3
         exact⟨k,by omega,List.mem_singleton.1 h,h3⟩
       . cases h
   . rintro⟨i,hi,h1,h2⟩
     rcases Nat.lt_or_ge i k with h3 | h3
     . exact .inl ⟨i,h3,h1,h2⟩
     . have:i=k:=by omega
       subst this
       right
       rw[if_pos h2];exact List.mem_singleton.2 h1
theorem zic(its:List (List Int))(item:Int)(R:List Int):∀k,(zer its item R k).length<=k
 | 0=>by simp[zer]
 | k+1=>by
   unfold zer
   have:=zic its item R k
   rw[List.length_append]
   split<;>simp<;>omega
def dC:PCon:=⟨0,[],[],[],0⟩
def wtL(L:List PCon)(l:List Int):Nat:=(l.map λi=>eqK (L.getD i.toNat dC).kind).sum
def za0(item:Int):Nat:=if item<0 then 1 else 2
def zj4(L:List PCon)(cs:List Int)(R:List Int)(item:Int):Prop:=
 item∉R/\wtL L (za7 (L.map λc=>W0 c cs) item R)<=za0 item/\∀i∈za7 (L.map λc=>W0 c cs) item R,z81 (L.getD i.toNat dC) cs item
instance (L:List PCon) (cs:List Int) (R:List Int) (item:Int):Decidable (zj4 L cs R item):=by unfold zj4;infer_instance
def zj2(n m:Nat):List Int:=(List.range n).map (λi:Nat=>(i:Int))++(List.range m).map (λi:Nat=>-1-(i:Int))
theorem Z4a{n m:Nat}{x:Int}:x∈zj2 n m↔(0<=x/\x<n)\/(x<0/\-1-x<m):=by
 unfold zj2
 rw[List.mem_append,List.mem_map,List.mem_map]
 constructor
 . rintro(⟨a,ha,rfl⟩ | ⟨a,ha,rfl⟩)
   . rw[List.mem_range]at ha;omega
   . rw[List.mem_range]at ha;omega
 . rintro(⟨h1,h2⟩ | ⟨h1,h2⟩)
   . exact .inl ⟨x.toNat,List.mem_range.2 (by omega),by omega⟩
   . exact .inr ⟨(-1-x).toNat,List.mem_range.2 (by omega),by omega⟩
theorem zy4{n m:Nat}:(zj2 n m).length=n+m:=by simp[zj2]
def zbk(can:List Int->Int->Bool)(pref:List Int):Nat->List Int->List Int
 | 0,R=>R
 | f+1,R=>match pref.find? (can R)with
   | none=>R
   | some i=>zbk can pref f (R++[i])
def Zay(can:List Int->Int->Bool)(pref:List Int):List Int:=zbk can pref pref.length []
def Vl(pref R:List Int):List Int:=pref.filter λx=>decide (x∉R)
def ze3(L:List PCon)(cs:List Int)(R:List Int)(item:Int):Bool:=decide (zj4 L cs R item)
theorem zs9{pref R:List Int}{i:Int}(hi:i∈pref)(hR:i∉R):(Vl pref (R++[i])).length<(Vl pref R).length:=by
 have e:Vl pref (R++[i])=(Vl pref R).filter λx=>decide (x≠i):=by
  unfold Vl
  rw[List.filter_filter]
  congr 1
  funext x
  simp only[List.mem_append,List.mem_singleton,not_or]
  by_cases h1:x∈R<;>by_cases h2:x=i<;>simp[h1,h2]
 rw[e]
 refine List.length_filter_lt_length_iff_exists.2 ⟨i,?_,by simp⟩
 unfold Vl
 exact List.mem_filter.2 ⟨hi,by simpa using hR⟩
def zsa(c:PCon):Prop:=c.pts.length=(shK c.kind).1/\c.cir.length=(shK c.kind).2.1/\1<=c.kind/\c.kind<=17/\(z58 c.kind->zbq c.pts)/\(¬z58 c.kind->c.pts.Nodup)
theorem VC.lenC{c:PCon}{n m:Int}(hv:VC c n m):zsa c:=by
 obtain⟨h1,h2,h3,h4,h5,h6,h7⟩:=hv
 refine⟨h2.1,h3.1,h1.1,h1.2,λh=>?_,λh=>?_⟩
 . rw[if_pos h]at h7;exact h7
 . rw[if_neg h]at h7;exact h7.1
section
variable {h : Hp} {x : TConstraint} {c : PCon} {cs : List Int} {ce : Sl} {t : Int} {Kb : Bool → Hp → Prop} {Ki : Int → Hp → Prop} {Ks : Sl → Hp → Prop}
def z4y(l:List Int)(t:Int):Nat->List Int
 | 0=>[]
 | k+1=>z4y l t k++(if l[k]?=some t then [(k:Int)]else [])
theorem zow(l:List Int)(t:Int):∀k,k<=l.length->(z4y l t k).length=cnt (l.take k) t
 | 0,_=>by simp[z4y,cnt]
 | k+1,hk=>by
   unfold z4y
   rw[List.length_append,zow l t k (by omega)]
   unfold cnt
   rw[<-List.take_append_getElem (show k<l.length by omega),List.filter_append,List.length_append]
   congr 1
   rw[List.getElem?_eq_getElem (by omega)]
   by_cases h:l[k]=t<;>simp[h]
theorem zv1(l:List Int)(t:Int):∀k,(z4y l t k).length<=k
 | 0=>by simp[z4y]
 | k+1=>by
   unfold z4y
   have:=zv1 l t k
   rw[List.length_append]
   split<;>simp<;>omega
theorem zkh{l:List Int}{t:Int}:∀{k:Nat} (hne:z4y l t k≠[]),∃i:Nat,(z4y l t k)[0]?=some (i:Int)/\l[i]?=some t/\∀j,j<i->l[j]?≠some t
 | 0,h=>absurd rfl h
 | k+1,h=>by
   unfold z4y at h |-
   by_cases h0:z4y l t k=[]
   . rw[h0,List.nil_append]at h |-
     split at h
     . rename_i h3
       rw[if_pos h3]
       refine⟨k,rfl,h3,λj hj hh=>?_⟩
       have:(j:Int)∈z4y l t k:=by
        have key:∀m,j<m->(j:Int)∈z4y l t m:=by
         intro m
         induction m with
         | zero=>intro hm;omega
         | succ m ih=>
           intro hm
           unfold z4y
           rcases Nat.lt_or_ge j m with h4 | h4
           . exact List.mem_append_left _ (ih h4)
           . have:j=m:=by omega
             subst this
             rw[if_pos hh];simp
        exact key k hj
       rw[h0]at this;cases this
     . exact absurd rfl h
   . obtain⟨i,h1,h2⟩:=zkh h0
     refine⟨i,?_,h2⟩
     have:0<(z4y l t k).length:=List.length_pos_iff.2 h0
     rw[List.getElem?_append_left this];exact h1
theorem Z87{l:List Int}{t:Int}:cnt l t≠0↔t∈l:=by
 unfold cnt
 rw[<-Nat.pos_iff_ne_zero,List.length_pos_iff_exists_mem]
 constructor
 . rintro⟨a,ha⟩
   have:=List.mem_filter.1 ha
   rw[beq_iff_eq]at this
   rw[<-this.2];exact this.1
 . intro h
   exact⟨t,List.mem_filter.2 ⟨h,by simp⟩⟩
theorem zov(hx:CO h x c)(hs:sC c)(H:∀y h',h.le h'->IL h' y (z4y c.pts t c.pts.length)->Ks y h'):zc (F.z5h x t) Ks h:=by
 refine zd (λy h'=>IL h' y (z4y c.pts t c.pts.length)) (λK' hk=>?_) λb h' hl hb=>H b h' hl hb
 unfold F.z5h
 have hp:=hx.2.1
 have hl:=hp.len
 have s1:=hs.1
 refine Yt (n:=c.pts.length) (by omega) (λi y h'=>OI h h' y (z4y c.pts t i)) OI.nil ?_
 intro i y h1 hi ho k hk2
 refine ze (λh2=>?_) (λh2=>?_)
 . have hi':i<c.pts.length:=by simp only at h2;omega
   refine zk (λs h'=>OI h h' s.1 (z4y c.pts t (i+1))) (λs h' hs=>hk2 _ _ hi' hs) ?_
   refine(hp.le ho.dle).get i rfl hi' ?_
   have hle:=zv1 c.pts t i
   refine zz (λh3=>?_) (λh3=>?_)
   . refine ho.app (by omega) λz h4 ho4=>?_
     show OI _ _ _ _
     unfold z4y
     rw[List.getElem?_eq_getElem hi',h3,if_pos rfl];exact ho4
   . show OI _ _ _ _
     unfold z4y
     rw[List.getElem?_eq_getElem hi',if_neg (λhh=>h3 (Option.some.inj hh)),List.append_nil];exact ho
 . have:i=c.pts.length:=by simp only at h2;omega
   subst this
   exact hk _ _ ho.dle ho.il
theorem zl4{K:Int->Prop}{i:Nat}(hx:CO h x c)(hc:IL h ce cs)(hok:zcl c cs)(hi:i<c.cir.length)(H:K (cAt cs c i)):zg x.circles (i:Int) 1 λa5=>ldL (.int .i64) a5 (λx6=>zg ce x6 1 λa7=>ldL (.int .i64) a7 K h) h:=by
 refine hx.2.2.1.get i rfl hi ?_
 have hkk:=hok _ (List.getElem_mem hi)
 refine hc.get c.cir[i].toNat (by omega) (by omega) ?_
 unfold cAt at H
 rw[Q9 hi,Q9 (by omega)]at H
 exact H
theorem zvk(hx:CO h x c)(hc:IL h ce cs)(hs:sC c)(hok:zcl c cs)(hv:zsa c)(H:∀h',h.le h'->Ki (zbi c cs t) h'):zc (F.z8j x ce t) Ki h:=by
 refine zd (λr h'=>r=zbi c cs t) (λK' hk=>?_) λb h' hl hb=>by subst hb;exact H h' hl
 unfold F.z8j
 obtain⟨v1,v2,v3,v4,v5,v6⟩:=hv
 have x1:=hx.1
 have s1:=hs.1
 refine z8m λp1 h1 hl1 c1=>Xy λp2 h2 hl2 c2=>Xy λp3 h3 hl3 c3=>?_
 have hle:h.le h3:=Hp.le_trans hl1 (Hp.le_trans hl2 hl3)
 have k1:CKC h3 p1 x:=λi v hv=>Hp.cell_le (Hp.le_trans hl2 hl3) (c1 i v hv)
 refine⟨_,k1 0 _ rfl,_,k1 1 _ rfl,_,k1 2 _ rfl,_,k1 3 _ rfl,_,k1 4 _ rfl,_,c3,?_⟩
 refine zov (x:=x) (hx.le hle) hs λr6 h4 hl4 hr6=>?_
 have hle4:=Hp.le_trans hle hl4
 have k4:CKC h4 p1 x:=λi v hv=>Hp.cell_le hl4 (k1 i v hv)
 have hr:=hr6.len
 have hpl:=zow c.pts t c.pts.length (Nat.le_refl _)
 rw[List.take_length]at hpl
 have hat:(z4y c.pts t c.pts.length).length≠0↔t∈c.pts:=by rw[hpl];exact Z87
 have cen:∀i h' (K:Bool->Hp->Prop),i<c.cir.length->h4.le h'->K (decide (cAt cs c i=t)) h'->zc (F.Vu (i:Int) (some p2) (some p1) (some p3)) K h':=by
  intro i h' K hi hl' hK
  refine Zf _ (λK'' hk''=>?_) hK
  unfold F.Vu
  have hl3':=Hp.le_trans hl4 hl'
  refine⟨_,Hp.cell_le (Hp.le_trans hl3 hl3') c2,_,Hp.cell_le hl' (k4 2 _ rfl),?_⟩
  refine zl4 (x:=x) (ce:=ce) (hx.le (Hp.le_trans hle4 hl')) (hc.le (Hp.le_trans hle4 hl')) hok hi ?_
  refine⟨_,Hp.cell_le hl3' c3,?_⟩
  have:(cAt cs c i==t)=decide (cAt cs c i=t):=by
   by_cases hh:cAt cs c i=t
   . rw[decide_eq_true hh,hh];simp
   . rw[decide_eq_false hh,beq_eq_false_iff_ne];exact hh
  show K'' (cAt cs c i==t) h'
  rw[this];exact hk''
 refine⟨_,k4 0 _ rfl,?_⟩
 rw[x1]
 have hk':∀r,r=zbi c cs t->K' r h4:=λr hr=>hk _ _ hle4 hr
 unfold zbi at hk'
 refine zz (λe13=>?_) (λe13=>?_)
 . refine cen 0 h4 _ (by rw[v2,e13];decide) (Hp.le_refl _) ?_
   rw[if_pos e13]at hk'
   have ha:decide ((r6.len:Int)>0)=decide (t∈c.pts):=decide_eq_decide.2 (by rw[<-hat];omega)
   rw[ha]
   refine zp (λh5=>hk' _ ?_) (λh5=>hk' _ ?_)
   . rw[if_neg]
     intro hh
     by_cases g:t∈c.pts
     . rw[decide_eq_true g,decide_eq_true (hh.1 g)]at h5;cases h5
     . rw[decide_eq_false g,decide_eq_false (λz=>g (hh.2 z))]at h5;cases h5
   . rw[if_pos]
     by_cases g:t∈c.pts
     . rw[decide_eq_true g]at h5
       exact⟨λ_=>by simpa using h5,λ_=>g⟩
     . rw[decide_eq_false g]at h5
       exact⟨λz=>absurd z g,λz=>by rw[decide_eq_true z]at h5;cases h5⟩
 rw[if_neg e13]at hk'
 refine zz (λe16=>?_) (λe16=>?_)
 . refine cen 0 h4 _ (by rw[v2,e16];decide) (Hp.le_refl _) ?_
   rw[if_pos e16]at hk'
   refine ze (λh5=>zz (λh6=>hk' _ ?_) (λh6=>hk' _ ?_)) (λh5=>hk' _ ?_)
   . rw[if_pos ⟨h5,λhh=>absurd (hat.2 hh) (by omega)⟩]
   . rw[if_neg (λhh=>hh.2 (hat.1 (by omega)))]
   . rw[if_neg (λhh=>h5 hh.1)]
 rw[if_neg e16]at hk'
 refine zz (λe17=>?_) (λe17=>?_)
 . refine cen 0 h4 _ (by rw[v2,e17];decide) (Hp.le_refl _) (cen 1 h4 _ (by rw[v2,e17];decide) (Hp.le_refl _) ?_)
   rw[if_pos e17]at hk'
   refine zp (λh5=>hk' _ ?_) (λh5=>hk' _ ?_)
   . rw[if_neg]
     intro hh
     have e:decide (cAt cs c 0=t)=decide (cAt cs c 1=t):=decide_eq_decide.2 hh
     rw[e]at h5
     simp at h5
   . rw[if_pos]
     have h6:decide (cAt cs c 0=t)=decide (cAt cs c 1=t):=by simpa using h5
     exact decide_eq_decide.1 h6
 rw[if_neg e17]at hk'
 refine zz (λe0=>?_) (λe0=>?_)
 . refine hk' _ ?_
   rw[if_pos (λhh=>absurd (hat.2 hh) (by omega))]
 have hin:t∈c.pts:=hat.1 (by omega)
 rw[if_neg (λhh=>hh hin)]at hk'
 have hne:z4y c.pts t c.pts.length≠[]:=λhh=>by rw[hh]at hr;simp at hr;omega
 obtain⟨i0,hi0,hi1,hi2⟩:=zkh hne
 have hlen0:0<(z4y c.pts t c.pts.length).length:=List.length_pos_iff.2 hne
 have hget0:(z4y c.pts t c.pts.length)[0]=(i0:Int):=by rw[List.getElem?_eq_getElem hlen0]at hi0;exact Option.some.inj hi0
 refine⟨_,k4 0 _ rfl,?_⟩
 rw[x1]
 have dk:∀(n:Int),(c.kind==n)=decide (c.kind=n):=λn=>by
  by_cases hh:c.kind=n
  . rw[decide_eq_true hh,hh];simp
  . rw[decide_eq_false hh,beq_eq_false_iff_ne];exact hh
 refine zk (λs h'=>h'=h4/\s.1=decide (c.kind=1\/c.kind=9)) ?_ ?_
 . rintro⟨b,_⟩ h4 ⟨rfl,hb⟩
   simp only at hb
   subst hb
   refine ze (λe=>?_) (λe1=>?_)
   . rw[if_pos e]at hk';exact hk' _ rfl
   rw[if_neg e1]at hk'
   refine zz (λe=>?_) (λe2=>?_)
   . rw[if_pos e]at hk';exact hk' _ rfl
   rw[if_neg e2]at hk'
   refine zk (λs h'=>h'=h4/\s.1=decide (c.kind=3\/c.kind=6\/c.kind=11\/c.kind=12)) ?_ ?_
   . rintro⟨b,_⟩ h4 ⟨rfl,hb⟩
     simp only at hb
     subst hb
     refine ze (λe=>?_) (λe3=>?_)
     . rw[if_pos e]at hk';exact hk' _ rfl
     rw[if_neg e3]at hk'
     refine zz (λe=>?_) (λe4=>?_)
     . rw[if_pos e]at hk'
       refine hr6.get 0 rfl hlen0 ?_
       rw[hget0]
       refine zz (λh5=>hk' _ ?_) (λh5=>hk' _ ?_)
       . have:i0=0:=by omega
         subst this
         rw[if_pos hi1]
       . rw[if_neg (hi2 0 (by omega))]
     rw[if_neg e4]at hk'
     refine zz (λe=>?_) (λe5=>?_)
     . rw[if_pos e]at hk'
       refine hr6.get 0 rfl hlen0 ?_
       rw[hget0]
       refine ze (λh5=>hk' _ ?_) (λh5=>hk' _ ?_)
       . have h5:(i0:Int)<2:=h5
         rcases(by omega:i0=0\/i0=1)with rfl | rfl
         . rw[if_pos (.inl hi1)]
         . rw[if_pos (.inr hi1)]
       . have h5:¬(i0:Int)<2:=h5
         rw[if_neg]
         rintro(hh | hh)
         . exact hi2 0 (by omega) hh
         . exact hi2 1 (by omega) hh
     rw[if_neg e5]at hk'
     have hc2:((r6.len:Int)==2)=decide (cnt c.pts t=2):=by
      rw[hr,hpl]
      by_cases hh:cnt c.pts t=2
      . rw[decide_eq_true hh,hh];rfl
      . rw[decide_eq_false hh,beq_eq_false_iff_ne];omega
     rw[hc2]
     refine zk (λs h'=>h'=h4/\s.1=decide (c.kind=5\/c.kind=7)) ?_ ?_
     . rintro⟨b,_⟩ h4 ⟨rfl,hb⟩
       simp only at hb
       subst hb
       refine ze (λe=>?_) (λe6=>?_)
       . rw[if_pos e]at hk'
         exact ze (λh5=>hk' _ (by rw[if_pos h5])) (λh5=>hk' _ (by rw[if_neg h5]))
       rw[if_neg e6]at hk'
       refine zz (λe=>?_) (λe7=>?_)
       . rw[if_pos e]at hk'
         exact ze (λh5=>hk' _ (by rw[if_pos h5])) (λh5=>hk' _ (by rw[if_neg h5]))
       rw[if_neg e7]at hk'
       exact hk' _ rfl
     . rw[dk 5,dk 7]
       refine ze (λe=>⟨rfl,?_⟩) (λe=>⟨rfl,?_⟩)
       . rw[decide_eq_true e,decide_eq_true (Or.inl e)]
       . exact decide_eq_decide.2 (by omega)
   . rw[dk 3,dk 6,dk 11,dk 12]
     refine ze (λe=>⟨rfl,?_⟩) (λe=>ze (λe2=>⟨rfl,?_⟩) (λe2=>ze (λe3=>⟨rfl,?_⟩) (λe3=>⟨rfl,?_⟩)))
     all_goals exact decide_eq_decide.2 (by omega)
 . rw[dk 1,dk 9]
   refine ze (λe=>⟨rfl,?_⟩) (λe=>⟨rfl,?_⟩)
   all_goals exact decide_eq_decide.2 (by omega)
end
end Den
end

section
namespace Den
open Go Iv Lx
section
variable {h : Hp} {x : TConstraint} {c : PCon} {cs : List Int} {ce : Sl} {t k : Int} {Kb : Bool → Hp → Prop} {Ki : Int → Hp → Prop} {Ks : Sl → Hp → Prop}
theorem zyi(hv:zsa c)(hm:k∈c.cir):c.kind=13\/c.kind=14\/c.kind=15\/c.kind=16\/c.kind=17:=by
 obtain⟨v1,v2,v3,v4,_⟩:=hv
 have h1:c.cir.length≠0:=λhh=>by rw[List.eq_nil_of_length_eq_zero hh]at hm;cases hm
 apply Classical.byContradiction
 intro hn
 have:(shK c.kind).2.1=0:=by
  rcases(by omega:c.kind=1\/c.kind=2\/c.kind=3\/c.kind=4\/c.kind=5\/c.kind=6\/c.kind=7\/c.kind=8\/c.kind=9\/c.kind=10\/c.kind=11\/c.kind=12)with e | e | e | e | e | e | e | e | e | e | e | e<;>rw[e]<;>rfl
 omega
theorem zqb(hx:CO h x c)(hc:IL h ce cs)(hs:sC c)(hok:zcl c cs)(hv:zsa c)(H:∀b h',h.le h'->(b=true↔zc9 c cs k)->Kb b h'):zc (F.z6z x ce k) Kb h:=by
 refine zd (λb h'=>b=true↔zc9 c cs k) (λK' hk=>?_) λb h' hl hb=>H b h' hl hb
 unfold F.z6z
 have x1:=hx.1
 have x5:=hx.2.2.2.2
 refine zhi hx.2.2.1 (by have:=hs.2.1;omega) λr h1 hl1 hr=>?_
 have no:∀h',h.le h'->¬zc9 c cs k->K' false h':=λh' hl hn=>hk _ _ hl ⟨λhh=>(by cases hh),λhh=>absurd hh hn⟩
 refine ze (λh2=>no _ hl1 λhh=>?_) (λh2=>?_)
 . have:=hr.2 hh.1;omega
 have hm:=hr.1 (by omega)
 have hkd:=zyi hv hm
 have hkk:=hok _ hm
 have dk:∀(n:Int),(c.kind==n)=decide (c.kind=n):=λn=>by
  by_cases hh:c.kind=n
  . rw[decide_eq_true hh,hh];simp
  . rw[decide_eq_false hh,beq_eq_false_iff_ne];exact hh
 rw[x1,x5]
 unfold zc9 at hk no
 refine zk (λs h'=>h'=h1/\s.1=decide (c.kind=14\/c.kind=15)) ?_ ?_
 . rintro⟨b,_⟩ h1 ⟨rfl,hb⟩
   simp only at hb
   subst hb
   refine ze (λe=>hk _ _ hl1 ⟨λ_=>⟨hm,?_⟩,λ_=>rfl⟩) (λe1=>?_)
   . rw[if_neg (by omega),if_neg (by omega)];trivial
   refine zk (λs h'=>h'=h1/\s.1=decide (c.kind=13\/c.kind=16)) ?_ ?_
   . rintro⟨b,_⟩ h1 ⟨rfl,hb⟩
     simp only at hb
     subst hb
     refine ze (λe=>?_) (λe2=>?_)
     . rw[if_pos e]at hk no
       refine(hc.le hl1).get k.toNat (by omega) (by omega) ?_
       refine Wy (hx.2.1.le hl1) (by have:=hs.1;omega) λh3 hl3=>hk _ _ (Hp.le_trans hl1 hl3) ?_
       rw[Q9 (show k.toNat<cs.length by omega)]
       by_cases g:cs[k.toNat]∈c.pts
       . rw[decide_eq_true g]
         exact⟨λhh=>(by cases hh),λhh=>absurd g hh.2⟩
       . rw[decide_eq_false g]
         exact⟨λ_=>⟨hm,g⟩,λ_=>rfl⟩
     . rw[if_neg e2]at hk no
       refine zz (λe17=>?_) (λe17=>by omega)
       rw[if_pos e17]at hk no
       refine zz (λe5=>?_) (λe5=>no _ hl1 λhh=>e5 hh.2.1)
       refine zl4 (i:=0) (hx.le hl1) (hc.le hl1) hok (by rw[hv.2.1,e17];decide) ?_
       refine zl4 (i:=1) (hx.le hl1) (hc.le hl1) hok (by rw[hv.2.1,e17];decide) ?_
       refine hk _ _ hl1 ?_
       rw[bne_iff_ne]
       exact⟨λhh=>⟨hm,e5,hh⟩,λhh=>hh.2.2⟩
   . rw[dk 13,dk 16]
     refine ze (λe=>⟨rfl,?_⟩) (λe=>⟨rfl,?_⟩)
     all_goals exact decide_eq_decide.2 (by omega)
 . rw[dk 14,dk 15]
   refine ze (λe=>⟨rfl,?_⟩) (λe=>⟨rfl,?_⟩)
   all_goals exact decide_eq_decide.2 (by omega)
end
end Den
end

section
namespace Den
open Go Iv Lx
def its(S:PSk):List (List Int):=(Qz S).map λc=>W0 c (Xo S)
theorem zg6{S:PSk}:(its S).length=(Qz S).length:=by simp[its]
theorem Z3v(k:Int):eqK k<=2:=by
 unfold eqK shK
 split
 . have:∀i:Nat,(Z6l.getD i (0,0,0,0,false)).2.2.2.1<=2:=by
    intro i
    rcases Nat.lt_or_ge i 17 with h | h
    . have:∀i:Fin 17,(Z6l.getD i (0,0,0,0,false)).2.2.2.1<=2:=by decide
      exact this ⟨i,h⟩
    . rw[List.getD_eq_getElem?_getD,List.getElem?_eq_none (by exact h)];decide
   exact this _
 . decide
theorem Z7p{L:List PCon}{l:List Int}{i:Int}:wtL L (l++[i])=wtL L l+eqK (L.getD i.toNat dC).kind:=by simp[wtL]
theorem Z7o{L:List PCon}:∀l:List Int,wtL L l<=2*l.length
 | []=>by simp[wtL]
 | a :: r=>by
   have h1:=Z7o (L:=L) r
   have h2:=Z3v (L.getD a.toNat dC).kind
   unfold wtL at h1 |-
   simp only[List.map_cons,List.sum_cons,List.length_cons]
   omega
theorem Z95{its:List (List Int)}{item:Int}{R:List Int}:(za7 its item R).length<=its.length:=zic _ _ _ _
theorem Z96{its:List (List Int)}{item:Int}{R:List Int}{j:Int}(h:j∈za7 its item R):∃k:Nat,k<its.length/\j=k/\zfn (its.getD k []) item R:=zp1.1 h
section
variable {h : Hp} {s : TSketch} {S : PSk} {p : Addr} {item : Int} {R : List Int} {rs : Sl} {Kb : Bool → Hp → Prop} {Ki : Int → Hp → Prop} {Ks : Sl → Hp → Prop}
theorem Z7x{n m:Nat}{D:Hp}{K:Sl->Hp->Prop}(hn:n<=1000)(hm:m<=1000)(H:∀y h',OI D h' y (zj2 n m)->K y h'){y:Sl}{h1:Hp}(ho:OI D h1 y ((List.range n).map λi:Nat=>(i:Int))) :
 (zr (S:=Sl×Int×Unit) (λs8 k9 h3=>
 (ifP (decide (s8.2.1<(m:Int)))
 (Y5 1 8 [.int .i64 0] s8.1 1 [.int .i64 (i64.wrap ((-1)-s8.2.1))] (λw10 h4=>
 (k9 (w10,(i64.wrap (s8.2.1+1)),()) h4)) h3)
 (K s8.1 h3)))
 (y,0,()) h1):=by
  refine Yt (n:=m) (by omega) (λi y h'=>OI D h' y ((List.range n).map (λi:Nat=>(i:Int))++(List.range i).map λi:Nat=>-1-(i:Int))) (by simpa using ho) ?_
  intro i z h2 hi ho2 k hk2
  refine ze (λh3=>?_) (λh3=>?_)
  . have hi':i<m:=by simp only at h3;omega
    simp only
    rw[show i64.wrap (-1-(i:Int))=-1-(i:Int) from w64 (by omega)]
    refine ho2.app (by simp;omega) λw h4 ho4=>hk2 _ _ hi' ?_
    rw[List.range_succ,List.map_append,<-List.append_assoc]
    exact ho4
  . have:i=m:=by simp only at h3;omega
    subst this
    exact H _ _ ho2
theorem zeo(hp:PR h p S)(hs:sSk S)(H:∀y h',h.le h'->OI h h' y (zj2 S.pts.length S.cir.length)->Ks y h'):zc (F.y_henneberg_peeler_all (some p)) Ks h:=by
 refine zd (λy h'=>OI h h' y (zj2 S.pts.length S.cir.length)) (λK' hk=>?_) λb h' hl hb=>H b h' hl hb
 unfold F.y_henneberg_peeler_all
 obtain⟨s,lS,itS,ceS,hx,hc,_⟩:=hp
 have l1:=hx.1.len z3r
 have l2:=hx.2.1.len z6e
 have:=hs.1
 have:=hs.2.1
 simp only[Wr,Nat.zero_add]
 refine⟨_,hc 0 _ rfl,?_⟩
 simp only
 rw[l1]
 refine Yt (n:=S.pts.length) (by omega) (λi y h'=>OI h h' y ((List.range i).map λi:Nat=>(i:Int))) OI.nil ?_
 intro i y h2 hi ho k hk2
 refine ze (λh3=>?_) (λh3=>?_)
 . have hi':i<S.pts.length:=by simp only at h3;omega
   refine ho.app (by simp;omega) λw h4 ho4=>hk2 _ _ hi' ?_
   rw[List.range_succ,List.map_append]
   exact ho4
 have:i=S.pts.length:=by simp only at h3;omega
 subst this
 refine⟨_,Hp.cell_le ho.dle (hc 1 _ rfl),?_⟩
 simp only
 rw[l2]
 exact Z7x (n:=S.pts.length) (m:=S.cir.length) (by omega) (by omega) (λz h2 ho2=>hk _ _ ho2.dle ho2) ho
theorem zid(hp:PR h p S)(hs:sSk S)(hv:VS S)(hr:IL h rs R)(hR:R.length<=100000)(H:∀y h',h.le h'->OI h h' y (za7 (its S) item R)->Ks y h'):zc (F.y_henneberg_peeler_remaining (some p) item rs) Ks h:=by
 refine zd (λy h'=>OI h h' y (za7 (its S) item R)) (λK' hk=>?_) λb h' hl hb=>H b h' hl hb
 unfold F.y_henneberg_peeler_remaining
 obtain⟨s,lS,itS,ceS,hx,hc,hL,hI,hC⟩:=hp
 have hal:=zgl hs
 have hok:=zci hv hs
 have hIl:=hI.len z8i
 rw[List.length_map]at hIl
 refine Xy λp1 h1 hl1 c1=>?_
 refine⟨_,Hp.cell_le hl1 (hc 7 _ rfl),?_⟩
 refine Yt (n:=(Qz S).length) (by omega) (λi y h'=>OI h1 h' y (zer (its S) item R i)) OI.nil ?_
 intro i y h2 hi ho k hk2
 have hle:=Hp.le_trans hl1 ho.dle
 refine ze (λh3=>?_) (λh3=>?_)
 . have hi':i<(Qz S).length:=by simp only at h3;omega
   refine zk (λs h'=>OI h1 h' s.1 (zer (its S) item R (i+1))) (λs h' hs=>hk2 _ _ hi' hs) ?_
   refine(hI.le z8i hle).get z8i i rfl (by simpa using hi') λa x hxx hcx=>?_
   have e0:=hcx 0 _ rfl
   rw[Zv]at e0
   refine⟨_,e0,?_⟩
   rw[List.getElem_map]at hxx
   have hlen:=zs8 (cs:=Xo S) (hok _ (List.getElem_mem hi')).2
   have hxx:IL h2 x (W0 (Qz S)[i] (Xo S)):=hxx
   have hg:(its S).getD i []=W0 (Qz S)[i] (Xo S):=by
    rw[Q9 (by rw[zg6];exact hi')]
    simp[its]
   have hstep:zer (its S) item R (i+1)=zer (its S) item R i++(if zfn (W0 (Qz S)[i] (Xo S)) item R then [(i:Int)]else []):=by
    conv=>lhs;unfold zer
    rw[hg]
   have hrl:=zic (its S) item R i
   refine Wy hxx (by omega) λh4 hl4=>?_
   have ho4:=ho.le hl4
   refine ze (λh5=>?_) (λh5=>?_)
   . refine zd (λb h'=>b=true↔∃x∈W0 (Qz S)[i] (Xo S),x∈R) (λK2 hk3=>?_) λb h6 hl6 hb=>?_
     . unfold F.Z1
       refine zd (λr h'=>Fnd (λx=>x∈R) (W0 (Qz S)[i] (Xo S)) r) (λK4 hk4=>?_) λr h' hl hr=>hk3 _ _ hl (by rw[decide_eq_true_iff];exact hr.iff)
       unfold F.Z9
       refine zd0 (hxx.le hl4) (by omega) (λx _ h7 hl7 K5 hK5=>?_) λr h' hl hr=>hk4 _ _ hl hr
       refine zd (λb h'=>b=decide (x∈R)) (λK6 hk6=>?_) λb h8 hl8 hb=>hK5 _ _ hl8 (by rw[hb,decide_eq_true_iff])
       unfold F.y_henneberg_peeler_remaining_1
       have l7:=Hp.le_trans ho4.dle hl7
       refine⟨_,Hp.cell_le l7 c1,?_⟩
       exact Wy (hr.le (Hp.le_trans hl1 l7)) (by omega) λh8 hl8=>hk6 _ _ hl8 rfl
     . have ho6:=ho4.le hl6
       refine zp (λh7=>?_) (λh7=>?_)
       . have hkp:zfn (W0 (Qz S)[i] (Xo S)) item R:=⟨h5,λx hx hxR=>by rw[hb.2 ⟨x,hx,hxR⟩]at h7;cases h7⟩
         refine ho6.app (by omega) λz h8 ho8=>?_
         show OI _ _ _ _
         rw[hstep,if_pos hkp];exact ho8
       . have hkp:¬zfn (W0 (Qz S)[i] (Xo S)) item R:=λhh=>by
          obtain⟨x,hx,hxR⟩:=hb.1 (by simpa using h7)
          exact hh.2 x hx hxR
         show OI _ _ _ _
         rw[hstep,if_neg hkp,List.append_nil];exact ho6
   . show OI _ _ _ _
     rw[hstep,if_neg (λhh=>h5 hh.1),List.append_nil];exact ho4
 . have:i=(Qz S).length:=by simp only at h3;omega
   subst this
   refine hk _ _ hle ?_
   have ho:=ho.base hl1
   unfold za7
   rw[zg6];exact ho
theorem z9o{k:Nat}(hp:PR h p S)(hs:sSk S)(hv:VS S)(ht:GT h)(hk:k<(Qz S).length)(H:Ki ((eqK ((Qz S).getD k dC).kind:Nat):Int) h):zc (F.y_henneberg_peeler_equations (some p) (k:Int)) Ki h:=by
 refine Zf _ (λK' hkk=>?_) H
 unfold F.y_henneberg_peeler_equations
 obtain⟨s,lS,itS,ceS,hx,hc,hL,hI,hC⟩:=hp
 refine⟨_,hc 6 _ rfl,?_⟩
 refine hL.get Yx k rfl hk λa x hxx hcx=>⟨_,hcx 0 _ rfl,?_⟩
 rw[hxx.1]
 have:=(zci hv hs _ (List.getElem_mem hk)).1.1
 rw[Q9 hk]at hkk
 exact zch ht.2.2 (λ_ _ ln ps=>hkk) (λhn=>absurd this hn)
theorem zfx{l:Sl}{xs:List Int}(hp:PR h p S)(hs:sSk S)(hv:VS S)(ht:GT h)(hl:IL h l xs)(hlen:xs.length<=100000)(hin:∀i∈xs,∃k:Nat,k<(Qz S).length/\i=k)(H:∀h',h.le h'->Ki ((wtL (Qz S) xs:Nat):Int) h'):zc (F.y_henneberg_peeler_weight (some p) l) Ki h:=by
 refine zd (λb h'=>b=((wtL (Qz S) xs:Nat):Int)) (λK' hk=>?_) λb h' hl hb=>by subst hb;exact H h' hl
 unfold F.y_henneberg_peeler_weight
 have hll:=hl.len
 refine Yt (n:=xs.length) (by omega) (λi a h'=>h.le h'/\a=((wtL (Qz S) (xs.take i):Nat):Int)) ⟨Hp.le_refl _,by simp[wtL]⟩ ?_
 rintro i a h2 hi ⟨hl2,ha⟩ k hk2
 refine ze (λh3=>?_) (λh3=>?_)
 . have hi':i<xs.length:=by simp only at h3;omega
   refine(hl.le hl2).get i rfl hi' ?_
   obtain⟨q,hq1,hq2⟩:=hin _ (List.getElem_mem hi')
   rw[hq2]
   have hw:=Z7o (L:=Qz S) (xs.take i)
   rw[List.length_take]at hw
   have hw2:=Z3v ((Qz S).getD q dC).kind
   refine z9o (hp.le hl2) hs hv (ht.le hl2) hq1 (hk2 _ _ hi' ⟨hl2,?_⟩)
   rw[<-List.take_append_getElem hi',Z7p,hq2]
   simp only
   rw[ha,w64 (by omega)]
   rfl
 . have:i=xs.length:=by simp only at h3;omega
   subst this
   rw[List.take_length]at ha
   rw[ha]
   exact hk _ _ hl2 rfl
theorem zsl{k:Nat}{t:Int}(hp:PR h p S)(hs:sSk S)(hv:VS S)(hk:k<(Qz S).length)(H:∀h',h.le h'->Ki (zbi ((Qz S).getD k dC) (Xo S) t) h'):zc (F.y_henneberg_peeler_kind (some p) (k:Int) t) Ki h:=by
 refine zd (λb h'=>b=zbi ((Qz S).getD k dC) (Xo S) t) (λK' hkk=>?_) λb h' hl hb=>by subst hb;exact H h' hl
 unfold F.y_henneberg_peeler_kind
 obtain⟨s,lS,itS,ceS,hx,hc,hL,hI,hC⟩:=hp
 refine⟨_,hc 6 _ rfl,?_⟩
 refine hL.get Yx k rfl hk λa x hxx hcx=>⟨_,hcx 0 _ rfl,_,hcx 1 _ rfl,_,hcx 2 _ rfl,_,hcx 3 _ rfl,_,hcx 4 _ rfl,?_⟩
 refine⟨_,hc 8 _ rfl,?_⟩
 have:=zci hv hs _ (List.getElem_mem hk)
 rw[Q9 hk]at hkk
 exact zvk (x:=x) hxx hC this.2 this.1.cirOk this.1.lenC λh' hl=>hkk _ _ hl rfl
def smI(item:Int):Prop:=-1000000<=item/\item<=1000000
theorem zie(hp:PR h p S)(hs:sSk S)(hv:VS S)(ht:GT h)(hr:IL h rs R)(hR:R.length<=100000)(hi:smI item)(H:∀b h',h.le h'->(b=true↔zj4 (Qz S) (Xo S) R item)->Kb b h'):zc (F.y_henneberg_peeler_removable (some p) item rs) Kb h:=by
 refine zd (λb h'=>b=true↔zj4 (Qz S) (Xo S) R item) (λK' hk=>?_) λb h' hl hb=>H b h' hl hb
 unfold F.y_henneberg_peeler_removable
 have no:∀h',h.le h'->¬zj4 (Qz S) (Xo S) R item->K' false h':=λh' hl hn=>hk _ _ hl ⟨λhh=>(by cases hh),λhh=>absurd hh hn⟩
 have hits:its S=(Qz S).map λc=>W0 c (Xo S):=rfl
 unfold zj4 at no hk
 rw[<-hits]at no hk
 refine Xy λp1 h1 hl1 c1=>Xy λp2 h2 hl2 c2=>?_
 have hle2:=Hp.le_trans hl1 hl2
 refine⟨_,c2,?_⟩
 refine Wy (hr.le hle2) (by omega) λh3 hl3=>?_
 have hle3:=Hp.le_trans hle2 hl3
 refine ze (λh4=>no _ hle3 λhh=>hh.1 h4) (λh4=>?_)
 have d1:∀{h'},h3.le h'->h'.cell p1=some (.pointer (some p)):=λhl=>Hp.cell_le (Hp.le_trans hl2 (Hp.le_trans hl3 hl)) c1
 have d2:∀{h'},h3.le h'->h'.cell p2=some (.int .i64 item):=λhl=>Hp.cell_le (Hp.le_trans hl3 hl) c2
 refine⟨_,d1 (Hp.le_refl _),_,d2 (Hp.le_refl _),?_⟩
 refine zid (hp.le hle3) hs hv (hr.le hle3) hR λr7 h5 hl5 ho5=>?_
 have hle5:=Hp.le_trans hle3 hl5
 have hrl:(za7 (its S) item R).length<=(its S).length:=Z95
 rw[zg6]at hrl
 have hal:=zgl hs
 have hin:∀i∈za7 (its S) item R,∃k:Nat,k<(Qz S).length/\i=k:=λi hi=>by
  obtain⟨k,h1,h2,_⟩:=Z96 hi
  rw[zg6]at h1
  exact⟨k,h1,h2⟩
 refine⟨_,d2 hl5,?_⟩
 obtain⟨s,lS,itS,ceS,hpp⟩:=hp
 have hp:PR h p S:=⟨s,lS,itS,ceS,hpp⟩
 obtain⟨hx,hc,hL,hI,hC⟩:=hpp
 refine ze (λh6=>?_) (λh6=>?_)
 . have h6:item<0:=h6
   refine⟨_,d1 hl5,?_⟩
   refine zfx (hp.le hle5) hs hv (ht.le hle5) ho5.il (by omega) hin λh7 hl7=>?_
   have hle7:=Hp.le_trans hle5 hl7
   have hm:za0 item=1:=by unfold za0;rw[if_pos h6]
   refine ze (λh8=>?_) (λh8=>no _ hle7 λhh=>by have:=hh.2.1;omega)
   refine zd (λb h'=>b=true↔∃i∈za7 (its S) item R,¬z81 ((Qz S).getD i.toNat dC) (Xo S) item) (λK2 hk3=>?_) λb h9 hl9 hb=>hk _ _ (Hp.le_trans hle7 hl9) ?_
   . unfold F.Z2
     refine zd (λr h'=>Fnd (λi=>¬z81 ((Qz S).getD i.toNat dC) (Xo S) item) (za7 (its S) item R) r) (λK4 hk4=>?_) λr h' hl hr=>hk3 _ _ hl (by rw[decide_eq_true_iff];exact hr.iff)
     unfold F.yb
     refine zd0 (ho5.il.le hl7) (by omega) (λi hi2 h9 hl9 K5 hK5=>?_) λr h' hl hr=>hk4 _ _ hl hr
     refine zd (λb h'=>b=true↔¬z81 ((Qz S).getD i.toNat dC) (Xo S) item) (λK6 hk6=>?_) λb h8 hl8 hb=>hK5 _ _ hl8 hb
     unfold F.y_henneberg_peeler_removable_1
     obtain⟨k,hk1,rfl⟩:=hin i hi2
     have hle9:=Hp.le_trans hle7 hl9
     have l39:=Hp.le_trans hl5 (Hp.le_trans hl7 hl9)
     refine⟨_,d1 l39,_,Hp.cell_le hle9 (hc 6 _ rfl),?_⟩
     refine(hL.le Yx hle9).get Yx k rfl hk1 λa x hxx hcx=>⟨_,hcx 0 _ rfl,_,hcx 1 _ rfl,_,hcx 2 _ rfl,_,hcx 3 _ rfl,_,hcx 4 _ rfl,?_⟩
     refine⟨_,d1 l39,_,Hp.cell_le hle9 (hc 8 _ rfl),_,d2 l39,?_⟩
     have hok:=zci hv hs _ (List.getElem_mem hk1)
     have e1:i64.wrap (-1-item)=-1-item:=by unfold smI at hi;exact w64 (by omega)
     simp only
     rw[e1]
     refine zqb (x:=x) hxx (hC.le hle9) hok.2 hok.1.cirOk hok.1.lenC λb h' hl hb=>hk6 _ _ hl ?_
     rw[show((k:Nat):Int).toNat=k from rfl,Q9 hk1]
     unfold z81
     rw[if_pos h6,<-hb]
     cases b<;>simp
   . rw[Bool.not_eq_true',<-Bool.not_eq_true,hb]
     constructor
     . intro hh
       exact⟨h4,by omega,λi hi=>Classical.byContradiction λhn=>hh ⟨i,hi,hn⟩⟩
     . rintro⟨_,_,h10⟩ ⟨i,hi,hn⟩
       exact hn (h10 i hi)
 . have h6:¬item<0:=h6
   refine⟨_,d1 hl5,?_⟩
   refine zfx (hp.le hle5) hs hv (ht.le hle5) ho5.il (by omega) hin λh7 hl7=>?_
   have hle7:=Hp.le_trans hle5 hl7
   have hm:za0 item=2:=by unfold za0;rw[if_neg h6]
   refine ze (λh8=>no _ hle7 λhh=>by have:=hh.2.1;omega) (λh8=>?_)
   have hr7:=ho5.il.le hl7
   have hr7l:=hr7.len
   refine Y0 (n:=(za7 (its S) item R).length) (by omega) (λi h'=>h7.le h'/\∀j (hj:j<(za7 (its S) item R).length),j<i->z81 ((Qz S).getD (za7 (its S) item R)[j].toNat dC) (Xo S) item) ⟨Hp.le_refl _,λj _ hj=>by omega⟩ ?_
   rintro i h9 hi9 ⟨hl9,hno⟩ kk hk2
   have hle9:=Hp.le_trans hle7 hl9
   have l39:=Hp.le_trans hl5 (Hp.le_trans hl7 hl9)
   refine ze (λh10=>?_) (λh10=>?_)
   . have hi':i<(za7 (its S) item R).length:=by simp only at h10;omega
     refine(hr7.le hl9).get i rfl hi' ?_
     obtain⟨k,hk1,hk2e⟩:=hin _ (List.getElem_mem hi')
     rw[hk2e]
     refine⟨_,d1 l39,_,d2 l39,?_⟩
     refine zsl (hp.le hle9) hs hv hk1 λh11 hl11=>?_
     have hle11:=Hp.le_trans hle9 hl11
     have l311:=Hp.le_trans l39 hl11
     obtain⟨kd,hkd⟩:∃kd,kd=zbi ((Qz S).getD k dC) (Xo S) item:=⟨_,rfl⟩
     have hsuit:z81 ((Qz S).getD (za7 (its S) item R)[i].toNat dC) (Xo S) item↔(if eqK ((Qz S).getD k dC).kind=2 then kd=3 else kd=1\/kd=2):=by
      rw[hk2e,hkd]
      unfold z81
      rw[if_neg h6]
      rfl
     rw[<-hkd]
     refine zk (λs h'=>h'=h11/\s.1=decide (kd=1\/kd=2)) ?_ ?_
     . rintro⟨b,_⟩ h11 ⟨rfl,hb⟩
       simp only at hb
       subst hb
       refine zk (λs h'=>h'=h11/\(s.1=true↔z81 ((Qz S).getD (za7 (its S) item R)[i].toNat dC) (Xo S) item)) ?_ ?_
       . rintro⟨b,_⟩ h11 ⟨rfl,hb⟩
         simp only at hb
         refine zp (λh12=>no _ hle11 λhh=>?_) (λh12=>hk2 _ hi' ⟨Hp.le_trans hl9 hl11,?_⟩)
         . rw[hb.2 (hh.2.2 _ (List.getElem_mem hi'))]at h12;cases h12
         . exact Zkk (P:=λi:Int=>z81 ((Qz S).getD i.toNat dC) (Xo S) item) hno hi' (hb.1 (by simpa using h12))
       . refine⟨_,d1 l311,?_⟩
         refine z9o (hp.le hle11) hs hv (ht.le hle11) hk1 ?_
         refine zz (λh12=>⟨rfl,?_⟩) (λh12=>⟨rfl,?_⟩)
         . rw[hsuit,if_pos (by omega)]
           simp
         . rw[hsuit,if_neg (by omega)]
           simp
     . refine zz (λh12=>⟨rfl,?_⟩) (λh12=>⟨rfl,?_⟩)
       . rw[h12];rfl
       . by_cases h13:kd=2
         . rw[h13];rfl
         . rw[decide_eq_false (by omega)];simpa using h13
   . refine hk _ _ hle9 ⟨λ_=>⟨h4,by omega,?_⟩,λ_=>rfl⟩
     exact Zb5 (P:=λi:Int=>z81 ((Qz S).getD i.toNat dC) (Xo S) item) hno (by simp only at h10;omega)
end
end Den
end

section
namespace Den
open Go Iv Lx
section
variable {h : Hp} {s : TSketch} {S : PSk} {x : TConstraint} {c : PCon} {cs : List Int} {ce : Sl} {item : Int} {R : List Int} {rs : Sl} {Kb : Bool → Hp → Prop} {Ki : Int → Hp → Prop} {Ks : Sl → Hp → Prop}
end
theorem z7y{can:List Int->Int->Bool}{pref:List Int}(hc:∀R i,can R i=true->i∉R):∀{f:Nat} {R:List Int},(Vl pref R).length<=f->pref.find? (can R)=none->zbk can pref f R=R
 | 0,R,_,_=>rfl
 | f+1,R,_,h=>by unfold zbk;rw[h]
theorem zaz{can:List Int->Int->Bool}{pref:List Int}(hc:∀R i,can R i=true->i∉R){f:Nat}{R:List Int}{i:Int}(hf:(Vl pref R).length<=f)(h:pref.find? (can R)=some i) :
 ∃g,f=g+1/\zbk can pref f R=zbk can pref g (R++[i])/\(Vl pref (R++[i])).length<=g:=by
 have h1:=List.find?_some h
 have h2:=List.mem_of_find?_eq_some h
 have h3:=zs9 h2 (hc _ _ h1)
 obtain⟨g,rfl⟩:∃g,f=g+1:=⟨f-1,by omega⟩
 refine⟨g,rfl,?_,by omega⟩
 conv=>lhs;unfold zbk
 rw[h]
theorem zyf{L:List PCon}{cs:List Int}:∀R i,ze3 L cs R i=true->i∉R:=λR i h=>(of_decide_eq_true h).1
def z99(S:PSk)(pref:List Int):List Int:=Zay (ze3 (Qz S) (Xo S)) pref
theorem zwa{can:Int->Bool}{l:List Int}{i:Nat}(hi:i<l.length)(hno:∀j (hj:j<l.length),j<i->can l[j]=false)(h:can l[i]=true):l.find? can=some l[i]:=by
 rw[List.find?_eq_some_iff_append]
 refine⟨h,l.take i,l.drop (i+1),?_,λa ha=>?_⟩
 . rw[List.getElem_cons_drop,List.take_append_drop]
 . obtain⟨j,hj,rfl⟩:=List.mem_take_iff_getElem.1 ha
   rw[hno j (by omega) (by omega)];rfl
section
variable {h : Hp} {s : TSketch} {S : PSk} {l : Sl} {pref : List Int} {K : (Sl × Sl) → Hp → Prop}
end
end Den
end

section
namespace Den
open Go Iv Lx
theorem Own.clr{h0 h:Hp}{x:Sl}{cs:List Value}{n:Nat}{K:Hp->Prop}(ho:Own h0 h 1 x cs)(hn:n<=cs.length)(H:∀h',Own h0 h' 1 (x.cut 0 n 1) (cs.take n)->K h'):zgt (x.cut n x.len 1) [.int .i64 0] K h:=by
 have hlen:=ho.2.1
 have hcap:=ho.2.2.1
 refine⟨λh1=>H h (ho.pre (by omega)),λh1=>?_⟩
 have hl:(x.cut n x.len 1).len=x.len-n:=rfl
 have hlt:n<x.len:=by omega
 have ho':=ho
 obtain⟨g1,g2,g3,g4⟩:=ho
 cases ha:x.a with
 | none=>rw[ha]at g4;simp only at g4;omega
 | some a=>
   rw[ha]at g4
   obtain⟨k1,k2,k3,b,k4,k5,k6,k7⟩:=g4
   have hca:(x.cut n x.len 1).a=Option.some (a.add (n*1)):=by
    show(if x.cap=n then x.a else x.a.map (·.add (n*1)))=_
    rw[if_neg (by omega),ha];rfl
   rw[hca]
   simp only[stO]
   rw[Zv]
   have hrl:(ye (x.cut n x.len 1).len [Value.int .i64 0]).length=x.len-n:=by rw[z35,hl];simp
   refine⟨b,by rw[Yg];exact k4,V6 k2 _,k5,?_,?_,?_⟩
   . rw[Xv,hrl];omega
   . unfold ye
     rw[List.all_flatten,List.all_eq_true]
     intro l hl
     rw[(List.mem_replicate.1 hl).2];rfl
   . rw[Yg,Xv,k1,Nat.zero_add,Nat.mul_one]
     refine H _ ⟨?_,?_,?_,?_⟩
     . intro kk bk hkk
       rw[Hp.ins_ne (λhh=>by subst hh;rw[k3]at hkk;cases hkk)]
       exact g1 kk bk hkk
     . show(n-0)*1=_
       rw[List.length_take];omega
     . show n-0<=x.cap-0;omega
     . rw[zgz,ha]
       refine⟨k1,k2,k3,_,Hp.ins_same _ _ _,k5,?_,?_⟩
       . show(Zb b.cells n _).length=(x.cap-0)*1
         rw[Ya (by omega)]
         exact k6
       . have e:(cs.take n).length=n:=by rw[List.length_take];omega
         rw[e]
         show(Zb b.cells n _).take n=_
         unfold Zb
         rw[List.append_assoc,List.take_append_of_le_length (by rw[List.length_take];omega),List.take_take,Nat.min_self]
         have:=congrArg (List.take n) k7
         rw[List.take_take,Nat.min_eq_left (by omega)]at this
         exact this
def zhk(xs R:List Int)(j:Nat):List Int:=(xs.take j).filter λx=>decide (x∉R)
theorem zeh{xs R:List Int}{j:Nat}(hj:j<xs.length):zhk xs R (j+1)=zhk xs R j++(if xs[j]∈R then []else [xs[j]]):=by
 unfold zhk
 rw[<-List.take_append_getElem hj,List.filter_append]
 congr 1
 by_cases hm:xs[j]∈R<;>simp[List.filter,hm]
section
variable {h D : Hp} {S : PSk} {p p1 p2 : Addr} {rs l : Sl} {xs R : List Int} {Kb : Bool → Hp → Prop} {Ki : Int → Hp → Prop} {Ks : Sl → Hp → Prop} {K : (Sl × Sl) → Hp → Prop}
theorem zvx{G:Int->(Bool->Hp->Prop)->Hp->Prop}{r:Int}(ho:OI D h l xs)(hlen:xs.length<=1000)
 (hG:∀x h',D.le h'->∀K:Bool->Hp->Prop,(∀h'',h'.le h''->K (decide (x∈R)) h'')->zc (G x) K h') (hr:Fnd (λx=>x∈R) xs r) (H:∀y h',OI D h' y (xs.filter λx=>decide (x∉R))->Ks y h') :
 (ifP (r==(-1))
 (Ks l h)
 (zr (S:=Int×Int×Unit) (λs2 k3 h2=>
 (ifP (decide (s2.2.1<(l.len:Int)))
 (z8 (S:=Int×Unit) (λs4 h3=>
 (k3 (s4.1,(i64.wrap (s2.2.1+1)),()) h3))
 (λk5=>
 (zg l s2.2.1 1 λa6=>
 (ldL (.int .i64) a6 (λx7=>
 (zc (G x7) (λr8 h4=>
 (ifP (!r8)
 (zg l s2.1 1 λa9=>
 (stP a9 [.int .i64 x7] (λh5=>
 (k5 ((i64.wrap (s2.1+1)),()) h5)) h4))
 (k5 (s2.1,()) h4))) h2)) h2))))
 (slP l s2.1 (l.len:Int) 1 λc10=>
 (zgt c10 [.int .i64 0] (λh6=>
 (slP l 0 s2.1 1 λc11=>
 (Ks c11 h6))) h2))))
 (r,(i64.wrap (r+1)),()) h)):=by
  have hll:=ho.il.len
  have hcap:=ho.2.2.1
  rcases hr with ⟨rfl,hno⟩ | ⟨k,hk,rfl,hk1,hk2⟩
  . refine y7 rfl (H _ _ ?_)
    have:xs.filter (λx=>decide (x∉R))=xs:=by
     rw[List.filter_eq_self]
     exact λa ha=>decide_eq_true (hno a ha)
    rw[this];exact ho
  . refine zt (by rw[beq_eq_false_iff_ne];omega) ?_
    have hkk:zhk xs R k=xs.take k:=by
     unfold zhk
     rw[List.filter_eq_self]
     intro a ha
     obtain⟨j,hj,rfl⟩:=List.mem_take_iff_getElem.1 ha
     exact decide_eq_true (hk2 j (by omega) (by omega))
    have hks:zhk xs R (k+1)=xs.take k:=by
     rw[zeh hk,if_pos hk1,List.append_nil,hkk]
    refine yx (λst h'=>∃(j m:Nat) (ys:List Int),st=((m:Int),(j:Int),())/\k<j/\j<=xs.length/\OI D h' l ys/\ys.length=xs.length/\m=(zhk xs R j).length/\m<=j/\ys.take m=zhk xs R j/\ys.drop j=xs.drop j)
     (λst=>(xs.length-st.2.1).toNat) ⟨k+1,k,xs,by rw[w64 (by omega)];rfl,by omega,by omega,ho,rfl,by rw[hks];simp;omega,by omega,by rw[hks],rfl⟩ ?_
    rintro _ h2 ⟨j,m,ys,rfl,hkj,hj,ho2,hyl,hm,hmj,htk,hdr⟩
    refine ze (λh3=>?_) (λh3=>?_)
    . have hj':j<xs.length:=by simp only at h3;omega
      have hyj:ys[j]'(by omega)=xs[j]:=by
       have:=congrArg (λl:List Int=>l[0]?) hdr
       simp only[List.getElem?_drop,Nat.add_zero]at this
       rw[List.getElem?_eq_getElem (by omega),List.getElem?_eq_getElem hj']at this
       exact Option.some.inj this
      refine zk (λst h'=>∃(m':Nat) (ys':List Int),st.1=(m':Int)/\OI D h' l ys'/\ys'.length=xs.length/\m'=(zhk xs R (j+1)).length/\m'<=j+1/\ys'.take m'=zhk xs R (j+1)/\ys'.drop (j+1)=xs.drop (j+1)) ?_ ?_
      . rintro⟨_,_⟩ h4 ⟨m',ys',rfl,g1,g2,g3,g4,g5,g6⟩
        exact⟨⟨j+1,m',ys',by simp only;rw[w64 (by omega)];rfl,by omega,by omega,g1,g2,g3,g4,g5,g6⟩,by simp only;rw[w64 (by omega)];omega⟩
      . refine ho2.il.get j rfl (by omega) ?_
        have hdr1:ys.drop (j+1)=xs.drop (j+1):=by
         have:=congrArg (List.drop 1) hdr
         rw[List.drop_drop,List.drop_drop]at this
         exact this
        refine hG _ _ ho2.dle _ λh4 hl4=>?_
        have ho4:=ho2.le hl4
        rw[hyj]
        refine zp (λh5=>?_) (λh5=>?_)
        . have hx:xs[j]∉R:=by simpa using h5
          have hs:=zeh (xs:=xs) (R:=R) hj'
          rw[if_neg hx]at hs
          refine zt6 m ho4 rfl (by omega) rfl (by decide) rfl λh6 ho6=>⟨m+1,ys.set m xs[j],by simp only;rw[w64 (by omega)];rfl,?_,by simpa using hyl,by rw[hs];simp;omega,by omega,?_,?_⟩
          . rw[Nat.mul_one]at ho6
            have e:Zb (ys.map ic) m [Value.int .i64 xs[j]]=(ys.set m xs[j]).map ic:=by
             rw[z3x,List.map_set,List.set_eq_take_append_cons_drop,if_pos (by simp;omega)]
             rfl
            unfold OI
            rw[<-e];exact ho6
          . rw[hs,<-htk,List.take_add_one,List.take_set_of_le (Nat.le_refl _),List.getElem?_set_self (by omega)]
            rfl
          . rw[List.drop_set_of_lt (by omega)];exact hdr1
        . have hx:xs[j]∈R:=by simpa using h5
          have hs:=zeh (xs:=xs) (R:=R) hj'
          rw[if_pos hx,List.append_nil]at hs
          exact⟨m,ys,rfl,ho4,hyl,by rw[hs];exact hm,by omega,by rw[hs];exact htk,hdr1⟩
    . have:j=xs.length:=by simp only at h3;omega
      subst this
      have hl2:=ho2.il.len
      refine⟨by omega,by simp only;omega,by omega,?_⟩
      have e1:((l.len:Nat):Int).toNat=l.len:=rfl
      have e2:((m:Nat):Int).toNat=m:=rfl
      simp only
      rw[e1,e2]
      refine Own.clr ho2 (n:=m) (by simp;omega) λh6 ho6=>⟨by decide,by omega,by omega,?_⟩
      have e3:(0:Int).toNat=0:=rfl
      rw[e3,e2]
      refine H _ _ ?_
      unfold OI
      have:xs.filter (λx=>decide (x∉R))=ys.take m:=by
       rw[htk]
       unfold zhk
       rw[List.take_length]
      rw[this,List.map_take]
      exact ho6
theorem zi0{x:Int}(hc:h.cell p2=some (Lf.sl.up rs))(hr:IL h rs R)(hlen:R.length<=1000)(H:∀h',h.le h'->Kb (decide (x∈R)) h'):zc (F.y_henneberg_peeler_peel_2 x (some p2)) Kb h:=by
 refine zd (λb h'=>b=decide (x∈R)) (λK' hk=>?_) λb h' hl hb=>by subst hb;exact H h' hl
 unfold F.y_henneberg_peeler_peel_2
 exact⟨_,hc,Wy hr (by omega) λh' hl=>hk _ _ hl rfl⟩
theorem znr(ho:OI D h l xs)(hxl:xs.length<=1000)(hc:D.cell p2=some (Lf.sl.up rs))(hr:IL D rs R)(hlen:R.length<=1000)(H:∀y h',OI D h' y (xs.filter λx=>decide (x∉R))->Ks y h'):Y3 (F.Zx l (some p2,())) Ks h:=by
 refine Qh ?_
 unfold F.Zx
 refine zd (λr h'=>Fnd (λx=>x∈R) xs r) (λK2 hk=>?_) λr h1 hl1 hr1=>?_
 . unfold F.yw
   refine zd0 ho.il (by omega) (λx _ h5 hl5 K5 hK5=>?_) λr h' hl hr=>hk _ _ hl hr
   have hD5:=Hp.le_trans ho.dle hl5
   exact zi0 (Hp.cell_le hD5 hc) (hr.le hD5) hlen λh6 hl6=>hK5 _ _ hl6 (by rw[decide_eq_true_iff])
 . exact zvx (G:=λx=>F.y_henneberg_peeler_peel_2 x (some p2,()).1) (ho.le hl1) hxl (λx h' hl' K' hK'=>zi0 (Hp.cell_le hl' hc) (hr.le hl') hlen hK') hr1 H
end
end Den
end

section
namespace Den
open Go Iv Lx
theorem zx6{can:List Int->Int->Bool}{pref:List Int}(hcn:∀R i,can R i=true->i∉R):∀(f1 f2:Nat) (Q:List Int),(Vl pref Q).length<=f1->(Vl pref Q).length<=f2->zbk can pref f1 Q=zbk can pref f2 Q:=by
 intro f1
 induction f1 with
 | zero=>
   intro f2 Q h1 h2
   cases hq:pref.find? (can Q)with
   | none=>rw[z7y hcn h1 hq,z7y hcn h2 hq]
   | some z=>
     obtain⟨g,hg,_⟩:=zaz hcn h1 hq
     omega
 | succ f1 ih=>
   intro f2 Q h1 h2
   cases hq:pref.find? (can Q)with
   | none=>rw[z7y hcn h1 hq,z7y hcn h2 hq]
   | some z=>
     obtain⟨g,hg,e1,e2⟩:=zaz hcn h1 hq
     obtain⟨g',hg',e1',e2'⟩:=zaz hcn h2 hq
     rw[e1,e1']
     have:g=f1:=by omega
     subst this
     exact ih g' _ e2 e2'
def Va(S:PSk):List Int:=zj2 S.pts.length S.cir.length
theorem zy6{S:PSk}(hs:sSk S):(Va S).length<=20:=by
 unfold Va
 rw[zy4]
 have:=hs.1
 have:=hs.2.1
 omega
theorem Z7w{S:PSk}(hs:sSk S){x:Int}(hx:x∈Va S):smI x:=by
 have:=Z4a.1 hx
 have:=hs.1
 have:=hs.2.1
 unfold smI;omega
section
variable {h D : Hp} {s : TSketch} {S : PSk} {p p1 p2 : Addr} {rs l : Sl} {xs R : List Int} {Kb : Bool → Hp → Prop} {Ki : Int → Hp → Prop} {Ks : Sl → Hp → Prop} {K : (Sl × Sl) → Hp → Prop}
theorem zsn(hp:PR h p S)(hs:sSk S)(hv:VS S)(ht:GT h)(c1:h.cell p1=some (.pointer (some p)))(c2:h.cell p2=some (Lf.sl.up rs))(hr:IL h rs R)(hR:R.length<=100000)(hl:IL h l xs)(hxl:xs.length<=1000)(hsm:∀x∈xs,smI x)
 (H:∀r h',h.le h'->Fnd (λx=>ze3 (Qz S) (Xo S) R x=true) xs r->Ki r h'):zc (F.Zy l (some p1,some p2,())) Ki h:=by
 refine zd (λr h'=>Fnd (λx=>ze3 (Qz S) (Xo S) R x=true) xs r) (λK' hk=>?_) λb h' hl hb=>H b h' hl hb
 unfold F.Zy
 refine zd0 hl (by omega) (λx hx h5 hl5 K5 hK5=>?_) λr h' hl hr=>hk _ _ hl hr
 refine zd (λb h'=>b=true↔ze3 (Qz S) (Xo S) R x=true) (λK6 hk6=>?_) λb h8 hl8 hb=>hK5 _ _ hl8 hb
 unfold F.y_henneberg_peeler_peel_1
 refine⟨_,Hp.cell_le hl5 c1,_,Hp.cell_le hl5 c2,?_⟩
 exact zie (hp.le hl5) hs hv (ht.le hl5) (hr.le hl5) hR (hsm x hx) λb h' hl hb=>hk6 _ _ hl (by rw[hb];unfold ze3;rw[decide_eq_true_iff])
theorem Z3y{can:Int->Bool}{xs:List Int}{r:Int}(hf:Fnd (λx=>can x=true) xs r):(r=-1/\xs.find? can=none)\/∃k,∃hk:k<xs.length,r=(k:Int)/\xs.find? can=some xs[k]:=by
 rcases hf with ⟨h1,h2⟩ | ⟨k,hk,h1,h2,h3⟩
 . exact .inl ⟨h1,by rw[List.find?_eq_none];exact λx hx=>by simpa using h2 x hx⟩
 . exact .inr ⟨k,hk,h1,zwa hk (λj hj hjk=>by simpa using h3 j hj hjk) h2⟩
theorem zx5(hp:PR h p S)(hs:sSk S)(hv:VS S)(ht:GT h)(H:∀a b h',h.le h'->IL h' a (z99 S (Va S))->IL h' b (Vl (Va S) (z99 S (Va S)))->K (a,b) h'):zc (F.y_henneberg_peeler_peel (some p)) K h:=by
 refine zd (λr h'=>IL h' r.1 (z99 S (Va S))/\IL h' r.2 (Vl (Va S) (z99 S (Va S)))) (λK' hk=>?_) λr h' hl hr=>H r.1 r.2 h' hl hr.1 hr.2
 unfold F.y_henneberg_peeler_peel
 obtain⟨can,hcan⟩:∃can,can=ze3 (Qz S) (Xo S):=⟨_,rfl⟩
 have hcn:∀R i,can R i=true->i∉R:=by rw[hcan];exact zyf
 have hal:=zy6 hs
 refine Xy λp1 h1 hl1 c1=>?_
 intro b e hbf
 have hp1:=hp.le hl1
 have ht1:=ht.le hl1
 refine zd3 (λf st h'=>∃(R:List Int) (y:Sl) (D:Hp),st=(some ⟨b,0,none⟩,())/\h1.le D/\D b=none/\MB h' b [Lf.sl.up y]/\OI D h' y R/\(∀a,y.a=some a->a.block≠b)/\R.length+(Vl (Va S) R).length<=(Va S).length/\(Vl (Va S) R).length<=f /\
  zbk can (Va S) (Vl (Va S) R).length R=z99 S (Va S)) (n0:=(Va S).length)
  ⟨[],zf,h1,rfl,Hp.le_refl _,hbf,⟨e,Hp.ins_same _ _ _⟩,Own.nil (Hp.le_ins hbf),λa ha=>(by cases ha),?_⟩ ?_
 . have e:Vl (Va S) []=Va S:=by unfold Vl;rw[List.filter_eq_self];simp
   rw[e]
   exact⟨by simp,Nat.le_refl _,by rw[hcan];rfl⟩
 rintro f _ h2 ⟨R,y,D,rfl,hD,hDb,hm,ho,hyb,hRl,hf,hpf⟩ K2 hK2
 have hD2:=ho.dle
 have hle2:h1.le h2:=Hp.le_trans hD hD2
 refine⟨_,Hp.cell_le hle2 c1,?_⟩
 refine zeo (hp1.le hle2) hs λr6 h3 hl3 ho6=>?_
 have hle3:=Hp.le_trans hle2 hl3
 have hm3:=hm.le hl3
 have ho3:=ho.le hl3
 have c2:∀{h':Hp},MB h' b [Lf.sl.up y]->h'.cell ⟨b,0,none⟩=some (Lf.sl.up y):=λhm=>by
  have:=hm.ld 0 rfl
  rwa [Zv]at this
 refine zsn (hp1.le hle3) hs hv (ht1.le hle3) (Hp.cell_le hle3 c1) (c2 hm3) ho3.il (by omega) (xs:=Va S) ho6.il (by omega) (λx hx=>Z7w hs hx) λr7 h4 hl4 hr7=>?_
 have hle4:=Hp.le_trans hle3 hl4
 have hm4:=hm3.le hl4
 have ho4:=ho3.le hl4
 rw[<-hcan]at hr7
 rcases Z3y hr7 with ⟨hr,hnone⟩ | ⟨k,hk0,hr,hsome⟩
 . refine y7 (decide_eq_true (by omega)) ?_
   have hRp:R=z99 S (Va S):=by rw[<-hpf,z7y hcn (Nat.le_refl _) hnone]
   refine⟨_,Hp.cell_le hle4 c1,?_⟩
   refine zeo (hp1.le hle4) hs λr9 h5 hl5 ho9=>?_
   have hm5:=hm4.le hl5
   have ho5:=ho4.le hl5
   refine znr (D:=h4) (xs:=Va S) (R:=R) (rs:=y) ho9 (by omega) (c2 hm4) ho4.il (by omega) λz h6 ho6z=>?_
   have l46:h4.le h6:=ho6z.dle
   have hm6:=hm4.le l46
   refine⟨_,c2 hm6,?_⟩
   refine hk _ _ (Hp.le_trans hl1 (Hp.le_trans hle4 l46)) ⟨?_,?_⟩
   . rw[<-hRp]
     exact(ho4.le l46).il
   . have:Vl (Va S) (z99 S (Va S))=(Va S).filter λx=>decide (x∉R):=by rw[<-hRp];rfl
     rw[this]
     exact ho6z.il
 . refine zt (decide_eq_false (by omega)) ?_
   refine⟨_,c2 hm4,_,Hp.cell_le hle4 c1,?_⟩
   refine zeo (hp1.le hle4) hs λr16 h5 hl5 ho16=>?_
   have hm5:=hm4.le hl5
   have ho5:=ho4.le hl5
   rw[hr]
   refine ho16.il.get (xs:=Va S) k rfl hk0 ?_
   have hyl:=ho5.il.len
   have hbb:h5 b≠none:=by obtain⟨e,hm⟩:=hm5;rw[hm];simp
   refine zcj ho5 (n:=1) (new:=[ic (Va S)[k]]) rfl rfl rfl (by omega) (by omega) λw h6 hw _ hs6 hb6=>?_
   have hm6:MB h6 b [Lf.sl.up y]:=by
    obtain⟨e,hm⟩:=hm5
    exact⟨e,by rw[hs6 b hbb λa ha=>(hyb a ha).symm];exact hm⟩
   have hwb:∀a,w.a=some a->a.block≠b:=λa ha hh=>by
    rcases hb6 a ha with ⟨a',h8,h9⟩ | h8
    . exact hyb a' h8 (by rw[h9];exact hh)
    . rw[hh]at h8;exact hbb h8
   obtain⟨g,hg1,hg2,hg3⟩:=zaz hcn (Nat.le_refl _) hsome
   have hlt:(Vl (Va S) (R++[(Va S)[k]])).length<(Vl (Va S) R).length:=by omega
   have key:=hm6.st (j:=0) (v:=Lf.sl.up w) (K:=λh=>K2 (some ⟨b,0,none⟩,()) h) (by simp) rfl λh8 hm8 hs8=>hK2 (Vl (Va S) (R++[(Va S)[k]])).length _ _ (by omega) ⟨R++[(Va S)[k]],w,D,rfl,hD,hDb,hm8,?_,hwb,by simp;omega,Nat.le_refl _,?_⟩
   . rw[Zv]at key
     exact key
   . obtain⟨e8,hm8'⟩:=hm8
     rw[zs6 hm8' hs8]
     have:OI D h6 w (R++[(Va S)[k]]):=by
      unfold OI
      rw[List.map_append]
      exact hw
     exact zhx this hDb hwb
   . rw[<-hpf,hg2]
     exact zx6 hcn _ _ _ (Nat.le_refl _) hg3
theorem zvl(hx:SK h s S)(hs:sSk S)(ht:GT h)(H0:∀h',h.le h'->¬VS S->K (zf,zf) h')(H:∀a b h',h.le h'->VS S->IL h' a (z99 S (Va S))->IL h' b (Vl (Va S) (z99 S (Va S)))->K (a,b) h'):zc (F.z2v s) K h:=by
 refine zd (λr h'=>(¬VS S/\r=(zf,zf))\/(VS S/\IL h' r.1 (z99 S (Va S))/\IL h' r.2 (Vl (Va S) (z99 S (Va S))))) (λK' hk=>?_) λr h' hl hr=>by
  rcases hr with ⟨h1,rfl⟩ | ⟨h1,h2,h3⟩
  . exact H0 h' hl h1
  . exact H r.1 r.2 h' hl h1 h2 h3
 unfold F.z2v
 refine zfs hx hs ht λr h1 hl1 hr=>?_
 refine yk (λh2=>hk _ _ hl1 (.inl ⟨λhv=>h2 (hr.2 hv),rfl⟩)) (λh2=>?_)
 have hv:=hr.1 h2
 refine zmc (hx.le hl1) hv hs λp h3 hl3 hp=>?_
 refine zx5 hp hs hv (ht.le (Hp.le_trans hl1 hl3)) λa b h4 hl4 ha hb=>hk _ _ (Hp.le_trans hl1 (Hp.le_trans hl3 hl4)) (.inr ⟨hv,ha,hb⟩)
end
end Den
end

section
namespace Den
open Go Iv Lx
section
variable {h : Hp} {s : TSketch} {S : PSk} {p : Addr} {item : Int} {us : Sl} {u : List Int} {Kb : Bool → Hp → Prop} {Ki : Int → Hp → Prop} {K : TStep → Hp → Prop}
end
section
variable {h : Hp} {s : TSketch} {S : PSk} {p : Addr} {K : (TPlan × Int) → Hp → Prop} {Kb : Bool → Hp → Prop}
end
end Den
end

section
namespace Den
open Go Iv Lx
section
variable {α β γ δ : Type} {c : α → List Value} {n : Nat} {P : Hp → α → β → Prop} {c2 : γ → List Value} {n2 : Nat} {P2 : Hp → γ → δ → Prop} {D h h' : Hp} {l m : Sl} {ps : List β} {qs : List δ}
end
def Zky(x:TRat)(z:Int):PEx:=.mk 1 x (some ((z:Int):Rat)) X6 []
def Zdq(x:TRat):Prop:=x.num.mag.len<=4/\x.den.mag.len<=4
def DC(z:Int)(c:PCon)(e:Int×Int):Prop:=∃x:TRat,Zdq x/\c=⟨2,[e.1,e.2],[],[Zky x z],0⟩
def DCL(z:Int):List PCon->List (Int×Int)->Prop
 | [],[]=>True
 | c :: r,e :: q=>DC z c e/\DCL z r q
 | _,_=>False
theorem DCL.snoc{z:Int}{c:PCon}{e:Int×Int}(hc:DC z c e):∀{l:List PCon} {q:List (Int×Int)},DCL z l q->DCL z (l++[c]) (q++[e])
 | [],[],_=>⟨hc,trivial⟩
 | a :: r,b :: q,h=>⟨h.1,DCL.snoc hc h.2⟩
 | [],_ :: _,h=>h.elim
 | _ :: _,[],h=>h.elim
theorem DCL.len{z:Int}:∀{l:List PCon} {q:List (Int×Int)},DCL z l q->l.length=q.length
 | [],[],_=>rfl
 | a :: r,b :: q,h=>by rw[List.length_cons,List.length_cons,DCL.len h.2]
 | [],_ :: _,h=>h.elim
 | _ :: _,[],h=>h.elim
theorem DCL.all{z:Int}{Q:PCon->Prop}:∀{l:List PCon} {q:List (Int×Int)},DCL z l q->(∀c e,e∈q->DC z c e->Q c)->∀c∈l,Q c
 | [],[],_,_,c,hc=>by simp at hc
 | a :: r,b :: q,h,H,c,hc=>by
   rcases List.mem_cons.1 hc with rfl | hc
   . exact H _ b (by simp) h.1
   . exact DCL.all h.2 (λc e he=>H c e (List.mem_cons_of_mem _ he)) c hc
 | [],_ :: _,h,_,_,_=>h.elim
 | _ :: _,[],h,_,_,_=>h.elim
def DSK(z:Int)(S:PSk)(n:Nat)(prs:List (Int×Int)):Prop:=S.pts.length=n/\(∀p∈S.pts,VP p)/\S.cir=[]/\S.seg=[]/\S.arc=[]/\S.chn=[]/\DCL z S.con prs
def prs:Nat->List (Int×Int)
 | 0=>[]
 | i+1=>prs i++(List.range i).map λk:Nat=>((k:Int),(i:Int))
section
variable {h : Hp} {K : TSketch → Hp → Prop}
end
section
variable {h : Hp} {s : TSketch} {S : PSk} {Kb : Bool → Hp → Prop}
end
end Den
end

section
namespace Den
open Go Iv Lx
end Den
end

section
namespace Den
open Go Iv Lx
theorem OI.set{D h:Hp}{l:Sl}{xs:List Int}{i v:Int}{K:Hp->Prop}(k:Nat)(ho:OI D h l xs)(hi:i=k)(hk:k<xs.length)(H:∀h',OI D h' l (xs.set k v)->K h'):zg l i 1 λa=>stP a [.int .i64 v] K h:=by
 have e:∀ys:List Int,ys.map ic=ys.flatMap λz=>[ic z]:=λys=>by induction ys<;>simp_all
 unfold OI at ho
 rw[e]at ho
 refine zv3 (c:=λz:Int=>[ic z]) (n:=1) (λ_=>rfl) (by decide) k ho hi hk rfl λh' h1 _=>H h' ?_
 unfold OI
 rw[e];exact h1
section
variable {h : Hp} {s : TSketch} {S : PSk} {K : Bool → Hp → Prop}
end
end Den
end

section
namespace Den
open Go Iv Lx
def Zat(l:List Int)(item:Int)(T:List Int):Prop:=item∈l/\∀x∈l,x∈T
instance (l:List Int) (item:Int) (T:List Int):Decidable (Zat l item T):=by unfold Zat;infer_instance
theorem zs4{α:Type}{p:α->Bool}{i:α}:[i].filter p=if p i=true then [i]else []:=by
 cases h:p i<;>simp[List.filter,h]
section
variable {h : Hp} {s : TSketch} {S : PSk} {x : TConstraint} {c : PCon} {cs : List Int} {ce : Sl} {item : Int} {T : List Int} {ts : Sl} {Kb : Bool → Hp → Prop} {Ki : Int → Hp → Prop} {Ks : Sl → Hp → Prop} {K : (Sl × Sl) → Hp → Prop}
def zue(S:PSk):List Int:=Vl (Va S) (z99 S (Va S))
def Zas(l T:List Int):Prop:=∀x∈l,x∈T
instance (l T:List Int):Decidable (Zas l T):=by unfold Zas;infer_instance
end
end Den
end

section
namespace Den
open Go Iv Lx
section
variable {h D : Hp} {s : TSketch} {S : PSk} {x : TConstraint} {c : PCon} {cs : List Int} {ce l rs : Sl} {item : Int} {R xs : List Int} {p1 p2 : Addr} {Kb : Bool → Hp → Prop} {Ki : Int → Hp → Prop} {Ks : Sl → Hp → Prop} {K : (Sl × Sl) → Hp → Prop}
theorem zbp(hx:SK h s S)(hs:sSk S)(ht:GT h)(H:∀b h',h.le h'->(b=true↔VS S/\zue S=[])->Kb b h'):zc (F.Vp s) Kb h:=by
 refine zd (λb h'=>b=true↔VS S/\zue S=[]) (λK' hk=>?_) λy h' hl hb=>H y h' hl hb
 unfold F.Vp
 refine zfs hx hs ht λr h1 hl1 hr=>?_
 refine yk (λh2=>hk _ _ hl1 ⟨λhh=>(by cases hh),λhh=>absurd (hr.2 hh.1) h2⟩) (λh2=>?_)
 have hv:=hr.1 h2
 refine zvl (hx.le hl1) hs (ht.le hl1) (λ_ _ hn=>absurd hv hn) λa b h3 hl3 _ ha hb=>hk _ _ (Hp.le_trans hl1 hl3) ?_
 have hb:IL h3 b (zue S):=hb
 have hbl:=hb.len
 rw[beq_iff_eq]
 simp only
 constructor
 . intro h4
   exact⟨hv,List.eq_nil_of_length_eq_zero (by omega)⟩
 . rintro⟨_,h4⟩
   rw[h4]at hbl
   rw[hbl];rfl
end
end Den
end

section
namespace Den
open Go Iv Lx
theorem Z4r{D h:Hp}{n:Nat}{l:Sl}{cs:List Value}(ho:Own D h n l cs){a:Addr}(ha:l.a=some a):D a.block=none:=by
 obtain⟨_,_,_,g4⟩:=ho
 rw[ha]at g4
 exact g4.2.2.1
section
variable {h D : Hp} {s : TSketch} {S : PSk} {l rs : Sl} {item a b : Int} {R xs : List Int} {p1 p2 : Addr} {Kb : Bool → Hp → Prop} {Ki : Int → Hp → Prop} {Ks : Sl → Hp → Prop}
end
end Den
end

section
namespace Den
open Go Iv Lx
def a2c(e:A2_Int):List Value:=[.int .i64 e.c0,.int .i64 e.c1]
def A2P(h:Hp)(x:A2_Int)(b:Int×Int):Prop:=x.c0=b.1/\x.c1=b.2
theorem y9:Rec a2c 2 A2P:=⟨λ_=>rfl,by decide,λ_=>rfl,λhx _=>hx⟩
def z1d(a b:Int×Int):Prop:=a.1<b.1\/a.1=b.1/\a.2<b.2
def GV(n:Int)(es:List (Int×Int)):Prop:=(0<=n/\n<=60)/\(∀e∈es,0<=e.1/\e.1<e.2/\e.2<n)/\∀j (hj:j+1<es.length),z1d es[j] es[j+1]
def V8(es:List (Int×Int))(T:List Int)(i:Int):Nat:=es.countP λe=>decide (e.1∈T)&&decide (e.2∈T)&&(e.1==i||e.2==i)
theorem ze6{es:List (Int×Int)}{C T:List Int}{i:Int}(h:∀x∈C,x∈T):V8 es C i<=V8 es T i:=by
 unfold V8
 refine List.countP_mono_left λe _ he=>?_
 simp only[Bool.and_eq_true,decide_eq_true_iff]at he |-
 exact⟨⟨h _ he.1.1,h _ he.1.2⟩,he.2⟩
def zbc(n:Nat):List Int:=(List.range n).map λi:Nat=>(i:Int)
theorem Z4c{n:Nat}{x:Int}:x∈zbc n↔0<=x/\x<n:=by
 unfold zbc
 rw[List.mem_map]
 constructor
 . rintro⟨a,ha,rfl⟩
   rw[List.mem_range]at ha;omega
 . rintro⟨h1,h2⟩
   exact⟨x.toNat,List.mem_range.2 (by omega),by omega⟩
structure IsCore(n:Nat)(es:List (Int×Int))(T:List Int):Prop where
 sub:T=(zbc n).filter λx=>decide (x∈T)
 deg:∀i∈T,3<=V8 es T i
 great:∀C:List Int,(∀i∈C,0<=i/\i<n)->(∀i∈C,3<=V8 es C i)->∀i∈C,i∈T
theorem IsCore.mem{n:Nat}{es:List (Int×Int)}{T:List Int}(h:IsCore n es T){i:Int}(hi:i∈T):0<=i/\i<n:=by
 have h1:=h.sub
 rw[h1]at hi
 exact Z4c.1 (List.mem_filter.1 hi).1
theorem zwe{es:List (Int×Int)}{C T:List Int}{x:Int}(hC:∀i∈C,3<=V8 es C i)(hT:∀i∈C,i∈T)(hx:V8 es T x<=2):x∉C:=λhm=>by
 have h1:=hC x hm
 have h2:=ze6 (es:=es) (i:=x) hT
 omega
section
variable {h D : Hp} {g : TGraph} {es : List (Int × Int)} {Kb : Bool → Hp → Prop} {Ki : Int → Hp → Prop} {Ks : Sl → Hp → Prop}
theorem zjc{a b:A2_Int}(H:∀r h',h.le h'->(r<0↔z1d (a.c0,a.c1) (b.c0,b.c1))->Ki r h'):zc (F.X3 a b) Ki h:=by
 refine zd (λr h'=>r<0↔z1d (a.c0,a.c1) (b.c0,b.c1)) (λK' hk=>?_) λb h' hl hb=>H b h' hl hb
 unfold F.X3
 refine Vj (Vj ?_)
 obtain⟨r1,hr1⟩:∃r1:Int,r1=if a.c0<b.c0 then -1 else if b.c0<a.c0 then 1 else 0:=⟨_,rfl⟩
 obtain⟨r2,hr2⟩:∃r2:Int,r2=if a.c1<b.c1 then -1 else if b.c1<a.c1 then 1 else 0:=⟨_,rfl⟩
 rw[<-hr1,<-hr2]
 refine z8m λp3 h3 hl3 c3=>?_
 have hi:IL h3 ⟨some p3,2,2⟩ [r1,r2]:=⟨z0g (size:=1) (n:=2) c3 rfl,Nat.le_refl _⟩
 have q1:(r1<0↔a.c0<b.c0)/\(r1=0↔a.c0=b.c0):=by rw[hr1];split<;>(try split)<;>constructor<;>constructor<;>intro _<;>omega
 have q2:r2<0↔a.c1<b.c1:=by rw[hr2];split<;>(try split)<;>constructor<;>intro _<;>omega
 have key:∀r:Int,(r1≠0->r=r1)->(r1=0->r2≠0->r=r2)->(r1=0->r2=0->r=0)->(r<0↔z1d (a.c0,a.c1) (b.c0,b.c1)):=by
  intro r k1 k2 k3
  unfold z1d
  simp only
  rw[<-q1.1,<-q1.2,<-q2]
  by_cases e1:r1=0
  . by_cases e2:r2=0
    . have:=k3 e1 e2;omega
    . have:=k2 e1 e2;omega
  . have:=k1 e1;omega
 refine zd (λr h'=>(r1≠0->r=r1)/\(r1=0->r2≠0->r=r2)/\(r1=0->r2=0->r=0)) (λK2 hk2=>?_) λr h' hl hr=>hk _ _ (Hp.le_trans hl3 hl) (key r hr.1 hr.2.1 hr.2.2)
 unfold F.z8a
 refine Y0 (n:=2) (by omega) (λi h'=>h'=h3/\(0<i->r1=0)/\(1<i->r2=0)) ⟨rfl,by omega,by omega⟩ ?_
 rintro i h4 hi2 ⟨rfl,z1,z2⟩ k hk4
 refine ze (λh5=>?_) (λh5=>?_)
 . have hi':i<2:=by have:(i:Int)<((2:Nat):Int):=h5;omega
   rcases(by omega:i=0\/i=1)with rfl | rfl
   . refine hi.get 0 rfl (by simp) ?_
     simp only[List.getElem_cons_zero]
     refine yk (λh6=>hk2 _ _ (Hp.le_refl _) ⟨λ_=>rfl,λhh=>absurd hh h6,λhh=>absurd hh h6⟩) (λh6=>hk4 _ hi' ⟨rfl,λ_=>h6,by omega⟩)
   . have z:=z1 (by omega)
     refine hi.get 1 rfl (by simp) ?_
     simp only[List.getElem_cons_succ,List.getElem_cons_zero]
     refine yk (λh6=>hk2 _ _ (Hp.le_refl _) ⟨λhh=>absurd z hh,λ_ _=>rfl,λ_ hh=>absurd hh h6⟩) (λh6=>hk4 _ hi' ⟨rfl,λ_=>z,λ_=>h6⟩)
 . have:i=2:=by have:¬(i:Int)<((2:Nat):Int):=h5;omega
   subst this
   exact hk2 _ _ (Hp.le_refl _) ⟨λhh=>absurd (z1 (by omega)) hh,λ_ hh=>absurd (z2 (by omega)) hh,λ_ _=>rfl⟩
theorem zum{n i:Int}(H:∀b,(b=true↔0<=i/\i<n)->Kb b h):zc (F.Wo n i) Kb h:=by
 refine ze1 (λb=>b=true↔0<=i/\i<n) (λK' hk=>?_) H
 unfold F.Wo
 exact ze (λh1=>hk _ (by rw[decide_eq_true_iff];omega)) (λh1=>hk _ ⟨λhh=>(by cases hh),λhh=>by omega⟩)
theorem Vk(hg:LR a2c 2 A2P h g.edges es)(hlen:es.length<=140737488355328)(H:∀b h',h.le h'->(b=true↔GV g.n es)->Kb b h'):zc (F.Qw g) Kb h:=by
 refine zd (λb h'=>b=true↔GV g.n es) (λK' hk=>?_) λb h' hl hb=>H b h' hl hb
 unfold F.Qw
 have no:∀h',h.le h'->¬GV g.n es->K' false h':=λh' hl hn=>hk _ _ hl ⟨λhh=>(by cases hh),λhh=>absurd hh hn⟩
 have hl:=hg.len y9
 refine zk (λ_ h'=>h'=h/\0<=g.n/\g.n<=60) ?_ ?_
 . rintro _ h0 ⟨rfl,n0,n1⟩
   refine Y0 (n:=es.length) hlen (λi h'=>h0.le h'/\(∀j (hj:j<es.length),j<i->0<=es[j].1/\es[j].1<es[j].2/\es[j].2<g.n)/\∀j (hj:j+1<es.length),j+1<i->z1d es[j] es[j+1]) ⟨Hp.le_refl _,λj _ hj=>by omega,λj _ hj=>by omega⟩ ?_
   rintro i h2 hi ⟨hl2,hno,hbe⟩ k hk2
   refine ze (λh3=>?_) (λh3=>?_)
   . have hi':i<es.length:=by simp only at h3;omega
     have nx:¬(0<=es[i].1/\es[i].1<es[i].2/\es[i].2<g.n)->¬GV g.n es:=λhn hh=>hn (hh.2.1 _ (List.getElem_mem hi'))
     refine zk (λ_ h'=>h0.le h'/\(0<=es[i].1/\es[i].1<es[i].2/\es[i].2<g.n)/\(∀hj:0<i,z1d (es[i-1]'(by omega)) es[i])) (λ_ h' hh=>hk2 _ hi' ⟨hh.1,Zkk (P:=λe:Int×Int=>0<=e.1/\e.1<e.2/\e.2<g.n) hno hi' hh.2.1,λj hj hji=>?_⟩) ?_
     . rcases Nat.lt_or_ge (j+1) i with h5 | h5
       . exact hbe j hj h5
       . have:i=j+1:=by omega
         subst this
         exact hh.2.2 (by omega)
     refine(hg.le y9 hl2).get y9 i rfl hi' λa x hxx hcx=>⟨_,hcx 0 _ rfl,_,hcx 1 _ rfl,?_⟩
     obtain⟨x1,x2⟩:=hxx
     rw[x1,x2]
     refine zum λb hb=>zp (λh4=>no _ hl2 (nx λhh=>by rw[hb.2 ⟨hh.1,by omega⟩]at h4;cases h4)) (λh4=>?_)
     have b1:=hb.1 (by simpa using h4)
     refine zum λb2 hb2=>zp (λh5=>no _ hl2 (nx λhh=>by rw[hb2.2 ⟨by omega,hh.2.2⟩]at h5;cases h5)) (λh5=>?_)
     have b2':=hb2.1 (by simpa using h5)
     refine ze (λh6=>no _ hl2 (nx λhh=>by have h6:es[i].1>=es[i].2:=h6;omega)) (λh6=>?_)
     have h6:¬es[i].1>=es[i].2:=h6
     have ok:0<=es[i].1/\es[i].1<es[i].2/\es[i].2<g.n:=by omega
     refine ze (λh7=>?_) (λh7=>⟨hl2,ok,λhj=>by simp only at h7;omega⟩)
     have hi0:0<i:=by simp only at h7;omega
     simp only
     rw[show i64.wrap ((i:Int)-1)=((i-1:Nat):Int) from by rw[w64 (by omega)];omega]
     refine(hg.le y9 hl2).get y9 (i-1) rfl (by omega) λa2 y hyy hcy=>⟨_,hcy 0 _ rfl,_,hcy 1 _ rfl,?_⟩
     obtain⟨y1,y2⟩:=hyy
     refine zjc (a:=⟨y.c0,y.c1⟩) (b:=⟨es[i].1,es[i].2⟩) λr h8 hl8 hr=>?_
     have hle8:=Hp.le_trans hl2 hl8
     simp only at hr
     rw[y1,y2]at hr
     refine ze (λh9=>no _ hle8 λhh=>?_) (λh9=>⟨hle8,ok,λ_=>hr.1 (by omega)⟩)
     have:=hh.2.2 (i-1) (by omega)
     have e:i-1+1=i:=by omega
     simp only[e]at this
     have:=hr.2 this
     omega
   . refine hk _ _ hl2 ⟨λ_=>⟨⟨n0,n1⟩,Zb5 (P:=λe:Int×Int=>0<=e.1/\e.1<e.2/\e.2<g.n) hno (by simp only at h3;omega),λj hj=>hbe j hj (by simp only at h3;omega)⟩,λ_=>rfl⟩
 . refine ze (λh1=>no _ (Hp.le_refl _) λhh=>by have:=hh.1.1;omega) (λh1=>ze (λh2=>no _ (Hp.le_refl _) λhh=>by have:=hh.1.2;omega) (λh2=>⟨rfl,by omega,by omega⟩))
theorem zjw{es:List (Int×Int)}{e:Int×Int}{T:List Int}{i:Int}:V8 (es++[e]) T i=V8 es T i+(if e.1∈T/\e.2∈T/\(e.1=i\/e.2=i)then 1 else 0):=by
 unfold V8
 rw[List.countP_append]
 congr 1
 rw[List.countP_singleton]
 by_cases h:e.1∈T/\e.2∈T/\(e.1=i\/e.2=i)
 . rw[if_pos h,if_pos (by simp[h.1,h.2.1];exact h.2.2)]
 . rw[if_neg h,if_neg]
   intro hh
   simp only[Bool.and_eq_true,decide_eq_true_iff,Bool.or_eq_true,beq_iff_eq]at hh
   exact h ⟨hh.1.1,hh.1.2,hh.2⟩
theorem Z88{es:List (Int×Int)}{T:List Int}{i:Int}:V8 es T i<=es.length:=List.countP_le_length
end
end Den
end

section
namespace Den
def szX(n:Nat)(X:Int->Bool):Nat:=(List.range n).countP λi:Nat=>X (i:Int)
def z2q(es:List (Int×Int))(X:Int->Bool):Nat:=es.countP λe=>X e.1&&X e.2
def Xu(n:Nat)(es:List (Int×Int)):Prop:=∀X:Int->Bool,2<=szX n X->z2q es X+3<=2*szX n X
theorem zyj{es fs:List (Int×Int)}{X:Int->Bool}(h:es.Sublist fs):z2q es X<=z2q fs X:=h.countP_le
theorem Xu.sub{n:Nat}{es fs:List (Int×Int)}(h:Xu n fs)(hs:es.Sublist fs):Xu n es:=λX hX=>by
 have h1:=h X hX
 have h2:=zyj (X:=X) hs
 omega
theorem zar{es:List (Int×Int)}{a b:Int}{X:Int->Bool}:z2q (es++[(a,b)]) X=z2q es X+(if X a&&X b then 1 else 0):=by
 unfold z2q
 rw[List.countP_append,List.countP_singleton]
theorem zju{es fs:List (Int×Int)}{X:Int->Bool}(h:es.Perm fs):z2q es X=z2q fs X:=h.countP_eq _
theorem Xu.perm{n:Nat}{es fs:List (Int×Int)}(h:Xu n es)(hp:es.Perm fs):Xu n fs:=λX hX=>by
 rw[<-zju hp];exact h X hX
def za9(O:List (List Int))(X:Int->Bool)(v:Nat):Nat:=if X (v:Int)then (O.getD v []).countP X else 0
def ze5(O:List (List Int))(X:Int->Bool):Nat:=((List.range O.length).map (za9 O X)).sum
theorem zbo{f g:Nat->Nat}{a:Nat}:∀{n:Nat},a<n->(∀i,i≠a->f i=g i)->((List.range n).map f).sum+g a=((List.range n).map g).sum+f a
 | 0,h,_=>by omega
 | n+1,h,hfg=>by
   rw[List.range_succ,List.map_append,List.map_append,List.sum_append,List.sum_append]
   simp only[List.map_cons,List.map_nil,List.sum_cons,List.sum_nil,Nat.add_zero]
   by_cases ha:a=n
   . subst ha
     have:((List.range a).map f)=(List.range a).map g:=List.map_congr_left λi hi=>hfg i (by have:=List.mem_range.1 hi;omega)
     rw[this];omega
   . have:=zbo (f:=f) (g:=g) (a:=a) (n:=n) (by omega) hfg
     have:=hfg n (λhh=>ha hh.symm)
     omega
theorem Qi{α:Type}{l:List α}{i j:Nat}{x d:α}(h:i≠j):(l.set i x).getD j d=l.getD j d:=by
 rw[List.getD_eq_getElem?_getD,List.getD_eq_getElem?_getD,List.getElem?_set_ne h]
theorem X2{α:Type}{l:List α}{i:Nat}{x d:α}(h:i<l.length):(l.set i x).getD i d=x:=by
 rw[List.getD_eq_getElem?_getD,List.getElem?_set_self h];rfl
theorem zgu{O:List (List Int)}{X:Int->Bool}{a:Nat}{l:List Int}(ha:a<O.length):ze5 (O.set a l) X+za9 O X a=ze5 O X+(if X (a:Int)then l.countP X else 0):=by
 unfold ze5
 rw[List.length_set]
 have:=zbo (f:=za9 (O.set a l) X) (g:=za9 O X) ha (λi hi=>by unfold za9;rw[Qi (λhh=>hi hh.symm)])
 rw[this]
 congr 1
 unfold za9
 rw[X2 ha]
structure GI(n:Nat)(O:List (List Int))(es:List (Int×Int)):Prop where
 len:O.length=n
 two:∀v,v<n->(O.getD v []).length<=2
 rng:∀v,v<n->∀u∈O.getD v [],0<=u/\u<n
 cnt:∀X:Int->Bool,ze5 O X=z2q es X
def qf(vis:List Bool)(i:Nat):Bool:=vis.getD i false
def FP(n:Nat)(O:List (List Int))(vis:List Bool)(a:Nat)(r:Bool)(O':List (List Int))(vis':List Bool):Prop:=
 O'.length=n/\vis'.length=n/\match r with
 | true=>(∀v,v<n->(O'.getD v []).length<=2)/\(∀v,v<n->∀u∈O'.getD v [],0<=u/\u<n)/\(∀X:Int->Bool,ze5 O' X=ze5 O X) /\
    (O'.getD a []).length+1=(O.getD a []).length/\∀v,qf vis v=true->v≠a->O'.getD v []=O.getD v []
 | false=>O'=O/\(∀v,qf vis v=true->qf vis' v=true)/\qf vis' a=true /\
    ∀v,qf vis' v=true->qf vis v=false->(∀u∈O.getD v [],qf vis' u.toNat=true)/\(v≠a->(O.getD v []).length=2)
theorem zh8{α:Type}:∀{l:List α} {i:Nat} (h:i<l.length),(l[i] :: l.eraseIdx i).Perm l
 | x :: l,0,h=>by simp
 | x :: l,i+1,h=>by
   have hi:i<l.length:=by simpa using h
   have:=zh8 (l:=l) (i:=i) hi
   simp only[List.getElem_cons_succ,List.eraseIdx_cons_succ]
   exact(List.Perm.swap x l[i] (l.eraseIdx i)).trans (this.cons x)
theorem Z6t{O:List (List Int)}{a b i:Nat}{X:Int->Bool}(ha:a<O.length)(hb:b<O.length)(hab:a≠b)(hi:i<(O.getD a []).length)(he:(O.getD a [])[i]=(b:Int)) :
 ze5 ((O.set a ((O.getD a []).eraseIdx i)).set b (O.getD b []++[(a:Int)])) X=ze5 O X:=by
 have h1:=zgu (O:=O) (X:=X) (a:=a) (l:=(O.getD a []).eraseIdx i) ha
 have h2:=zgu (O:=O.set a ((O.getD a []).eraseIdx i)) (X:=X) (a:=b) (l:=O.getD b []++[(a:Int)]) (by rw[List.length_set];exact hb)
 have e1:za9 (O.set a ((O.getD a []).eraseIdx i)) X b=za9 O X b:=by unfold za9;rw[Qi hab]
 rw[e1]at h2
 have e2:(O.getD a []).countP X=((O.getD a []).eraseIdx i).countP X+(if X (b:Int)then 1 else 0):=by
  have hp:(O.getD a []).Perm ((b:Int) :: (O.getD a []).eraseIdx i):=by
   rw[<-he]
   exact(zh8 hi).symm
  rw[hp.countP_eq,List.countP_cons]
 have e3:(O.getD b []++[(a:Int)]).countP X=(O.getD b []).countP X+(if X (a:Int)then 1 else 0):=by rw[List.countP_append,List.countP_singleton]
 unfold za9 at h1 h2
 rw[e3]at h2
 rw[e2]at h1
 have F:∀(Y:Int->Bool) (x:Int) (p q:Nat),Y x=false->(if Y x=true then p else q)=q:=λY x p q h=>by rw[h];rfl
 have T:∀(Y:Int->Bool) (x:Int) (p q:Nat),Y x=true->(if Y x=true then p else q)=p:=λY x p q h=>by rw[h];rfl
 cases xa:X (a:Int)<;>cases xb:X (b:Int)
 . rw[F X a _ _ xa,F X a _ _ xa]at h1;rw[F X b _ _ xb,F X b _ _ xb]at h2;omega
 . rw[F X a _ _ xa,F X a _ _ xa]at h1;rw[T X b _ _ xb,T X b _ _ xb,F X a _ _ xa]at h2;omega
 . rw[T X a _ _ xa,T X a _ _ xa,F X b _ _ xb]at h1;rw[F X b _ _ xb,F X b _ _ xb]at h2;omega
 . rw[T X a _ _ xa,T X a _ _ xa,T X b _ _ xb]at h1;rw[T X b _ _ xb,T X b _ _ xb,T X a _ _ xa]at h2;omega
theorem FP.turn{n:Nat}{O O1:List (List Int)}{vis vis1 vis':List Bool}{a b i:Nat}(hO:O.length=n)(htwo:∀v,v<n->(O1.getD v []).length<=2)(hrng:∀v,v<n->∀u∈O1.getD v [],0<=u/\u<n)
 (hl:O1.length=n) (hv:vis'.length=n) (hc:∀X:Int->Bool,ze5 O1 X=ze5 O X) (ha:a<n) (hb:b<n) (hab:a≠b) (hvb:qf vis b=false) (hO1:∀v,qf vis v=true\/v=a->O1.getD v []=O.getD v [])
 (hi:i<(O.getD a []).length) (he:(O.getD a [])[i]=(b:Int)) (hfree:(O1.getD b []).length<2) :
 FP n O vis a true ((O1.set a ((O1.getD a []).eraseIdx i)).set b (O1.getD b []++[(a:Int)])) vis':=by
 have ea:=hO1 a (.inr rfl)
 have hi1:i<(O1.getD a []).length:=by rw[ea];exact hi
 have he1:(O1.getD a [])[i]=(b:Int):=by
  have:(O1.getD a [])[i]?=some (b:Int):=by rw[ea,List.getElem?_eq_getElem hi,he]
  rw[List.getElem?_eq_getElem hi1]at this
  exact Option.some.inj this
 have gb:((O1.set a ((O1.getD a []).eraseIdx i)).set b (O1.getD b []++[(a:Int)])).getD b []=O1.getD b []++[(a:Int)]:=X2 (by rw[List.length_set];omega)
 have ga:((O1.set a ((O1.getD a []).eraseIdx i)).set b (O1.getD b []++[(a:Int)])).getD a []=(O1.getD a []).eraseIdx i:=by rw[Qi (λhh=>hab hh.symm),X2 (by omega)]
 have go:∀v,v≠a->v≠b->((O1.set a ((O1.getD a []).eraseIdx i)).set b (O1.getD b []++[(a:Int)])).getD v []=O1.getD v []:=λv h1 h2=>by rw[Qi (λhh=>h2 hh.symm),Qi (λhh=>h1 hh.symm)]
 refine⟨by rw[List.length_set,List.length_set];exact hl,hv,λv hvn=>?_,λv hvn u hu=>?_,λX=>?_,?_,λv hvv hva=>?_⟩
 . by_cases h1:v=b
   . subst h1;rw[gb,List.length_append,List.length_singleton];omega
   . by_cases h2:v=a
     . subst h2;rw[ga]
       have:=htwo v hvn
       rw[List.length_eraseIdx];split<;>omega
     . rw[go v h2 h1];exact htwo v hvn
 . by_cases h1:v=b
   . subst h1;rw[gb]at hu
     rcases List.mem_append.1 hu with hu | hu
     . exact hrng v hvn u hu
     . rw[List.mem_singleton.1 hu];omega
   . by_cases h2:v=a
     . subst h2;rw[ga]at hu
       exact hrng v hvn u (List.mem_of_mem_eraseIdx hu)
     . rw[go v h2 h1]at hu;exact hrng v hvn u hu
 . rw[Z6t (by omega) (by omega) hab hi1 he1];exact hc X
 . rw[ga,List.length_eraseIdx,if_pos hi1,ea];omega
 . have hvb':v≠b:=λhh=>by subst hh;rw[hvb]at hvv;cases hvv
   rw[go v hva hvb'];exact hO1 v (.inl hvv)
theorem zta{f:Nat->Nat}{p:Nat->Bool}{a:Nat}:∀{n:Nat},(∀v,v<n->p v=true->v≠a->2<=f v)->(a<n->p a=true->1<=f a)->2*(List.range n).countP p<=((List.range n).map f).sum+1
 | 0,_,_=>by simp
 | n+1,h,h2=>by
   rw[List.range_succ,List.countP_append,List.map_append,List.sum_append,List.countP_singleton]
   simp only[List.map_cons,List.map_nil,List.sum_cons,List.sum_nil,Nat.add_zero]
   by_cases hp:p n=true
   . rw[if_pos hp]
     by_cases ha:n=a
     . subst ha
       have h3:=h2 (by omega) hp
       have key:∀m,m<=n->2*(List.range m).countP p<=((List.range m).map f).sum:=by
        intro m
        induction m with
        | zero=>intro _;simp
        | succ m ih=>
          intro hm
          have:=ih (by omega)
          rw[List.range_succ,List.countP_append,List.map_append,List.sum_append,List.countP_singleton]
          simp only[List.map_cons,List.map_nil,List.sum_cons,List.sum_nil,Nat.add_zero]
          by_cases hpm:p m=true
          . rw[if_pos hpm]
            have:=h m (by omega) hpm (by omega)
            omega
          . rw[if_neg hpm];omega
       have:=key n (Nat.le_refl _)
       omega
     . have h3:=h n (by omega) hp ha
       have:=zta (f:=f) (p:=p) (a:=a) (n:=n) (λv hv=>h v (by omega)) (λhv=>h2 (by omega))
       omega
   . rw[if_neg hp]
     have:=zta (f:=f) (p:=p) (a:=a) (n:=n) (λv hv=>h v (by omega)) (λhv=>h2 (by omega))
     omega
theorem Z4p{p:Nat->Bool}{a:Nat}:∀{n:Nat},a<n->p a=true->1<=(List.range n).countP p:=λ{n} ha hp=>
 List.one_le_countP_iff.2 ⟨a,List.mem_range.2 ha,hp⟩
theorem ztz{p:Nat->Bool}{a b:Nat}:∀{n:Nat},a<n->b<n->a≠b->p a=true->p b=true->2<=(List.range n).countP p
 | 0,h,_,_,_,_=>by omega
 | n+1,ha,hb,hab,pa,pb=>by
   rw[List.range_succ,List.countP_append,List.countP_singleton]
   by_cases h1:a=n
   . subst h1
     have:=Z4p (p:=p) (a:=b) (n:=a) (by omega) pb
     rw[if_pos pa];omega
   . by_cases h2:b=n
     . subst h2
       have:=Z4p (p:=p) (a:=a) (n:=b) (by omega) pa
       rw[if_pos pb];omega
     . have:=ztz (p:=p) (a:=a) (b:=b) (n:=n) (by omega) (by omega) hab pa pb
       omega
theorem zo1{n:Nat}{O O':List (List Int)}{es:List (Int×Int)}{vis vis':List Bool}{a b:Nat}{e:Int×Int}(hg:GI n O es)(hs:Xu n (es++[e]))(he:e=((a:Int),(b:Int))\/e=((b:Int),(a:Int)))(ha:a<n)(hb:b<n)(hab:a≠b)
 (hvis:∀v,qf vis v=true↔v=b) (hf:FP n O vis a false O' vis'):(O.getD a []).length=0:=by
 obtain⟨_,hl,rfl,h1,h2,h3⟩:=hf
 refine Classical.byContradiction λhne=>?_
 have hb':qf vis' b=true:=h1 b ((hvis b).2 rfl)
 have hX:∀i:Nat,(λx:Int=>qf vis' x.toNat) (i:Int)=qf vis' i:=λi=>rfl
 have hlt:∀v,qf vis' v=true->v<n:=λv hv=>by
  rcases Nat.lt_or_ge v n with h | h
  . exact h
  . unfold qf at hv
    rw[List.getD_eq_getElem?_getD,List.getElem?_eq_none (by omega)]at hv;cases hv
 have hsz:2<=szX n λx=>qf vis' x.toNat:=by
  unfold szX
  exact ztz ha hb hab h2 hb'
 have h4:=hs _ hsz
 have h5:z2q (es++[e]) (λx=>qf vis' x.toNat)=z2q es (λx=>qf vis' x.toNat)+1:=by
  obtain⟨e1,e2⟩:=e
  rw[zar]
  rcases he with he | he
  . cases he
    rw[if_pos (by show(qf vis' a&&qf vis' b)=true;rw[h2,hb'];rfl)]
  . cases he
    rw[if_pos (by show(qf vis' b&&qf vis' a)=true;rw[h2,hb'];rfl)]
 rw[h5,<-hg.cnt]at h4
 have h6:∀v,v<n->qf vis' v=true->v≠b->za9 O' (λx=>qf vis' x.toNat) v=(O'.getD v []).length:=λv hv hv2 hvb=>by
  unfold za9
  rw[if_pos (show(λx:Int=>qf vis' x.toNat) (v:Int)=true from hv2)]
  rw[List.countP_eq_length]
  intro u hu
  exact(h3 v hv2 (by
   cases hh:qf vis v with
   | false=>rfl
   | true=>exact absurd ((hvis v).1 hh) hvb)).1 u hu
 have h7:=zta (f:=za9 O' (λx=>qf vis' x.toNat)) (p:=λv=>qf vis' v&&decide (v≠b)) (a:=a) (n:=n)
  (λv hv hp hva=>by
    simp only[Bool.and_eq_true,decide_eq_true_iff]at hp
    rw[h6 v hv hp.1 hp.2]
    have:=(h3 v hp.1 (by
     cases hh:qf vis v with
     | false=>rfl
     | true=>exact absurd ((hvis v).1 hh) hp.2)).2 hva
    omega)
  (λhv hp=>by
    simp only[Bool.and_eq_true,decide_eq_true_iff]at hp
    rw[h6 a hv hp.1 hp.2]
    omega)
 have h8:szX n (λx=>qf vis' x.toNat)=(List.range n).countP (λv=>qf vis' v&&decide (v≠b))+1:=by
  unfold szX
  have key:∀m,(List.range m).countP (λi:Nat=>qf vis' (i:Int).toNat)=(List.range m).countP (λv=>qf vis' v&&decide (v≠b))+(if b<m then 1 else 0):=by
   intro m
   induction m with
   | zero=>simp
   | succ m ih=>
     rw[List.range_succ,List.countP_append,List.countP_append,ih,List.countP_singleton,List.countP_singleton]
     rw[show qf vis' ((m:Nat):Int).toNat=qf vis' m from rfl]
     by_cases hmb:m=b
     . subst hmb
       simp[hb']
     . have e1:(if b<m+1 then 1 else 0)=(if b<m then 1 else 0):=by
        by_cases hh:b<m
        . rw[if_pos hh,if_pos (by omega)]
        . rw[if_neg hh,if_neg (by omega)]
       rw[e1]
       simp only[hmb,ne_eq,not_false_eq_true,decide_true,Bool.and_true]
       omega
  rw[key n,if_pos hb]
 have h9:ze5 O' (λx=>qf vis' x.toNat)=((List.range n).map (za9 O' (λx=>qf vis' x.toNat))).sum:=by unfold ze5;rw[hg.len]
 rw[h9,h8]at h4
 omega
theorem GI.accept{n:Nat}{O:List (List Int)}{es:List (Int×Int)}{a b:Nat}(hg:GI n O es)(ha:a<n)(hb:b<n)(hfree:(O.getD a []).length<2):GI n (O.set a (O.getD a []++[(b:Int)])) (es++[((a:Int),(b:Int))]):=by
 have hlen:=hg.len
 refine⟨by rw[List.length_set];exact hg.len,λv hv=>?_,λv hv u hu=>?_,λX=>?_⟩
 . by_cases h:v=a
   . subst h;rw[X2 (by omega),List.length_append,List.length_singleton];omega
   . rw[Qi (λhh=>h hh.symm)];exact hg.two v hv
 . by_cases h:v=a
   . subst h;rw[X2 (by omega)]at hu
     rcases List.mem_append.1 hu with hu | hu
     . exact hg.rng v hv u hu
     . rw[List.mem_singleton.1 hu];omega
   . rw[Qi (λhh=>h hh.symm)]at hu;exact hg.rng v hv u hu
 . have h1:=zgu (O:=O) (X:=X) (a:=a) (l:=O.getD a []++[(b:Int)]) (by omega)
   rw[List.countP_append,List.countP_singleton]at h1
   rw[zar,<-hg.cnt]
   unfold za9 at h1
   cases xa:X (a:Int)<;>cases xb:X (b:Int)<;>simp only[xa,xb,if_true,Bool.true_and,Bool.false_and,Bool.false_eq_true,if_false]at h1 |-<;>omega
theorem GI.start(n:Nat):GI n (List.replicate n []) []:=by
 have e:∀v,(List.replicate n ([]:List Int)).getD v []=[]:=λv=>by
  rw[List.getD_eq_getElem?_getD,List.getElem?_replicate];split<;>rfl
 refine⟨by simp,λv _=>(by rw[e];simp),λv _ u hu=>(by rw[e]at hu;exact absurd hu List.not_mem_nil),λX=>?_⟩
 unfold ze5
 have:∀l:List Nat,(l.map (za9 (List.replicate n []) X)).sum=0:=λl=>by
  induction l with
  | nil=>rfl
  | cons a r ih=>rw[List.map_cons,List.sum_cons,ih];unfold za9;rw[e];simp
 rw[this];rfl
theorem GI.fetched{n:Nat}{O O':List (List Int)}{es:List (Int×Int)}{vis vis':List Bool}{a:Nat}(hg:GI n O es)(hf:FP n O vis a true O' vis'):GI n O' es:=by
 obtain⟨h1,_,h2,h3,h4,_,_⟩:=hf
 exact⟨h1,h2,h3,λX=>by rw[h4,hg.cnt]⟩
end Den
end

section
namespace Den
open Go Iv Lx
theorem zqj{a b c:Int×Int}(h1:z1d a b)(h2:z1d b c):z1d a c:=by
 unfold z1d at *;omega
theorem GV.lt{n:Int}{es:List (Int×Int)}(h:GV n es):∀k j (hk:k<es.length) (hj:j<k),z1d (es[j]'(by omega)) es[k]
 | 0,j,_,hj=>by omega
 | k+1,j,hk,hj=>by
   have h1:=h.2.2 k hk
   by_cases hjk:j=k
   . subst hjk;exact h1
   . exact zqj (GV.lt h k j (by omega) (by omega)) h1
end Den
end

section
namespace Den
open Go Iv Lx
def slV(s:Sl):Value:=.slice s.a s.len s.cap
structure PG(D:Hp)(f:BM)(g:Option Addr)(n:Nat)(O:List (List Int))(bo:Nat)(ss:List Sl):Prop where
 ptr:∃p,g=some p/\D.cell (p.add 0)=some (.slice (some ⟨bo,0,none⟩) n n)
 slen:ss.length=n
 olen:O.length=n
 out:f bo=some (ss.map slV)
 row:∀v,v<n->OS f 1 (ss.getD v zf) ((O.getD v []).map ic)
 apt:∀v,v<n->¬inB (ss.getD v zf) bo
 apt2:∀u v,u<n->v<n->u≠v->∀b,inB (ss.getD u zf) b->¬inB (ss.getD v zf) b
structure PV(f:BM)(bo:Nat)(ss:List Sl)(n bv:Nat)(vis:List Bool):Prop where
 cells:f bv=some (vis.map Value.bool)
 len:vis.length=n
 ne:bv≠bo
 apt:∀v,v<n->¬inB (ss.getD v zf) bv
theorem zul{l:List Sl}{v:Nat}(h:v<l.length):(l.map slV)[v]?=some (slV (l.getD v zf)):=by
 rw[List.getElem?_map,List.getElem?_eq_getElem h,List.getD_eq_getElem?_getD,List.getElem?_eq_getElem h];rfl
section
variable {D h : Hp} {f f2 : BM} {g : Option Addr} {n bo bv : Nat} {O : List (List Int)} {ss : List Sl} {vis : List Bool}
theorem PG.other{b:Nat}{cs:List Value}(pg:PG D f g n O bo ss)(h1:b≠bo)(h2:∀v,v<n->¬inB (ss.getD v zf) b):PG D (z06 f b cs) g n O bo ss:=
 ⟨pg.ptr,pg.slen,pg.olen,by rw[Qu (λhh=>h1 hh.symm)];exact pg.out,λv hv=>(pg.row v hv).upd (h2 v hv),pg.apt,pg.apt2⟩
theorem PG.setRow{v:Nat}{y:Sl}{l:List Int}(pg:PG D f g n O bo ss)(hv:v<n)(hfr:∀b,f b≠none->¬inB (ss.getD v zf) b->f2 b=f b)(hy:OS f2 1 y (l.map ic))(hin:∀b,inB y b->inB (ss.getD v zf) b\/f b=none) :
 PG D (z06 f2 bo ((ss.set v y).map slV)) g n (O.set v l) bo (ss.set v y):=by
 have hsl:=pg.slen
 have hol:=pg.olen
 have ho:f bo≠none:=by rw[pg.out];simp
 have ya:¬inB y bo:=λhh=>by
  rcases hin bo hh with h1 | h1
  . exact pg.apt v hv h1
  . exact ho h1
 have gs:∀u,u≠v->(ss.set v y).getD u zf=ss.getD u zf:=λu hu=>Qi (λhh=>hu hh.symm)
 have gv:(ss.set v y).getD v zf=y:=X2 (by omega)
 refine⟨pg.ptr,by rw[List.length_set];exact hsl,by rw[List.length_set];exact hol,Z3,λu hu=>?_,λu hu=>?_,λu w hu hw huw b=>?_⟩
 . by_cases huv:u=v
   . subst huv
     rw[gv,X2 (by omega)]
     exact hy.upd ya
   . rw[gs u huv,Qi (λhh=>huv hh.symm)]
     refine OS.upd ((pg.row u hu).congr λb hb=>hfr b ((pg.row u hu).there hb) (pg.apt2 u v hu hv huv b hb)) (pg.apt u hu)
 . by_cases huv:u=v
   . subst huv;rw[gv];exact ya
   . rw[gs u huv];exact pg.apt u hu
 . by_cases h1:u=v
   . subst h1
     rw[gv,gs w (λhh=>huw hh.symm)]
     intro hb hw2
     rcases hin b hb with h2 | h2
     . exact pg.apt2 u w hu hw huw b h2 hw2
     . exact(pg.row w hw).there hw2 h2
   . by_cases h2:w=v
     . subst h2
       rw[gs u huw,gv]
       intro hb hw2
       rcases hin b hw2 with h3 | h3
       . exact pg.apt2 u w hu hw huw b hb h3
       . exact(pg.row u hu).there hb h3
     . rw[gs u h1,gs w h2];exact pg.apt2 u w hu hw huw b
theorem PV.setRow{v:Nat}{y:Sl}(pv:PV f bo ss n bv vis)(hsl:ss.length=n)(hv:v<n)(hfr:∀b,f b≠none->¬inB (ss.getD v zf) b->f2 b=f b)(hin:∀b,inB y b->inB (ss.getD v zf) b\/f b=none){cs:List Value} :
 PV (z06 f2 bo cs) bo (ss.set v y) n bv vis:=by
 have hb:f bv≠none:=by rw[pv.cells];simp
 refine⟨?_,pv.len,pv.ne,λu hu=>?_⟩
 . rw[Qu pv.ne,hfr bv hb (pv.apt v hv)];exact pv.cells
 . by_cases huv:u=v
   . subst huv
     rw[X2 (by omega)]
     intro hh
     rcases hin bv hh with h1 | h1
     . exact pv.apt u hu h1
     . exact hb h1
   . rw[Qi (λhh=>huv hh.symm)];exact pv.apt u hu
theorem PG.head(pg:PG D f g n O bo ss)(hB:Bk D h f){K:Addr->Prop}(H:∀p,g=some p->h.cell (p.add 0)=some (.slice (some ⟨bo,0,none⟩) n n)->K p):yu g K:=by
 obtain⟨p,rfl,hp⟩:=pg.ptr
 exact H p rfl (Hp.cell_le hB.le hp)
theorem PG.again(pg:PG D f g n O bo ss){f':BM}{h':Hp}{p:Addr}(hB:Bk D h' f')(e:g=some p):ldL .sl (p.add 0) (λx=>((.slice x.a x.len x.cap):Value)=((.slice (some ⟨bo,0,none⟩) n n):Value)) h':=by
 obtain⟨q,e2,hq⟩:=pg.ptr
 rw[e]at e2
 cases e2
 exact⟨⟨some ⟨bo,0,none⟩,n,n⟩,Hp.cell_le hB.le hq,rfl⟩
theorem PG.rowOf(pg:PG D f g n O bo ss)(hB:Bk D h f){v:Nat}(hv:v<n){K:Sl->Prop}(H:K (ss.getD v zf)) :
 yu g λp=>ldL (.sl) (p.add 0) (λx=>zg x (v:Int) 1 λa=>ldL (.sl) a (λy=>K y) h) h:=by
 refine pg.head hB λp _ hp=>⟨⟨some ⟨bo,0,none⟩,n,n⟩,hp,zee hv ?_⟩
 exact hB.ld (l:=.sl) pg.out (zul (by rw[pg.slen];exact hv)) H
theorem zav{v:Nat}{Ki:Int->Hp->Prop}(pg:PG D f g n O bo ss)(hB:Bk D h f)(hv:v<n)(h2:(O.getD v []).length<=2)(H:Ki (2-((O.getD v []).length:Int)) h):zc (F.y_pebble_game_free g (v:Int)) Ki h:=by
 refine Zf _ (λK' hk=>?_) H
 unfold F.y_pebble_game_free
 refine pg.rowOf hB hv (K:=λx4=>K' (i64.wrap (2-(x4.len:Int))) h) ?_
 have:=(pg.row v hv).1
 rw[List.length_map,Nat.mul_one]at this
 rw[this,w64 (by omega)];exact hk
theorem zvw{x:Sl}{xs:List Int}{i:Nat}{K:Sl->Hp->Prop}(ho:OS f 1 x (xs.map ic))(hB:Bk D h f)(hi:i<xs.length)(hlen:xs.length<=1000000)
 (H:∀y f' h',Bk D h' f'->OS f' 1 y ((xs.eraseIdx i).map ic)->(∀b,¬inB x b->f' b=f b)->(∀b,inB y b->inB x b)->K y h'):Y3 (F.qt x (i:Int) (i64.wrap ((i:Int)+1))) K h:=by
 refine Qh ?_
 unfold F.qt
 rw[w64 (by omega)]
 have hl:x.len=xs.length:=by have:=ho.1;simp at this;omega
 have hc:=ho.2.1
 have ha:∃a,x.a=some a:=by
  cases hxa:x.a with
  | none=>
    have h3:=ho.2.2
    rw[hxa]at h3
    simp only at h3
    omega
  | some a=>exact⟨a,rfl⟩
 refine⟨by omega,by omega,by omega,by omega,?_⟩
 refine zz (λh1=>by omega) (λ_=>?_)
 refine⟨by omega,by omega,by omega,⟨by omega,by omega,by omega,?_⟩⟩
 have e1:((i:Int)+1).toNat=i+1:=by omega
 have e2:((i:Int)).toNat=i:=rfl
 have e3:((x.len:Int)).toNat=x.len:=rfl
 have e0:((0:Int)).toNat=0:=rfl
 rw[e1,e2,e3,e0]
 have hr:=(ho.rd hB).cut (i+1) x.len (by omega) (by rw[List.length_map];omega) hc
 have hcl:(x.cut (i+1) x.len 1).len=x.len-(i+1):=rfl
 have hdl:(((xs.map ic).drop (i+1)).take (x.len-(i+1)))=(xs.drop (i+1)).map ic:=by
  rw[List.take_of_length_le (by simp;omega),List.map_drop]
 rw[hdl]at hr
 have hr2:=hr.2
 rw[List.length_map,List.length_drop]at hr2
 refine⟨_,by rw[hcl,Nat.mul_one,hl];exact hr2,?_⟩
 have hcut:=ho.cut (n:=i) (by omega)
 rw[Nat.mul_one,<-List.map_take]at hcut
 have hca:(x.cut 0 i 1).a=x.a:=zgz x i 1
 refine hcut.appF hB (by rw[hcl,List.length_map,List.length_drop,Nat.mul_one,hl]) (by rw[List.all_map];exact List.all_eq_true.2 λ_ _=>rfl) ?_ ?_ ?_ λf2 h2 hB2 ho2 hfr2=>?_
 . show(i-0+(x.len-(i+1)))*8<=_;omega
 . show i-0+(x.len-(i+1))<=_;omega
 . show i-0+(x.len-(i+1))<=x.cap-0;omega
 have hw:(i-0+(x.len-(i+1)))+1=x.len:=by omega
 have hcc:(x.cut 0 i 1).cap=x.cap:=Nat.sub_zero _
 have hll:(x.cut 0 i 1).len=i:=Nat.sub_zero _
 rw[<-List.map_append,<-List.eraseIdx_eq_take_drop_succ]at ho2
 have fr2:∀b,¬inB x b->f2 b=f b:=λb hb=>hfr2 b λhh=>hb (by obtain⟨a,h1,h2⟩:=hh;exact⟨a,by rw[<-hca];exact h1,h2⟩)
 refine⟨by omega,by show((((x.cut 0 i 1).len+(x.cut (i+1) x.len 1).len:Nat)):Int)<=_;rw[hll,hcl];omega,by show(x.len:Int)<=(((x.cut 0 i 1).cap:Nat):Int);rw[hcc];omega,?_⟩
 obtain⟨y,hy⟩:∃y:Sl,y=⟨(x.cut 0 i 1).a,(x.cut 0 i 1).len+(x.cut (i+1) x.len 1).len,(x.cut 0 i 1).cap⟩:=⟨_,rfl⟩
 rw[<-hy]at ho2 |-
 have hya:y.a=x.a:=by rw[hy];exact hca
 have hyl:y.len+1=x.len:=by rw[hy];show(x.cut 0 i 1).len+(x.cut (i+1) x.len 1).len+1=_;rw[hll,hcl];omega
 have hyc:y.cap=x.cap:=by rw[hy];exact hcc
 have hyin:∀b,inB y b->inB x b:=λb hh=>by obtain⟨a,h1,h2⟩:=hh;exact⟨a,by rw[<-hya];exact h1,h2⟩
 have e4:((y.len:Int)).toNat=y.len:=rfl
 refine⟨λh0=>?_,λh0=>?_⟩
 . exfalso
   have:(y.cut ((y.len:Int)).toNat ((x.len:Int)).toNat 1).len=x.len-y.len:=rfl
   rw[this]at h0;omega
 . have hlen1:(y.cut ((y.len:Int)).toNat ((x.len:Int)).toNat 1).len=1:=by show x.len-y.len=1;omega
   rw[hlen1]
   obtain⟨a,ha⟩:=ha
   have hne:y.cap≠y.len:=by omega
   have ea:(y.cut ((y.len:Int)).toNat ((x.len:Int)).toNat 1).a=some (a.add (y.len*1)):=by
    show(if y.cap=((y.len:Int)).toNat then y.a else y.a.map (·.add (((y.len:Int)).toNat*1)))=_
    rw[e4,if_neg hne,hya,ha];rfl
   rw[ea]
   have key:=ho2.spare (vs:=[.int .i64 0]) (k:=y.len) hB2 ⟨a,by rw[hya];exact ha⟩ (by rw[<-ho2.1];omega) (by show y.len+1<=_;omega) rfl (K:=K y) λf3 h3 hB3 ho3 hfr3=>
    H y f3 h3 hB3 ho3 (λb hb=>(hfr3 b λhh=>hb (hyin b hh)).trans (fr2 b hb)) hyin
   rw[hya,ha]at key
   simp only[stO]at key |-
   rw[Nat.mul_one,Zv]
   exact key
end
end Den
end

section
namespace Den
open Go Iv Lx
def unv(vis:List Bool):Nat:=vis.countP λb=>!b
theorem zvg{vis:List Bool}{a:Nat}(ha:a<vis.length)(hv:qf vis a=false):unv (vis.set a true)+1=unv vis:=by
 unfold unv
 induction vis generalizing a with
 | nil=>simp at ha
 | cons x l ih=>
   cases a with
   | zero=>
     have:x=false:=hv
     subst this
     simp
   | succ a=>
     have:=ih (a:=a) (by simpa using ha) hv
     rw[List.set_cons_succ,List.countP_cons,List.countP_cons]
     omega
theorem zdm{vis:List Bool}{a v:Nat}(ha:a<vis.length):qf (vis.set a true) v=(qf vis v||decide (v=a)):=by
 unfold qf
 by_cases h:v=a
 . subst h;rw[X2 ha];simp
 . rw[Qi (λhh=>h hh.symm)];simp[h]
theorem Z7i{vis:List Bool}{v:Nat}(h:v<vis.length):(vis.map Value.bool)[v]?=some (Value.bool (qf vis v)):=by
 unfold qf
 rw[List.getElem?_map,List.getElem?_eq_getElem h,List.getD_eq_getElem?_getD,List.getElem?_eq_getElem h];rfl
section
variable {D h : Hp} {f : BM} {g : Option Addr} {n bo bv : Nat} {O O1 : List (List Int)} {ss : List Sl} {vis : List Bool} {K : Bool → Hp → Prop}
theorem zve{a b i:Nat}(hB:Bk D h f)(pg:PG D f g n O1 bo ss)(pv:PV f bo ss n bv vis)(ha:a<n)(hb:b<n)(hab:a≠b)(hi:i<(O1.getD a []).length)(hla:(O1.getD a []).length<=2)(hlb:(O1.getD b []).length<=2)
 (H:∀h' f' ss',Bk D h' f'->PG D f' g n ((O1.set a ((O1.getD a []).eraseIdx i)).set b (O1.getD b []++[(a:Int)])) bo ss'->PV f' bo ss' n bv vis->K true h') :
 (yu g λp15=>
 (ldL (.sl) (p15.add 0) (λx16=>
 (yu g λp17=>
 (ldL (.sl) (p17.add 0) (λx18=>
 (zg x18 (a:Int) 1 λa19=>
 (ldL (.sl) a19 (λx20=>
 (Y3 (F.qt x20 (i:Int) (i64.wrap ((i:Int)+1))) (λr21 h5=>
 ((ldL (.sl) (p15.add 0) (λx22=>
 (((.slice x22.a x22.len x22.cap):Value)=((.slice x16.a x16.len x16.cap):Value))) h5) /\
 (zg x16 (a:Int) 1 λa22=>
 (stP a22 [.slice r21.a r21.len r21.cap] (λh6=>
 (yu g λp23=>
 (ldL (.sl) (p23.add 0) (λx24=>
 (yu g λp25=>
 (ldL (.sl) (p25.add 0) (λx26=>
 (zg x26 (b:Int) 1 λa27=>
 (ldL (.sl) a27 (λx28=>
 (Y5 1 8 [.int .i64 0] x28 1 [.int .i64 (a:Int)] (λw29 h7=>
 ((ldL (.sl) (p23.add 0) (λx30=>
 (((.slice x30.a x30.len x30.cap):Value)=((.slice x24.a x24.len x24.cap):Value))) h7) /\
 (zg x24 (b:Int) 1 λa30=>
 (stP a30 [.slice w29.a w29.len w29.cap] (λh8=>
 (K true h8)) h7)))) h6)) h6))) h6))) h6))) h5)))) h)) h))) h))) h)):=by
  have hsl:=pg.slen
  refine pg.head hB λp15 e15 c15=>⟨⟨some ⟨bo,0,none⟩,n,n⟩,c15,?_⟩
  refine pg.rowOf hB ha (K:=λx20=>Y3 _ _ h) ?_
  refine zvw (pg.row a ha) hB hi (by omega) λy f2 h2 hB2 ho2 hfr2 hin2=>?_
  have hf2:f2 bo=some (ss.map slV):=by rw[hfr2 bo (pg.apt a ha)];exact pg.out
  refine⟨pg.again hB2 e15,zee ha (hB2.st hf2 (vs:=[slV y]) (by simp;omega) rfl λh3 hB3=>?_)⟩
  rw[z2b (by omega)]at hB3
  have pg3:=pg.setRow (f2:=f2) (l:=(O1.getD a []).eraseIdx i) ha (λb _ hb=>hfr2 b hb) ho2 (λb hb=>.inl (hin2 b hb))
  have pv3:=pv.setRow (f2:=f2) (y:=y) hsl ha (λb _ hb=>hfr2 b hb) (λb hb=>.inl (hin2 b hb)) (cs:=(ss.set a y).map slV)
  have hsl3:=pg3.slen
  have eb:(O1.set a ((O1.getD a []).eraseIdx i)).getD b []=O1.getD b []:=Qi hab
  refine pg3.head hB3 λp23 e23 c23=>⟨⟨some ⟨bo,0,none⟩,n,n⟩,c23,?_⟩
  refine pg3.rowOf hB3 hb (K:=λx28=>Y5 1 8 [.int .i64 0] x28 1 [.int .i64 (a:Int)] _ h3) ?_
  have hrow:=pg3.row b hb
  rw[eb]at hrow
  have hrl:((ss.set a y).getD b zf).len=(O1.getD b []).length:=by have:=hrow.1;rw[List.length_map,Nat.mul_one]at this;exact this
  refine hrow.app hB3 (n:=1) (new:=[ic (a:Int)]) rfl rfl rfl (by omega) (by omega) λw f4 h4 hB4 ho4 hfr4 hin4=>?_
  rw[<-List.map_singleton (f:=ic),<-List.map_append]at ho4
  have hf4:f4 bo=some ((ss.set a y).map slV):=by rw[hfr4 bo (pg3.apt b hb) (by rw[pg3.out];simp)];exact pg3.out
  refine⟨pg3.again hB4 e23,zee hb (hB4.st hf4 (vs:=[slV w]) (by simp;omega) rfl λh5 hB5=>?_)⟩
  rw[z2b (by omega)]at hB5
  have pg5:=pg3.setRow (f2:=f4) (l:=O1.getD b []++[(a:Int)]) hb (λb hn hb=>hfr4 b hb hn) ho4 (λb hb=>(hin4 b hb).imp id And.left)
  have pv5:=pv3.setRow (f2:=f4) (y:=w) hsl3 hb (λb hn hb=>hfr4 b hb hn) (λb hb=>(hin4 b hb).imp id And.left) (cs:=((ss.set a y).set b w).map slV)
  exact H h5 _ _ hB5 pg5 pv5
def okO(n:Nat)(O:List (List Int)):Prop:=(∀v,v<n->(O.getD v []).length<=2)/\∀v,v<n->∀u∈O.getD v [],0<=u/\u<n
theorem zw7:∀(fuel:Nat) {D h:Hp} {f:BM} {g:Option Addr} {n bo bv:Nat} {O:List (List Int)} {ss:List Sl} {vis:List Bool} {K:Bool->Hp->Prop} {a:Nat},Bk D h f->PG D f g n O bo ss->PV f bo ss n bv vis->okO n O->a<n->qf vis a=false->unv vis<=fuel ->
 (∀r h' f' O' ss' vis',Bk D h' f'->PG D f' g n O' bo ss'->PV f' bo ss' n bv vis'->FP n O vis a r O' vis'->(r=false->ss'=ss)->K r h')->F.y_pebble_game_fetch_ fuel g (a:Int) ⟨some ⟨bv,0,none⟩,n,n⟩ K h:=by
 intro fuel
 induction fuel with
 | zero=>
   intro D h f g n bo bv O ss vis K a hB pg pv hO ha hva hfu H
   have:=zvg (by rw[pv.len];exact ha) hva
   omega
 | succ fuel ih=>
   intro D h f g n bo bv O ss vis K a hB pg pv hO ha hva hfu H
   unfold F.y_pebble_game_fetch_
   have hvl:=pv.len
   have hsl:=pg.slen
   refine zee ha (hB.st pv.cells (vs:=[Value.bool true]) (by simp;omega) rfl λh1 hB1=>?_)
   rw[z2b (by omega)]at hB1
   have pg1:=pg.other (cs:=(vis.set a true).map Value.bool) pv.ne pv.apt
   have pv1:PV (z06 f bv ((vis.set a true).map Value.bool)) bo ss n bv (vis.set a true):=⟨Z3,by rw[List.length_set];exact hvl,pv.ne,pv.apt⟩
   have hun:=zvg (by omega) hva
   refine pg1.rowOf hB1 ha (K:=λx5=>zr _ _ h1) ?_
   have hrl:(ss.getD a zf).len=(O.getD a []).length:=by have:=(pg1.row a ha).1;rw[List.length_map,Nat.mul_one]at this;exact this
   have h2a:=hO.1 a ha
   refine Y0 (n:=(O.getD a []).length) (by omega) (λi h'=>∃f' vis',Bk D h' f'/\PG D f' g n O bo ss/\PV f' bo ss n bv vis'/\(∀v,qf vis v=true->qf vis' v=true)/\qf vis' a=true /\
    (∀j (hj:j<(O.getD a []).length),j<i->qf vis' ((O.getD a [])[j]).toNat=true)/\(∀v,qf vis' v=true->qf vis v=false->v≠a->(∀u∈O.getD v [],qf vis' u.toNat=true)/\(O.getD v []).length=2)/\unv vis'<=fuel)
    ⟨_,_,hB1,pg1,pv1,λv hv=>by rw[zdm (by omega),hv];rfl,by rw[zdm (by omega)];simp,λj _ hj=>by omega,λv hv hv2 hva2=>by rw[zdm (by omega),hv2]at hv;simp at hv;exact absurd hv hva2,by omega⟩ ?_
   rintro i h2 hi ⟨f2,vis2,hB2,pg2,pv2,hsub,hav,hno,hcl,hun2⟩ k hk
   have hvl2:=pv2.len
   refine ze (λh3=>?_) (λh3=>?_)
   . have hi':i<(O.getD a []).length:=by simp only at h3;omega
     have hIL:IL h2 (ss.getD a zf) (O.getD a []):=⟨(pg2.row a ha).rd hB2,(pg2.row a ha).2.1⟩
     obtain⟨J,hJ⟩:∃J:Unit->Hp->Prop,∀s h',J s h'↔∃f' vis',Bk D h' f'/\PG D f' g n O bo ss/\PV f' bo ss n bv vis'/\(∀v,qf vis v=true->qf vis' v=true)/\qf vis' a=true /\
      (∀j (hj:j<(O.getD a []).length),j<i+1->qf vis' ((O.getD a [])[j]).toNat=true)/\(∀v,qf vis' v=true->qf vis v=false->v≠a->(∀u∈O.getD v [],qf vis' u.toNat=true)/\(O.getD v []).length=2)/\unv vis'<=fuel:=⟨_,λ_ _=>Iff.rfl⟩
     refine zk J (λs h' hs=>hk _ hi' ((hJ s h').1 hs)) ?_
     refine hIL.get i rfl hi' ?_
     obtain⟨b,hb⟩:∃b:Nat,(O.getD a [])[i]=(b:Int):=⟨((O.getD a [])[i]).toNat,by have:=hO.2 a ha _ (List.getElem_mem hi');omega⟩
     have hbr:=hO.2 a ha _ (List.getElem_mem hi')
     rw[hb]at hbr |-
     have hbn:b<n:=by omega
     refine zee hbn (hB2.ld (l:=.bool) pv2.cells (Z7i (by omega)) ?_)
     refine zp (λhvb=>(hJ _ _).2 ⟨f2,vis2,hB2,pg2,pv2,hsub,hav,λj hj hji=>?_,hcl,hun2⟩) (λhvb=>?_)
     . rcases Nat.lt_or_ge j i with h5 | h5
       . exact hno j hj h5
       . have:j=i:=by omega
         subst this
         rw[hb];exact hvb
     have hab:a≠b:=λhh=>by rw[<-hh,hav]at hvb;cases hvb
     refine zav pg2 hB2 hbn (hO.1 b hbn) ?_
     have h2b:=hO.1 b hbn
     refine ze (λh5=>?_) (λh5=>?_)
     . refine zve hB2 pg2 pv2 ha hbn hab hi' h2a h2b λh' f' ss' hB' pg' pv'=>H true h' f' _ ss' vis2 hB' pg' pv' ?_ (λhh=>by cases hh)
       refine FP.turn (vis1:=vis) pg.olen hO.1 hO.2 pg.olen pv2.len (λX=>rfl) ha hbn hab ?_ (λv _=>rfl) hi' hb (by omega)
       cases hh:qf vis b with
       | false=>rfl
       | true=>rw[hsub b hh]at hvb;cases hvb
     . have hlb:(O.getD b []).length=2:=by omega
       refine Qh (ih hB2 pg2 pv2 hO hbn hvb hun2 λr h6 f6 O6 ss6 vis6 hB6 pg6 pv6 hfp hss=>?_)
       have hvb0:qf vis b=false:=by
        cases hh:qf vis b with
        | false=>rfl
        | true=>rw[hsub b hh]at hvb;cases hvb
       cases r with
       | true=>
         refine y7 rfl ?_
         obtain⟨p1,p2,p3,p4,p5,p6,p7⟩:=hfp
         have ea:O6.getD a []=O.getD a []:=p7 a hav hab
         refine zve hB6 pg6 pv6 ha hbn hab (by rw[ea];exact hi') (p3 a ha) (p3 b hbn) λh' f' ss' hB' pg' pv'=>H true h' f' _ ss' vis6 hB' pg' pv' ?_ (λhh=>by cases hh)
         refine FP.turn (vis1:=vis) pg.olen p3 p4 p1 p2 p5 ha hbn hab hvb0 (λv hv=>?_) hi' hb (by omega)
         rcases hv with hv | rfl
         . exact p7 v (hsub v hv) (λhh=>by rw[hh,hvb0]at hv;cases hv)
         . exact ea
       | false=>
         obtain⟨p1,p2,rfl,p4,p5,p6⟩:=hfp
         have:=hss rfl
         subst this
         refine zt rfl ((hJ _ _).2 ⟨f6,vis6,hB6,pg6,pv6,λv hv=>p4 v (hsub v hv),p4 a hav,λj hj hji=>?_,λv hv hv2 hva2=>?_,?_⟩)
         . rcases Nat.lt_or_ge j i with h5 | h5
           . exact p4 _ (hno j hj h5)
           . have:j=i:=by omega
             subst this
             rw[hb];exact p5
         . cases hv3:qf vis2 v with
           | true=>
             have:=hcl v hv3 hv2 hva2
             exact⟨λu hu=>p4 _ (this.1 u hu),this.2⟩
           | false=>
             have:=p6 v hv hv3
             refine⟨this.1,?_⟩
             by_cases hvb':v=b
             . subst hvb';exact hlb
             . exact this.2 hvb'
         . refine Nat.le_trans ?_ hun2
           have h7:∀(l m:List Bool),l.length=m.length->(∀v,qf l v=true->qf m v=true)->unv m<=unv l:=by
            intro l
            induction l with
            | nil=>intro m hm _;cases m with | nil=>exact Nat.le_refl _ | cons x m=>simp at hm
            | cons x l ih2=>
              intro m hm hv
              cases m with
              | nil=>simp at hm
              | cons y m=>
                have h8:=ih2 m (by simpa using hm) λv=>hv (v+1)
                have h9:=hv 0
                unfold unv qf at *
                rw[List.countP_cons,List.countP_cons]
                simp only[List.getD_cons_zero]at h9
                cases x<;>cases y<;>simp at h9 |-<;>omega
           exact h7 vis2 vis6 (by omega) p4
   . have hi':i=(O.getD a []).length:=by simp only at h3;omega
     refine H false h2 f2 O ss vis2 hB2 pg2 pv2 ⟨pg.olen,hvl2,rfl,hsub,hav,λv hv hv2=>?_⟩ (λ_=>rfl)
     by_cases hva2:v=a
     . subst hva2
       refine⟨λu hu=>?_,λhh=>absurd rfl hh⟩
       obtain⟨j,hj,rfl⟩:=List.mem_iff_getElem.1 hu
       exact hno j hj (by omega)
     . have:=hcl v hv hv2 hva2
       exact⟨this.1,λ_=>this.2⟩
theorem zs3{a:Nat}(hB:Bk D h f)(pg:PG D f g n O bo ss)(pv:PV f bo ss n bv vis)(hO:okO n O)(ha:a<n)(hva:qf vis a=false)
 (H:∀r h' f' O' ss' vis',Bk D h' f'->PG D f' g n O' bo ss'->FP n O vis a r O' vis'->K r h'):Y3 (F.y_pebble_game_fetch g (a:Int) ⟨some ⟨bv,0,none⟩,n,n⟩) K h:=by
 refine Qh ?_
 unfold F.y_pebble_game_fetch
 exact⟨unv vis,zw7 _ hB pg pv hO ha hva (Nat.le_refl _) λr h' f' O' ss' vis' h1 h2 _ h3 _=>H r h' f' O' ss' vis' h1 h2 h3⟩
end
end Den
end

section
namespace Den
theorem Z5i{n:Nat}{X:Int->Bool}:szX (n+1) X=szX n X+(if X (n:Int)then 1 else 0):=by
 unfold szX
 rw[List.range_succ,List.countP_append,List.countP_singleton]
theorem zpb{n:Nat}{X:Int->Bool}{a b:Int}(ha:0<=a/\a<n)(hb:0<=b/\b<n)(hab:a≠b)(xa:X a=true)(xb:X b=true):2<=szX n X:=by
 obtain⟨a',rfl⟩:∃a':Nat,a=a':=⟨a.toNat,by omega⟩
 obtain⟨b',rfl⟩:∃b':Nat,b=b':=⟨b.toNat,by omega⟩
 unfold szX
 exact ztz (p:=λi:Nat=>X (i:Int)) (by omega) (by omega) (λhh=>hab (by rw[hh])) xa xb
theorem Xu.add{n:Nat}{es:List (Int×Int)}{a b:Int}(h:Xu n es)(hE:∀e∈es,0<=e.1/\e.1<e.2/\e.2<n)(ha:0<=a/\a<n)(hb:0<=b/\b<n)(hab:a≠b) :
 Xu (n+1) (es++[(a,(n:Int)),(b,(n:Int))]):=λX hX=>by
 have e:z2q (es++[(a,(n:Int)),(b,(n:Int))]) X=z2q es X+(if X a&&X (n:Int)then 1 else 0)+(if X b&&X (n:Int)then 1 else 0):=by
  rw[show es++[(a,(n:Int)),(b,(n:Int))]=(es++[(a,(n:Int))])++[(b,(n:Int))]by simp,zar,zar]
 rw[Z5i]at hX |-
 rw[e]
 cases hn:X (n:Int)with
 | false=>
   rw[hn]at hX
   simp only[Bool.and_false,Bool.false_eq_true,if_false,Nat.add_zero]at hX |-
   exact h X hX
 | true=>
   rw[hn]at hX
   simp only[Bool.and_true,if_true]at hX |-
   by_cases h2:2<=szX n X
   . have:=h X h2
     split<;>split<;>omega
   . have h0:z2q es X=0:=by
      unfold z2q
      rw[List.countP_eq_zero]
      intro e he hx
      rw[Bool.and_eq_true]at hx
      have:=hE e he
      exact h2 (zpb ⟨this.1,by omega⟩ ⟨by omega,this.2.2⟩ (by omega) hx.1 hx.2)
     rw[h0]
     cases xa:X a<;>cases xb:X b<;>simp only[Bool.false_eq_true,if_false,if_true]
     . omega
     . omega
     . omega
     . exact absurd (zpb ha hb hab xa xb) h2
theorem Xu.bar:Xu 2 [(0,1)]:=λX hX=>by
 have:z2q [(0,1)] X<=1:=by unfold z2q;exact List.countP_le_length
 omega
theorem zyl{q:Nat->Bool}:∀{m:Nat} {J:List Int},(∀a,J.count a<=1)->(∀a∈J,0<=a/\a<m/\q a.toNat=true)->J.length<=(List.range m).countP q
 | 0,J,_,h=>by
   cases J with
   | nil=>simp
   | cons a J=>have:=h a (List.mem_cons_self ..);omega
 | m+1,J,h1,h2=>by
   have hl:=List.length_eq_countP_add_countP (λa:Int=>a==(m:Int)) (l:=J)
   have hc:=h1 (m:Int)
   have ih:=zyl (q:=q) (m:=m) (J:=J.filter λa=>!(a==(m:Int))) (λa=>Nat.le_trans (List.filter_sublist.count_le a) (h1 a)) (λa ha=>by
    have h3:=List.mem_filter.1 ha
    have h4:=h2 a h3.1
    have h5:a≠(m:Int):=by simpa using h3.2
    exact⟨h4.1,by omega,h4.2.2⟩)
   rw[<-List.countP_eq_length_filter]at ih
   have e1:J.countP (λa:Int=>a==(m:Int))=J.count (m:Int):=rfl
   have e2:J.countP (λa:Int=>decide ¬(a==(m:Int))=true)=J.countP λa=>!(a==(m:Int)):=List.countP_congr λa _=>by simp
   rw[List.range_succ,List.countP_append,List.countP_singleton]
   by_cases hm:(m:Int)∈J
   . have:=(h2 _ hm).2.2
     rw[show((m:Int)).toNat=m from rfl]at this
     rw[this,if_pos rfl]
     omega
   . have h0:J.count (m:Int)=0:=List.count_eq_zero.2 hm
     omega
end Den
end

section
namespace Den
open Go Iv Lx
section
variable {D h : Hp} {f f2 : BM} {g : Option Addr} {n bo bv : Nat} {O O1 : List (List Int)} {ss : List Sl} {es : List (Int × Int)} {Kb : Bool → Hp → Prop} {Ki : Int → Hp → Prop}
theorem PG.mono{D':Hp}(pg:PG D f g n O bo ss)(hl:D.le D'):PG D' f g n O bo ss:=by
 obtain⟨p,h1,h2⟩:=pg.ptr
 exact⟨⟨p,h1,Hp.cell_le hl h2⟩,pg.slen,pg.olen,pg.out,pg.row,pg.apt,pg.apt2⟩
theorem PG.congr(pg:PG D f g n O bo ss)(h1:f2 bo=f bo)(h2:∀v,v<n->∀b,inB (ss.getD v zf) b->f2 b=f b):PG D f2 g n O bo ss:=
 ⟨pg.ptr,pg.slen,pg.olen,h1.trans pg.out,λv hv=>(pg.row v hv).congr (h2 v hv),pg.apt,pg.apt2⟩
theorem GI.okO(hg:GI n O es):okO n O:=⟨hg.two,hg.rng⟩
theorem zxf(n:Nat):ye n [Value.bool false]=(List.replicate n false).map Value.bool:=by
 unfold ye
 simp
theorem Z7j(n v:Nat):qf (List.replicate n false) v=false:=by
 unfold qf
 rw[List.getD_eq_getElem?_getD,List.getElem?_replicate]
 split<;>rfl
theorem zhc{p q:Nat}{e:Int×Int}{k5:Unit->Hp->Prop}(hB:Bk D h f)(pg:PG D f g n O bo ss)(hg:GI n O es)(hs:Xu n (es++[e]))(he:e=((p:Int),(q:Int))\/e=((q:Int),(p:Int)))(hp:p<n)(hq:q<n)(hpq:p≠q)(hn:n<=1000000)
 (H:∀h' f' O' ss',Bk D h' f'->PG D f' g n O' bo ss'->GI n O' es->O'.getD p []=[]->O'.getD q []=O.getD q []->k5 () h') :
 zr (S:=Unit) (λs8 k9 h4=>
 (zc (F.y_pebble_game_free g (p:Int)) (λr10 h5=>
 (ifP (decide (r10<2))
 (yu g λp11=>
 (ldL (.sl) (p11.add 0) (λx12=>
 (mkP (x12.len:Int) (x12.len:Int) 1 [.bool false] (λm13 h6=>
 (zg m13 (q:Int) 1 λa14=>
 (stP a14 [.bool true] (λh7=>
 (Y3 (F.y_pebble_game_fetch g (p:Int) m13) (λr15 h8=>
 (ifP (!r15)
 (k5 () h8)
 (k9 () h8))) h7)) h6))) h5)) h5))
 (k5 () h5))) h4))
      () h:=by
  refine zd3 (λm _ h'=>∃f' O' ss',Bk D h' f'/\PG D f' g n O' bo ss'/\GI n O' es/\O'.getD q []=O.getD q []/\m=(O'.getD p []).length) ⟨f,O,ss,hB,pg,hg,rfl,rfl⟩ ?_
  rintro m _ h1 ⟨f1,O1,ss1,hB1,pg1,hg1,hq1,rfl⟩ K9 hK9
  have h2:=hg1.two p hp
  refine zav pg1 hB1 hp h2 ?_
  refine ze (λh3=>?_) (λh3=>?_)
  . refine pg1.head hB1 λp11 e11 c11=>⟨⟨some ⟨bo,0,none⟩,n,n⟩,c11,?_⟩
    refine hB1.mkF n n rfl rfl (Nat.le_refl _) (by omega) (by omega) λbv h6 hbv hDv hB6=>?_
    rw[zxf]at hB6
    have hbo:bv≠bo:=λhh=>by rw[hh,pg1.out]at hbv;cases hbv
    have hrow:∀v,v<n->¬inB (ss1.getD v zf) bv:=λv hv hh=>(pg1.row v hv).there hh hbv
    have pg6:=pg1.other (cs:=(List.replicate n false).map Value.bool) hbo hrow
    refine zee hq (hB6.st Z3 (vs:=[Value.bool true]) (by simp;omega) rfl λh7 hB7=>?_)
    rw[z2b (by simp;omega),zf0]at hB7
    have pg7:=pg1.other (cs:=((List.replicate n false).set q true).map Value.bool) hbo hrow
    have pv7:PV (z06 f1 bv (((List.replicate n false).set q true).map Value.bool)) bo ss1 n bv ((List.replicate n false).set q true):=⟨Z3,by simp,hbo,hrow⟩
    have vs:∀v,qf ((List.replicate n false).set q true) v=decide (v=q):=λv=>by
     rw[zdm (by simp;omega),Z7j];simp
    refine zs3 hB7 pg7 pv7 hg1.okO hp (by rw[vs];simp[hpq]) λr h8 f8 O8 ss8 vis8 hB8 pg8 hfp=>?_
    cases r with
    | false=>
      have:=zo1 hg1 hs he hp hq hpq (λv=>by rw[vs];simp) hfp
      omega
    | true=>
      have hg8:=hg1.fetched hfp
      obtain⟨p1,p2,p3,p4,p5,p6,p7⟩:=hfp
      refine zt rfl (hK9 _ _ _ ?_ ⟨f8,O8,ss8,hB8,pg8,hg8,?_,rfl⟩)
      . omega
      . rw[p7 q (by rw[vs];simp) (λhh=>hpq hh.symm)];exact hq1
  . exact H h1 f1 O1 ss1 hB1 pg1 hg1 (List.eq_nil_of_length_eq_zero (by omega)) hq1
theorem zo7{a b:Nat}(hB:Bk D h f)(pg:PG D f g n O bo ss)(hg:GI n O es)(hs:Xu n (es++[((a:Int),(b:Int))]))(ha:a<n)(hb:b<n)(hab:a≠b)(hn:n<=1000000)
 (H:∀D' h' f' O' ss',D.le D'->Bk D' h' f'->PG D' f' g n O' bo ss'->GI n O' es->O'.getD a []=[]->O'.getD b []=[]->Ki 4 h'):Y3 (F.y_pebble_game_gather g (a:Int) (b:Int)) Ki h:=by
 refine Qh ?_
 unfold F.y_pebble_game_gather
 refine hB.newD λb1 D1 h1 _ hl1 c1 hB1=>?_
 refine Y0 (n:=2) (by omega) (λi h'=>∃f' O' ss',Bk D1 h' f'/\PG D1 f' g n O' bo ss'/\GI n O' es/\(0<i->O'.getD a []=[])/\(1<i->O'.getD b []=[])) ⟨f,O,ss,hB1,pg.mono hl1,hg,by omega,by omega⟩ ?_
 rintro i h2 hi ⟨f2,O2,ss2,hB2,pg2,hg2,z1,z2⟩ k hk
 refine ze (λh3=>?_) (λh3=>?_)
 . have hi':i<2:=by have:(i:Int)<((2:Nat):Int):=h3;omega
   obtain⟨J,hJ⟩:∃J:Unit->Hp->Prop,∀s h',J s h'↔∃f' O' ss',Bk D1 h' f'/\PG D1 f' g n O' bo ss'/\GI n O' es/\(0<i+1->O'.getD a []=[])/\(1<i+1->O'.getD b []=[]):=⟨_,λ_ _=>Iff.rfl⟩
   refine zk J (λs h' hs=>hk _ hi' ((hJ s h').1 hs)) ?_
   refine zhf hi' ?_
   have cl:∀j v,[Value.int .i64 (a:Int),.int .i64 (b:Int),.int .i64 (b:Int),.int .i64 (a:Int)][i*2+j]?=some v->h2.cell ((⟨b1,0+i*2,none⟩:Addr).add j)=some v:=λj v hv=>by
    rw[z0l,Nat.zero_add];exact Hp.cell_le hB2.le (c1 _ v hv)
   rcases(by omega:i=0\/i=1)with rfl | rfl
   . refine⟨(a:Int),cl 0 _ rfl,(b:Int),cl 1 _ rfl,?_⟩
     exact zhc hB2 pg2 hg2 hs (.inl rfl) ha hb hab hn λh' f' O' ss' hB' pg' hg' e1 _=>(hJ _ _).2 ⟨f',O',ss',hB',pg',hg',λ_=>e1,by omega⟩
   . refine⟨(b:Int),cl 0 _ rfl,(a:Int),cl 1 _ rfl,?_⟩
     exact zhc hB2 pg2 hg2 hs (.inr rfl) hb ha (λhh=>hab hh.symm) hn λh' f' O' ss' hB' pg' hg' e1 e2=>(hJ _ _).2 ⟨f',O',ss',hB',pg',hg',λ_=>by rw[e2];exact z1 (by omega),λ_=>e1⟩
 . have:i=2:=by have:¬(i:Int)<((2:Nat):Int):=h3;omega
   subst this
   have z1:=z1 (by omega)
   have z2:=z2 (by omega)
   refine zav pg2 hB2 ha (by rw[z1];simp) (zav pg2 hB2 hb (by rw[z2];simp) ?_)
   rw[z1,z2]
   exact H D1 h2 f2 O2 ss2 hl1 hB2 pg2 hg2 z1 z2
theorem zf2{a b:Nat}(hB:Bk D h f)(pg:PG D f g n O bo ss)(hg:GI n O es)(hs:Xu n (es++[((a:Int),(b:Int))]))(ha:a<n)(hb:b<n)(hab:a≠b)(hn:n<=1000000)
 (H:∀D' h' f' O' ss',D.le D'->Bk D' h' f'->PG D' f' g n O' bo ss'->GI n O' (es++[((a:Int),(b:Int))])->Kb true h'):F.y_pebble_game_accept g (a:Int) (b:Int) Kb h:=by
 unfold F.y_pebble_game_accept
 refine zo7 hB pg hg hs ha hb hab hn λD1 h1 f1 O1 ss1 hl1 hB1 pg1 hg1 z1 z2=>?_
 refine zt rfl ?_
 refine pg1.head hB1 λp2 e2 c2=>⟨⟨some ⟨bo,0,none⟩,n,n⟩,c2,?_⟩
 refine pg1.rowOf hB1 ha (K:=λx7=>Y5 1 8 [.int .i64 0] x7 1 [.int .i64 (b:Int)] _ h1) ?_
 have hrow:=pg1.row a ha
 rw[z1]at hrow
 have hsl:=pg1.slen
 have hrl:(ss1.getD a zf).len=0:=by have:=hrow.1;rw[Nat.mul_one]at this;exact this
 refine hrow.app hB1 (n:=1) (new:=[ic (b:Int)]) rfl rfl rfl (by omega) (by omega) λw f4 h4 hB4 ho4 hfr4 hin4=>?_
 have hf4:f4 bo=some (ss1.map slV):=by rw[hfr4 bo (pg1.apt a ha) (by rw[pg1.out];simp)];exact pg1.out
 refine⟨pg1.again hB4 e2,zee ha (hB4.st hf4 (vs:=[slV w]) (by simp;omega) rfl λh5 hB5=>?_)⟩
 rw[z2b (by omega)]at hB5
 have pg5:=pg1.setRow (f2:=f4) (l:=O1.getD a []++[(b:Int)]) ha (λb hn hb=>hfr4 b hb hn) (by rw[z1];exact ho4) (λb hb=>(hin4 b hb).imp id And.left)
 exact H D1 h5 _ _ _ hl1 hB5 pg5 (hg1.accept ha hb (by rw[z1];simp))
theorem zj1{a b:Nat}{s:Sl}{cs:List Value}(hB:Bk D h f)(pg:PG D f g n O bo ss)(ho:OS f 1 s cs)(hap:∀k,inB s k->k≠bo/\∀v,v<n->¬inB (ss.getD v zf) k)(hg:GI n O es)(hs:Xu n (es++[((a:Int),(b:Int))]))(ha:a<n)(hb:b<n)(hab:a≠b)(hn:n<=1000000)
 (H:∀D' h' f' O' ss',D.le D'->Bk D' h' f'->PG D' f' g n O' bo ss'->OS f' 1 s cs->(∀k,inB s k->k≠bo/\∀v,v<n->¬inB (ss'.getD v zf) k)->GI n O' (es++[((a:Int),(b:Int))])->Kb true h'):Y3 (F.y_pebble_game_accept g (a:Int) (b:Int)) Kb h:=by
 cases hsa:s.a with
 | none=>
   have nin:∀k,¬inB s k:=λk hh=>by obtain⟨x,h1,_⟩:=hh;rw[hsa]at h1;cases h1
   refine Qh (zf2 hB pg hg hs ha hb hab hn λD' h' f' O' ss' h1 h2 h3 h4=>H D' h' f' O' ss' h1 h2 h3 ?_ (λk hk=>absurd hk (nin k)) h4)
   exact ho.congr λk hk=>absurd hk (nin k)
 | some A=>
   have hin:inB s A.block:=⟨A,hsa,rfl⟩
   have hap1:=hap _ hin
   obtain⟨bs,hbs⟩:∃bs,f A.block=some bs:=by
    cases hh:f A.block with
    | none=>exact absurd hh (ho.there hin)
    | some bs=>exact⟨bs,rfl⟩
   have only:∀k,inB s k->k=A.block:=λk hk=>by obtain⟨x,h1,h2⟩:=hk;rw[hsa]at h1;cases h1;exact h2.symm
   refine hB.out hbs (K1:=λr h1=>r=true/\∃D' f' O' ss',D.le D'/\Bk D' h1 f'/\PG D' f' g n O' bo ss'/\GI n O' (es++[((a:Int),(b:Int))])) (λhB0=>?_) ?_
   . have pg0:PG D (λk=>if k=A.block then none else f k) g n O bo ss:=pg.congr (if_neg (λhh=>hap1.1 hh.symm)) λv hv k hk=>if_neg λhh=>hap1.2 v hv (by rw[<-hh];exact hk)
     exact zf2 hB0 pg0 hg hs ha hb hab hn λD' h' f' O' ss' h1 h2 h3 h4=>⟨rfl,D',f',O',ss',h1,h2,h3,h4⟩
   . rintro r h1 ⟨rfl,D',f',O',ss',g1,g2,g3,g4⟩ hback
     obtain⟨k1,k2,k3⟩:=hback D' f' g2
     have hbo:A.block≠bo:=hap1.1
     have hrw:∀v,v<n->¬inB (ss'.getD v zf) A.block:=λv hv hh=>(g3.row v hv).there hh k2
     refine H D' _ _ O' ss' g1 k1 (g3.other hbo hrw) ?_ (λk hk=>by rw[only k hk];exact⟨hbo,hrw⟩) g4
     refine ho.congr λk hk=>?_
     rw[only k hk,Z3,hbs]
theorem zt7{K:Option Addr->Hp->Prop}(hn:n<=1000000)(H:∀g D' h' f' bo,h.le D'->Bk D' h' f'->PG D' f' g n (List.replicate n []) bo (List.replicate n zf)->K g h'):zc (F.z5i (n:Int)) K h:=by
 refine zd (λg h'=>∃D' f' bo,h.le D'/\Bk D' h' f'/\PG D' f' g n (List.replicate n []) bo (List.replicate n zf)) (λK' hk=>?_) λg h' _ ⟨D',f',bo,h1,h2,h3⟩=>H g D' h' f' bo h1 h2 h3
 unfold F.z5i
 refine(Bk.start (h:=h)).mkF n n rfl rfl (Nat.le_refl _) (by omega) (by omega) λbo h1 hbo hDo hB1=>?_
 refine hB1.newD λp D2 h2 _ hl2 c2 hB2=>hk _ _ (Hp.le_trans hl2 hB2.le) ⟨D2,_,bo,hl2,hB2,?_⟩
 have gn:∀v,(List.replicate n zf).getD v zf=zf:=λv=>by
  rw[List.getD_eq_getElem?_getD,List.getElem?_replicate];split<;>rfl
 have ge:∀v,(List.replicate n ([]:List Int)).getD v []=[]:=λv=>by
  rw[List.getD_eq_getElem?_getD,List.getElem?_replicate];split<;>rfl
 refine⟨⟨_,rfl,?_⟩,by simp,by simp,?_,λv hv=>?_,λv hv hh=>?_,λu v hu hv huv b hb=>?_⟩
 . rw[z0l];exact c2 0 _ rfl
 . rw[Z3]
   congr 1
   unfold ye slV
   simp[zf]
 . rw[gn,ge];exact OS.nil
 . rw[gn]at hh;obtain⟨_,h5,_⟩:=hh;cases h5
 . rw[gn]at hb;obtain⟨_,h5,_⟩:=hb;cases h5
theorem zxi(i:Nat):zbc (i+1)=zbc i++[(i:Int)]:=by
 unfold zbc
 rw[List.range_succ,List.map_append];rfl
theorem zdg(i:Nat):(zbc i).length=i:=by simp[zbc]
def okE(n:Nat)(es:List (Int×Int)):Prop:=∀e∈es,0<=e.1/\e.1<n/\0<=e.2/\e.2<n/\e.1≠e.2
theorem zkf{l:Sl}{K:Sl×Option Addr->Hp->Prop}(hl:LR a2c 2 A2P h l es)(he:okE n es)(hs:Xu n es)(hn:n<=1000000)(hlen:es.length<=1000000)(H:∀r h',h.le h'->IL h' r.1 (zbc es.length)->K r h'):zc (F.z4p (n:Int) l) K h:=by
 refine zd (λr h'=>IL h' r.1 (zbc es.length)) (λK' hk=>?_) λr h' hl hr=>H r h' hl hr
 unfold F.z4p
 have hll:=hl.len y9
 refine zt7 hn λg D1 h1 f1 bo hl1 hB1 pg1=>?_
 refine Yt (n:=es.length) (by omega) (λi s h'=>∃D' f' O' ss',h.le D'/\Bk D' h' f'/\PG D' f' g n O' bo ss'/\OS f' 1 s ((zbc i).map ic)/\(∀k,inB s k->k≠bo/\∀v,v<n->¬inB (ss'.getD v zf) k)/\GI n O' (es.take i))
  ⟨D1,f1,_,_,hl1,hB1,pg1,OS.nil,(λk hk=>by obtain⟨_,h5,_⟩:=hk;cases h5),GI.start n⟩ ?_
 rintro i s h2 hi ⟨D2,f2,O2,ss2,hl2,hB2,pg2,ho2,hap2,hg2⟩ k hk2
 refine ze (λh3=>?_) (λh3=>?_)
 . have hi':i<es.length:=by simp only at h3;omega
   obtain⟨J,hJ⟩:∃J:Sl×Unit->Hp->Prop,∀s h',J s h'↔∃D' f' O' ss',h.le D'/\Bk D' h' f'/\PG D' f' g n O' bo ss'/\OS f' 1 s.1 ((zbc (i+1)).map ic)/\(∀k,inB s.1 k->k≠bo/\∀v,v<n->¬inB (ss'.getD v zf) k)/\GI n O' (es.take (i+1)):=⟨_,λ_ _=>Iff.rfl⟩
   refine zk J (λs h' hs=>hk2 _ _ hi' ((hJ s h').1 hs)) ?_
   refine(hl.le y9 (Hp.le_trans hl2 hB2.le)).get y9 i rfl hi' λa x hx hc=>⟨_,hc 0 _ rfl,_,hc 1 _ rfl,?_⟩
   obtain⟨x1,x2⟩:=hx
   have her:=he _ (List.getElem_mem hi')
   obtain⟨p,hp⟩:∃p:Nat,es[i].1=(p:Int):=⟨es[i].1.toNat,by omega⟩
   obtain⟨q,hq⟩:∃q:Nat,es[i].2=(q:Int):=⟨es[i].2.toNat,by omega⟩
   rw[x1,x2,hp,hq]
   have ee:es[i]=((p:Int),(q:Int)):=Prod.ext hp hq
   have et:es.take (i+1)=es.take i++[((p:Int),(q:Int))]:=by rw[<-ee,List.take_append_getElem hi']
   refine zj1 hB2 pg2 ho2 hap2 hg2 (hs.sub (by rw[<-et];exact List.take_sublist _ _)) (by omega) (by omega) (by omega) hn λD4 h4 f4 O4 ss4 hl4 hB4 pg4 ho4 hap4 hg4=>?_
   refine y7 rfl ?_
   have hsl:s.len=i:=by have:=ho4.1;rw[List.length_map,zdg,Nat.mul_one]at this;exact this
   refine ho4.app hB4 (n:=1) (new:=[ic (i:Int)]) rfl rfl rfl (by omega) (by omega) λw f5 h5 hB5 ho5 hfr5 hin5=>(hJ _ _).2 ⟨D4,f5,O4,ss4,Hp.le_trans hl2 hl4,hB5,?_,?_,?_,?_⟩
   . have hbo:f4 bo≠none:=by rw[pg4.out];simp
     refine pg4.congr (hfr5 bo (λhh=>(hap4 bo hh).1 rfl) hbo) λv hv b hb=>hfr5 b (λhh=>(hap4 b hh).2 v hv hb) ((pg4.row v hv).there hb)
   . rw[zxi,List.map_append];exact ho5
   . intro b hb
     rcases hin5 b hb with h6 | h6
     . exact hap4 b h6
     . refine⟨λhh=>?_,λv hv hh=>(pg4.row v hv).there hh h6.1⟩
       rw[hh,pg4.out]at h6;cases h6.1
   . rw[et];exact hg4
 . have:i=es.length:=by simp only at h3;omega
   subst this
   exact hk _ _ (Hp.le_trans hl2 hB2.le) ⟨ho2.rd hB2,ho2.2.1⟩
theorem GV.okE{m:Nat}(h:GV (m:Int) es):okE m es:=λe he=>by have:=h.2.1 e he;omega
theorem z7s{G:TGraph}{Ks:Sl->Hp->Prop}(hl:LR a2c 2 A2P h G.edges es)(hv:GV G.n es)(hs:Xu G.n.toNat es)(hlen:es.length<=1000000)(H:∀r h',h.le h'->IL h' r (zbc es.length)->Ks r h'):zc (F.Wf G) Ks h:=by
 refine zd (λr h'=>IL h' r (zbc es.length)) (λK' hk=>?_) λr h' hl hr=>H r h' hl hr
 unfold F.Wf
 refine Vk hl (by omega) λb h1 hl1 hb=>?_
 rw[hb.2 hv]
 refine zt rfl ?_
 have hn:=hv.1
 obtain⟨m,hm⟩:∃m:Nat,G.n=(m:Int):=⟨G.n.toNat,by omega⟩
 rw[hm]at hv hs hn |-
 exact zkf (hl.le y9 hl1) (GV.okE hv) hs (by omega) hlen λr h2 hl2 hr=>hk _ _ (Hp.le_trans hl1 hl2) hr
theorem zih{G:TGraph}(hl:LR a2c 2 A2P h G.edges es)(hv:GV G.n es)(hs:Xu G.n.toNat es)(hlen:(es.length:Int)+3=2*G.n)(H:∀h',h.le h'->Kb true h'):zc (F.z31 G) Kb h:=by
 refine zd (λb h'=>b=true) (λK' hk=>?_) λr h' hl hr=>by subst hr;exact H h' hl
 unfold F.z31
 have hn:=hv.1
 refine Vk hl (by omega) λb h1 hl1 hb=>?_
 rw[hb.2 hv]
 refine y7 rfl (ze (λh2=>hk _ _ hl1 rfl) (λh2=>?_))
 refine zd (λr h'=>r=3) (λK2 hk2=>?_) λr h' hl hr=>by subst hr;exact hk _ _ (Hp.le_trans hl1 hl) rfl
 unfold F.z69
 refine Vk (hl.le y9 hl1) (by omega) λb2 h3 hl3 hb2=>?_
 rw[hb2.2 hv]
 refine zt rfl ?_
 refine z7s (hl.le y9 (Hp.le_trans hl1 hl3)) hv hs (by omega) λr h4 hl4 hr=>hk2 _ _ (Hp.le_trans hl3 hl4) ?_
 have:=hr.len
 rw[zdg]at this
 rw[this,w64 (n:=2*G.n) (by omega),w64 (by omega)]
 omega
end
end Den
end

section
namespace Den
open Go Iv Lx
theorem Rd.cutN{h:Hp}{size:Nat}{x:Sl}{cs:List Value}(hr:Rd h size x cs)(lo hi:Nat)(h1:lo<=hi)(h2:hi<=x.len)(h3:hi<=x.cap):Rd h size (x.cut lo hi size) ((cs.drop (lo*size)).take ((hi-lo)*size)):=by
 have hle:lo*size+(hi-lo)*size<=cs.length:=by
  rw[<-hr.1,<-Nat.add_mul];exact Nat.mul_le_mul_right _ (by omega)
 have hlen:((cs.drop (lo*size)).take ((hi-lo)*size)).length=(hi-lo)*size:=by rw[List.length_take,List.length_drop];omega
 refine⟨by rw[hlen];rfl,?_⟩
 rw[hlen]
 by_cases h0:(hi-lo)*size=0
 . rw[h0]
   cases(x.cut lo hi size).a<;>simp[Z0,Zw]
 . have hlt:lo<hi:=by
    rcases Nat.lt_or_ge lo hi with h | h
    . exact h
    . have:hi-lo=0:=by omega
      rw[this]at h0;simp at h0
   have hne:x.cap≠lo:=by omega
   have ha:(x.cut lo hi size).a=x.a.map (·.add (lo*size)):=by show(if x.cap=lo then _ else _)=_;rw[if_neg hne]
   rw[ha]
   have hr2:=hr.2
   cases hxa:x.a with
   | none=>
     rw[hxa]at hr2
     simp only[Z0]at hr2
     split at hr2
     . omega
     . cases hr2
   | some a=>
     rw[hxa]at hr2
     simp only[Z0]at hr2
     show Zw h (a.add (lo*size)) ((hi-lo)*size)=_
     exact zbt (h:=h) (a:=a.add (lo*size)) (l:=cs.drop (lo*size)) (λi v hv=>by
      rw[Wr]
      refine z2c hr2 _ v ?_
      rw[List.getElem?_drop]at hv
      exact hv) ((hi-lo)*size) (by rw[List.length_drop];omega)
def EL(h:Hp)(l:Sl)(es:List (Int×Int)):Prop:=Rd h 2 l (es.flatMap Q8)/\l.len<=l.cap
theorem z0b(e:Int×Int):(Q8 e).length=2:=rfl
theorem zqc:∀{xs:List A2_Int} {es:List (Int×Int)},xs.length=es.length->(∀k (h1:k<xs.length) (h2:k<es.length),xs[k].c0=es[k].1/\xs[k].c1=es[k].2)->xs.flatMap a2c=es.flatMap Q8
 | [],[],_,_=>rfl
 | [],_ :: _,h,_=>by simp at h
 | _ :: _,[],h,_=>by simp at h
 | x :: xs,e :: es,h,hk=>by
   have h0:=hk 0 (by simp) (by simp)
   simp only[List.getElem_cons_zero]at h0
   rw[List.flatMap_cons,List.flatMap_cons,zqc (xs:=xs) (es:=es) (by simpa using h) λk h1 h2=>by
    have:=hk (k+1) (by simpa using h1) (by simpa using h2)
    simpa only[List.getElem_cons_succ] using this]
   unfold a2c Q8
   rw[h0.1,h0.2]
theorem LR.el{h:Hp}{l:Sl}{es:List (Int×Int)}(hl:LR a2c 2 A2P h l es):EL h l es:=by
 obtain⟨xs,h1,h2,h3,h4⟩:=hl
 rw[zqc h3 λk k1 k2=>h4 k k1 k2]at h1
 exact⟨h1,h2⟩
theorem EL.lr{h:Hp}{l:Sl}{es:List (Int×Int)}(hl:EL h l es):LR a2c 2 A2P h l es:=by
 refine⟨es.map λe=>⟨e.1,e.2⟩,?_,hl.2,by simp,λk h1 h2=>by simp[A2P]⟩
 rw[zqc (es:=es) (by simp) λk h1 h2=>by simp];exact hl.1
theorem EL.le{h h':Hp}{l:Sl}{es:List (Int×Int)}(hx:EL h l es)(hl:h.le h'):EL h' l es:=⟨hx.1.le hl,hx.2⟩
theorem EL.len{h:Hp}{l:Sl}{es:List (Int×Int)}(hx:EL h l es):l.len=es.length:=hx.lr.len y9
theorem zec{α:Type}{c:α->List Value}{n:Nat}(hc:∀x,(c x).length=n):∀{xs:List α} {k:Nat},(xs.flatMap c).drop (k*n)=(xs.drop k).flatMap c
 | [],k=>by simp
 | x :: xs,0=>by simp
 | x :: xs,k+1=>by
   rw[List.flatMap_cons,List.drop_succ_cons,<-zec hc (xs:=xs) (k:=k),Nat.add_mul,Nat.one_mul,Nat.add_comm,<-List.drop_drop]
   congr 1
   rw[<-hc x,List.drop_append_of_le_length (Nat.le_refl _),List.drop_length,List.nil_append]
theorem zha{α:Type}{c:α->List Value}{n:Nat}(hc:∀x,(c x).length=n){xs:List α}{k:Nat}:(xs.flatMap c).take (k*n)=(xs.take k).flatMap c:=by
 have h:=List.take_append_drop k xs
 by_cases hk:k<=xs.length
 . conv=>lhs;rw[<-h,List.flatMap_append]
   have:((xs.take k).flatMap c).length=k*n:=by rw[Y4 hc,List.length_take,Nat.min_eq_left hk]
   rw[List.take_append_of_le_length (by omega),List.take_of_length_le (by omega)]
 . rw[List.take_of_length_le (by rw[Y4 hc];exact Nat.mul_le_mul_right _ (by omega)),List.take_of_length_le (by omega)]
theorem Own.bk{D h:Hp}{size:Nat}{x:Sl}{cs:List Value}(ho:Own D h size x cs):∃f,Bk D h f/\OS f size x cs:=by
 obtain⟨h1,h2,h3,h4⟩:=ho
 cases ha:x.a with
 | none=>
   rw[ha]at h4
   refine⟨z73,⟨h1,λb cs hb=>by cases hb⟩,h2,h3,by rw[ha];exact h4⟩
 | some a=>
   rw[ha]at h4
   obtain⟨g1,g2,g3,b,g4,g5,g6,g7⟩:=h4
   refine⟨z06 z73 a.block b.cells,⟨h1,λk cs hk=>?_⟩,h2,h3,?_⟩
   . by_cases hka:k=a.block
     . subst hka
       rw[Z3]at hk;cases hk
       exact⟨g3,b.elem,by rw[g4,<-g5]⟩
     . rw[Qu hka]at hk;cases hk
   . rw[ha]
     exact⟨g1,g2,b.cells,Z3,g6,g7⟩
section
variable {D h : Hp} {f : BM} {es : List (Int × Int)} {Ks : Sl → Hp → Prop}
theorem zfa{l:Sl}(hl:EL h l es)(hlen:es.length<=1000000)(H:∀y h',Own h h' 2 y (es.flatMap Q8)->Ks y h'):zc (F.qx l) Ks h:=by
 refine zd (λy h'=>Own h h' 2 y (es.flatMap Q8)) (λK' hk=>?_) λy h' _ hy=>H y h' hy
 unfold F.qx
 have hll:=hl.len
 have hcl:(es.flatMap Q8).length=es.length*2:=Y4 z0b _
 cases ha:l.a with
 | none=>
   refine y7 rfl (hk _ _ (Hp.le_refl _) ?_)
   have h2:=hl.1.2
   rw[ha]at h2
   simp only[Z0]at h2
   split at h2
   . rename_i h5
     have:es.flatMap Q8=[]:=(Option.some.inj h2).symm
     rw[this];exact Own.nil (Hp.le_refl _)
   . cases h2
 | some a=>
   refine zt rfl ?_
   refine(Bk.start (h:=h)).newF λb h1 hb hD hB1=>?_
   refine⟨es.flatMap Q8,?_,?_⟩
   . have:=z6v hB1.le hl.1.2
     rw[hcl]at this
     rw[hll,<-ha];exact this
   . have ho:OS (z06 z73 b []) 2 ⟨some ⟨b,0,none⟩,0,0⟩ []:=OS.blk rfl
     refine ho.app hB1 (n:=l.len) (by rw[hcl,hll]) rfl ?_ ?_ ?_ λy f2 h2 hB2 ho2 _ _=>hk _ _ hB2.le ?_
     . rw[List.all_flatMap];exact List.all_eq_true.2 λ_ _=>rfl
     . show(0+l.len)*16<=_;omega
     . show 0+l.len<=_;omega
     . rw[List.nil_append]at ho2
       exact ho2.own hB2
theorem zyt{size bytes:Nat}{zero cs:List Value}{x:Sl}{i N:Nat}{K:Sl->Hp->Prop}(hsz:0<size)(ho:OS f size x cs)(hB:Bk D h f)(hN:x.len=N)(hi:i<N)(hlen:N<=1000000)(hby:bytes<=1000)(hleaf:cs.all Value.leaf=true)(hzl:zero.length=size)(hzlf:zero.all Value.leaf=true)
 (H:∀y f' h',Bk D h' f'->OS f' size y (cs.take (i*size)++cs.drop ((i+1)*size))->(∀b,¬inB x b->f' b=f b)->(∀b,inB y b->inB x b)->K y h') :
 (zxm x (i:Int) (i64.wrap ((i:Int)+1)) (x.len:Int) size λc1=>
 (ifP ((i:Int)==(i64.wrap ((i:Int)+1)))
 (K x h)
 (slP x 0 (i:Int) size λc2=>
 (slP x (i64.wrap ((i:Int)+1)) (x.len:Int) size λc3=>
 (rdO c3.a (c3.len*size) (λvs4=>
 (Y5 size bytes zero c2 c3.len vs4 (λw5 h1=>
 (slP w5 (w5.len:Int) (x.len:Int) size λc6=>
 (zgt c6 zero (λh2=>
 (K w5 h2)) h1))) h)) h))))):=by
  rw[w64 (by omega)]
  have hc:=ho.2.1
  have hcs:=ho.1
  have ha:∃a,x.a=some a:=by
   cases hxa:x.a with
   | none=>
     have h3:=ho.2.2
     rw[hxa]at h3
     simp only at h3
     omega
   | some a=>exact⟨a,rfl⟩
  refine⟨by omega,by omega,by omega,by omega,?_⟩
  refine zz (λh1=>by omega) (λ_=>?_)
  refine⟨by omega,by omega,by omega,⟨by omega,by omega,by omega,?_⟩⟩
  have e1:((i:Int)+1).toNat=i+1:=by omega
  have e2:((i:Int)).toNat=i:=rfl
  have e3:((x.len:Int)).toNat=x.len:=rfl
  have e0:((0:Int)).toNat=0:=rfl
  rw[e1,e2,e3,e0]
  have hr:=(ho.rd hB).cutN (i+1) x.len (by omega) (Nat.le_refl _) hc
  have hcl:(x.cut (i+1) x.len size).len=x.len-(i+1):=rfl
  have hmm:(x.len-(i+1))*size=cs.length-(i+1)*size:=by rw[<-hcs,Nat.sub_mul]
  have hdl:((cs.drop ((i+1)*size)).take ((x.len-(i+1))*size))=cs.drop ((i+1)*size):=List.take_of_length_le (by rw[List.length_drop,hmm];omega)
  rw[hdl]at hr
  have hdlen:(cs.drop ((i+1)*size)).length=(x.len-(i+1))*size:=by rw[List.length_drop,hmm]
  have hr2:=hr.2
  rw[hdlen]at hr2
  refine⟨_,by rw[hcl];exact hr2,?_⟩
  have hcut:=ho.cut (n:=i) (by omega)
  have hca:(x.cut 0 i size).a=x.a:=zgz x i size
  have hall:(cs.drop ((i+1)*size)).all Value.leaf=true:=by
   rw[List.all_eq_true]at hleaf |-
   exact λv hv=>hleaf v (List.mem_of_mem_drop hv)
  have hbb:∀m,m<=1000000->m*bytes<=140737488355328:=λm hm=>Nat.le_trans (Nat.mul_le_mul hm hby) (by decide)
  refine hcut.appF hB (by rw[hcl,hdlen]) hall ?_ ?_ ?_ λf2 h2 hB2 ho2 hfr2=>?_
  . exact hbb _ (by show i-0+(x.len-(i+1))<=_;omega)
  . show i-0+(x.len-(i+1))<=_;omega
  . show i-0+(x.len-(i+1))<=x.cap-0;omega
  have hcc:(x.cut 0 i size).cap=x.cap:=Nat.sub_zero _
  have hll:(x.cut 0 i size).len=i:=Nat.sub_zero _
  have fr2:∀b,¬inB x b->f2 b=f b:=λb hb=>hfr2 b λhh=>hb (by obtain⟨a,h1,h2⟩:=hh;exact⟨a,by rw[<-hca];exact h1,h2⟩)
  refine⟨by omega,by show((((x.cut 0 i size).len+(x.cut (i+1) x.len size).len:Nat)):Int)<=_;rw[hll,hcl];omega,by show(x.len:Int)<=(((x.cut 0 i size).cap:Nat):Int);rw[hcc];omega,?_⟩
  obtain⟨y,hy⟩:∃y:Sl,y=⟨(x.cut 0 i size).a,(x.cut 0 i size).len+(x.cut (i+1) x.len size).len,(x.cut 0 i size).cap⟩:=⟨_,rfl⟩
  rw[<-hy]at ho2 |-
  have hya:y.a=x.a:=by rw[hy];exact hca
  have hyl:y.len+1=x.len:=by rw[hy];show(x.cut 0 i size).len+(x.cut (i+1) x.len size).len+1=_;rw[hll,hcl];omega
  have hyc:y.cap=x.cap:=by rw[hy];exact hcc
  have hyin:∀b,inB y b->inB x b:=λb hh=>by obtain⟨a,h1,h2⟩:=hh;exact⟨a,by rw[<-hya];exact h1,h2⟩
  have e4:((y.len:Int)).toNat=y.len:=rfl
  refine⟨λh0=>?_,λh0=>?_⟩
  . exfalso
    have:(y.cut ((y.len:Int)).toNat ((x.len:Int)).toNat size).len=x.len-y.len:=rfl
    rw[this]at h0;omega
  . have hlen1:(y.cut ((y.len:Int)).toNat ((x.len:Int)).toNat size).len=1:=by show x.len-y.len=1;omega
    rw[hlen1]
    obtain⟨a,ha⟩:=ha
    have hne:y.cap≠y.len:=by omega
    have ea:(y.cut ((y.len:Int)).toNat ((x.len:Int)).toNat size).a=some (a.add (y.len*size)):=by
     show(if y.cap=((y.len:Int)).toNat then y.a else y.a.map (·.add (((y.len:Int)).toNat*size)))=_
     rw[e4,if_neg hne,hya,ha];rfl
    rw[ea]
    have hr1:ye 1 zero=zero:=by unfold ye;simp
    rw[hr1]
    have key:=ho2.spare (vs:=zero) (k:=y.len*size) hB2 ⟨a,by rw[hya];exact ha⟩ (by rw[<-ho2.1];exact Nat.le_refl _) (by rw[hzl,show y.len*size+size=(y.len+1)*size by rw[Nat.add_mul,Nat.one_mul],hyl,hyc];exact Nat.mul_le_mul_right _ hc) hzlf (K:=K y) λf3 h3 hB3 ho3 hfr3=>
     H y f3 h3 hB3 ho3 (λb hb=>(hfr3 b λhh=>hb (hyin b hh)).trans (fr2 b hb)) hyin
    rw[hya,ha]at key
    simp only[stO]at key |-
    rw[Zv]
    exact key
theorem zvv{x:Sl}{i:Nat}(ho:OS f 2 x (es.flatMap Q8))(hB:Bk D h f)(hi:i<es.length)(hlen:es.length<=1000000)
 (H:∀y f' h',Bk D h' f'->OS f' 2 y ((es.eraseIdx i).flatMap Q8)->Ks y h'):Y3 (F.Q1 x (i:Int) (i64.wrap ((i:Int)+1))) Ks h:=by
 refine Qh ?_
 unfold F.Q1
 have hl:x.len=es.length:=by
  have:=ho.1
  rw[Y4 z0b]at this
  exact Nat.eq_of_mul_eq_mul_right (by decide) this
 refine zyt (by decide) ho hB hl hi hlen (by decide) (by rw[List.all_flatMap];exact List.all_eq_true.2 λ_ _=>rfl) rfl rfl λy f' h' hB' ho' _ _=>H y f' h' hB' ?_
 rw[zha z0b,zec z0b,<-List.flatMap_append,<-List.eraseIdx_eq_take_drop_succ]at ho'
 exact ho'
theorem GV.cap{n:Int}(h:GV n es):es.length<=3600:=by
 have hn:=h.1
 have:=zyl (q:=λ_=>true) (m:=3600) (J:=es.map λe=>e.1*60+e.2) (λa=>by
  have h1:((es.map λe=>e.1*60+e.2).Nodup):=by
   refine List.pairwise_iff_getElem.2 λi j hi hj hij hh=>?_
   rw[List.length_map]at hi hj
   rw[List.getElem_map,List.getElem_map]at hh
   have b:=h.lt j i (by omega) hij
   have r1:=h.2.1 _ (List.getElem_mem (by omega:i<es.length))
   have r2:=h.2.1 _ (List.getElem_mem (by omega:j<es.length))
   unfold z1d at b
   omega
  rw[h1.count];split<;>omega) (λa ha=>by
  obtain⟨e,he,rfl⟩:=List.mem_map.1 ha
  have:=h.2.1 e he
  exact⟨by omega,by omega,rfl⟩)
 rw[List.length_map,List.countP_true,List.length_range]at this
 exact this
theorem zib{G:TGraph}(hl:LR a2c 2 A2P h G.edges es)(hv:GV G.n es)(hs:Xu G.n.toNat es)(H:∀h',h.le h'->Ks zf h'):zc (F.z0z G) Ks h:=by
 refine zd (λy h'=>y=zf) (λK' hk=>?_) λy h' hl hy=>by subst hy;exact H h' hl
 unfold F.z0z
 have hcap:=hv.cap
 have hn:=hv.1
 refine Vk hl (by omega) λb h1 hl1 hb=>?_
 rw[hb.2 hv]
 refine zt rfl ?_
 refine z7s (hl.le y9 hl1) hv hs (by omega) λr h2 hl2 hr=>?_
 have hle2:=Hp.le_trans hl1 hl2
 have hrl:=hr.len
 rw[zdg]at hrl
 have hll:=hl.len y9
 refine Yt (n:=es.length) (by omega) (λi s h'=>h.le h'/\s=zf) ⟨hle2,rfl⟩ ?_
 rintro i s h3 hi ⟨hl3,rfl⟩ k hk2
 refine ze (λh4=>?_) (λh4=>hk _ _ hl3 rfl)
 have hi':i<es.length:=by simp only at h4;omega
 refine zk (λs h'=>h.le h'/\s.1=zf) (λs h' hs=>hk2 _ _ hi' hs) ?_
 refine zfa (hl.el.le hl3) (by omega) λy h5 ho5=>?_
 obtain⟨f5,hB5,hos5⟩:=ho5.bk
 refine zvv hos5 hB5 hi' (by omega) λz f6 h6 hB6 ho6=>?_
 obtain⟨m,hm⟩:∃m:Nat,G.n=(m:Int):=⟨G.n.toNat,by omega⟩
 rw[hm]at hv hs |-
 have hsub:(es.eraseIdx i).Sublist es:=List.eraseIdx_sublist ..
 have hlen6:(es.eraseIdx i).length=es.length-1:=List.length_eraseIdx_of_lt hi'
 have hle6:=Hp.le_trans hl3 hB6.le
 refine zkf (es:=es.eraseIdx i) (EL.lr ⟨ho6.rd hB6,ho6.2.1⟩) (λe he=>GV.okE hv e (hsub.mem he)) (hs.sub hsub) (by omega) (by omega) λr9 h7 hl7 hr9=>?_
 have h9:=hr9.len
 rw[zdg,hlen6]at h9
 refine zz (λh8=>by omega) (λh8=>⟨Hp.le_trans hle6 hl7,rfl⟩)
end
end Den
end

section
namespace Den
open Go Iv Lx
section
variable {D h : Hp} {f f2 : BM} {g : Option Addr} {p : Addr} {n bo bv bt : Nat} {L : List (List Int)} {ss : List Sl} {vis : List Bool} {T : List Int} {le : Sl} {es : List (Int × Int)}
def okL(n m:Nat)(L:List (List Int)):Prop:=(∀v,v<n->(L.getD v []).length<=2)/\∀v,v<n->∀j∈L.getD v [],0<=j/\j<m
end
end Den
end

section
namespace Den
open Go Iv Lx
section
variable {D h : Hp} {f : BM} {n : Nat} {es : List (Int × Int)}
end
end Den
end

section
namespace Den
def inP(P:List Int)(v:Int):Bool:=decide (v∈P)
structure Lam(n:Nat)(P:List Int)(E:List (Int×Int)):Prop where
 rng:∀v∈P,0<=v/\v<n
 few:∀X:Int->Bool,2<=szX n (λv=>X v&&inP P v)->z2q E X+3<=2*szX n λv=>X v&&inP P v
 none:∀X:Int->Bool,szX n (λv=>X v&&inP P v)<=1->z2q E X=0
 tight:E.length+3=2*szX n (inP P)
theorem zgd{n:Nat}{Y:Int->Bool}{x z:Int}(hx:0<=x/\x<n)(hz:0<=z/\z<n)(hne:x≠z):(if Y x then 1 else 0)+(if Y z then 1 else 0)<=szX n Y:=by
 unfold szX
 have key:∀m:Nat,(if Y x/\x<(m:Int)then 1 else 0)+(if Y z/\z<(m:Int)then 1 else 0)<=(List.range m).countP λi:Nat=>Y (i:Int):=by
  intro m
  induction m with
  | zero=>rw[if_neg (by omega),if_neg (by omega)];simp
  | succ m ih=>
    rw[List.range_succ,List.countP_append,List.countP_singleton]
    by_cases h1:x=(m:Int)
    . have h2:¬z=(m:Int):=λhh=>hne (h1.trans hh.symm)
      have e2:(if Y z/\z<((m+1:Nat):Int)then 1 else 0)=(if Y z/\z<(m:Int)then 1 else 0):=by
       congr 1;exact propext ⟨λh=>⟨h.1,by omega⟩,λh=>⟨h.1,by omega⟩⟩
      rw[e2]
      rw[if_neg (show ¬(Y x/\x<(m:Int))by omega)]at ih
      subst h1
      by_cases hy:Y (m:Int)=true
      . rw[if_pos hy,if_pos (show Y (m:Int)=true/\(m:Int)<((m+1:Nat):Int) from ⟨hy,by omega⟩)];omega
      . rw[if_neg hy,if_neg (show ¬(Y (m:Int)=true/\(m:Int)<((m+1:Nat):Int)) from λhh=>hy hh.1)];omega
    . have e1:(if Y x/\x<((m+1:Nat):Int)then 1 else 0)=(if Y x/\x<(m:Int)then 1 else 0):=by
       congr 1;exact propext ⟨λh=>⟨h.1,by omega⟩,λh=>⟨h.1,by omega⟩⟩
      rw[e1]
      by_cases h2:z=(m:Int)
      . rw[if_neg (show ¬(Y z/\z<(m:Int))by omega)]at ih
        subst h2
        by_cases hy:Y (m:Int)=true
        . rw[if_pos hy,if_pos (show Y (m:Int)=true/\(m:Int)<((m+1:Nat):Int) from ⟨hy,by omega⟩)];omega
        . rw[if_neg hy,if_neg (show ¬(Y (m:Int)=true/\(m:Int)<((m+1:Nat):Int)) from λhh=>hy hh.1)];omega
      . have e2:(if Y z/\z<((m+1:Nat):Int)then 1 else 0)=(if Y z/\z<(m:Int)then 1 else 0):=by
         congr 1;exact propext ⟨λh=>⟨h.1,by omega⟩,λh=>⟨h.1,by omega⟩⟩
        rw[e2];omega
 have:=key n
 have e1:(if Y x/\x<(n:Int)then 1 else 0)=(if Y x then 1 else 0):=by congr 1;exact propext ⟨λh=>h.1,λh=>⟨h,hx.2⟩⟩
 have e2:(if Y z/\z<(n:Int)then 1 else 0)=(if Y z then 1 else 0):=by congr 1;exact propext ⟨λh=>h.1,λh=>⟨h,hz.2⟩⟩
 rw[e1,e2]at this
 exact this
theorem Z81{n:Nat}{a b:Int}(ha:0<=a/\a<n)(hb:0<=b/\b<n)(hab:a≠b):Lam n [a,b] [(a,b)]:=by
 have hle:∀X:Int->Bool,szX n (λv=>X v&&inP [a,b] v)<=2:=by
  intro X
  unfold szX
  have key:∀m:Nat,(List.range m).countP (λi:Nat=>X (i:Int)&&inP [a,b] (i:Int))<=(if a<(m:Int)then 1 else 0)+(if b<(m:Int)then 1 else 0):=by
   intro m
   induction m with
   | zero=>simp
   | succ m ih=>
     rw[List.range_succ,List.countP_append,List.countP_singleton]
     have hi:(X (m:Int)&&inP [a,b] (m:Int))=true->(m:Int)=a\/(m:Int)=b:=λh=>by
      rw[Bool.and_eq_true]at h
      have:=of_decide_eq_true h.2
      simpa using this
     by_cases hh:(X (m:Int)&&inP [a,b] (m:Int))=true
     . rw[if_pos hh]
       rcases hi hh with h1 | h1
       . rw[if_neg (show ¬a<(m:Int)by omega)]at ih
         rw[if_pos (show a<((m+1:Nat):Int)by omega)]
         by_cases h2:b<(m:Int)
         . rw[if_pos h2]at ih;rw[if_pos (by omega)];omega
         . rw[if_neg h2]at ih;rw[if_neg (by omega)];omega
       . rw[if_neg (show ¬b<(m:Int)by omega)]at ih
         rw[if_pos (show b<((m+1:Nat):Int)by omega)]
         by_cases h2:a<(m:Int)
         . rw[if_pos h2]at ih;rw[if_pos (by omega)];omega
         . rw[if_neg h2]at ih;rw[if_neg (by omega)];omega
     . rw[if_neg hh]
       have e1:(if a<(m:Int)then 1 else 0)<=(if a<((m+1:Nat):Int)then 1 else 0):=by split<;>split<;>omega
       have e2:(if b<(m:Int)then 1 else 0)<=(if b<((m+1:Nat):Int)then 1 else 0):=by split<;>split<;>omega
       omega
  have:=key n
  rw[if_pos ha.2,if_pos hb.2]at this
  exact this
 have hge:∀X:Int->Bool,(if X a then 1 else 0)+(if X b then 1 else 0)<=szX n (λv=>X v&&inP [a,b] v):=λX=>by
  have:=zgd (Y:=λv=>X v&&inP [a,b] v) ha hb hab
  have e1:inP [a,b] a=true:=decide_eq_true (by simp)
  have e2:inP [a,b] b=true:=decide_eq_true (by simp)
  simp only[e1,e2,Bool.and_true]at this
  exact this
 have hc:∀X:Int->Bool,z2q [(a,b)] X=if X a&&X b then 1 else 0:=λX=>by unfold z2q;rw[List.countP_singleton]
 refine⟨λv hv=>?_,λX hX=>?_,λX hX=>?_,?_⟩
 . simp only[List.mem_cons,List.not_mem_nil,or_false]at hv
   rcases hv with rfl | rfl<;>assumption
 . rw[hc];split<;>omega
 . have:=hge X
   rw[hc,if_neg]
   intro hh
   rw[Bool.and_eq_true]at hh
   rw[if_pos hh.1,if_pos hh.2]at this
   omega
 . have h1:=hle λ_=>true
   have h2:=hge λ_=>true
   simp only[Bool.true_and,if_true]at h1 h2
   have e:(λv=>inP [a,b] v)=inP [a,b]:=rfl
   rw[e]at h1 h2
   simp only[List.length_cons,List.length_nil]
   omega
theorem Z4d{n:Nat}{P1 P2 P3 P:List Int}{x y z:Int}{X:Int->Bool}(hx:∀v,v∈P1/\v∈P2↔v=x)(hy:∀v,v∈P2/\v∈P3↔v=y)(hz:∀v,v∈P1/\v∈P3↔v=z)(hxy:x≠y)(hyz:y≠z)(hxz:x≠z)
 (hP:∀v,v∈P↔v∈P1\/v∈P2\/v∈P3) (bx:0<=x/\x<n) (by_:0<=y/\y<n) (bz:0<=z/\z<n) :
 szX n (λv=>X v&&inP P1 v)+szX n (λv=>X v&&inP P2 v)+szX n (λv=>X v&&inP P3 v)=szX n (λv=>X v&&inP P v)+((if X x then 1 else 0)+(if X y then 1 else 0)+(if X z then 1 else 0)):=by
 unfold szX
 have one:∀v:Int,(if (X v&&inP P1 v)=true then 1 else 0)+(if (X v&&inP P2 v)=true then 1 else 0)+(if (X v&&inP P3 v)=true then 1 else 0) =
  (if (X v&&inP P v)=true then 1 else 0)+((if X v/\v=x then 1 else 0)+(if X v/\v=y then 1 else 0)+(if X v/\v=z then 1 else 0)):=by
  intro v
  cases hX:X v with
  | false=>simp
  | true=>
    have g1:=hx v
    have g2:=hy v
    have g3:=hz v
    have g4:=hP v
    unfold inP
    by_cases m1:v∈P1<;>by_cases m2:v∈P2<;>by_cases m3:v∈P3<;>simp only[m1,m2,m3,and_true,and_self,and_false,or_true,or_false,true_iff,false_iff,iff_true,iff_false]at g1 g2 g3 g4 <;>
     first
     | exact absurd (g1.symm.trans g2) hxy
     | (simp[m1,m2,m3,g1,g2,g3,g4];done)
     | (subst g1;simp[m1,m2,m3,g4,hxy,hxz];done)
     | (subst g2;simp[m1,m2,m3,g4,hyz,hxy.symm];done)
     | (subst g3;simp[m1,m2,m3,g4,hyz.symm,hxz.symm];done)
 have at_:∀(w:Int) m,(if X w/\w<((m+1:Nat):Int)then 1 else 0)=(if X w/\w<(m:Int)then 1 else 0)+(if X (m:Int)/\(m:Int)=w then 1 else 0):=by
  intro w m
  by_cases h1:(m:Int)=w
  . subst h1
    by_cases h2:X (m:Int)=true
    . rw[if_pos ⟨h2,by omega⟩,if_neg (by omega),if_pos ⟨h2,rfl⟩]
    . rw[if_neg (λh=>h2 h.1),if_neg (λh=>h2 h.1),if_neg (λh=>h2 h.1)]
  . rw[if_neg (show ¬(X (m:Int)/\(m:Int)=w) from λh=>h1 h.2)]
    have:(X w/\w<((m+1:Nat):Int))=(X w/\w<(m:Int)):=propext ⟨λh=>⟨h.1,by omega⟩,λh=>⟨h.1,by omega⟩⟩
    simp only[this,Nat.add_zero]
 have key:∀m:Nat,(List.range m).countP (λi:Nat=>X (i:Int)&&inP P1 (i:Int))+(List.range m).countP (λi:Nat=>X (i:Int)&&inP P2 (i:Int))+(List.range m).countP (λi:Nat=>X (i:Int)&&inP P3 (i:Int)) =
  (List.range m).countP (λi:Nat=>X (i:Int)&&inP P (i:Int))+((if X x/\x<(m:Int)then 1 else 0)+(if X y/\y<(m:Int)then 1 else 0)+(if X z/\z<(m:Int)then 1 else 0)):=by
  intro m
  induction m with
  | zero=>
    rw[if_neg (show ¬(X x/\x<((0:Nat):Int))by omega),if_neg (show ¬(X y/\y<((0:Nat):Int))by omega),if_neg (show ¬(X z/\z<((0:Nat):Int))by omega)]
    simp
  | succ m ih=>
    simp only[List.range_succ,List.countP_append,List.countP_singleton]
    rw[at_ x m,at_ y m,at_ z m]
    have:=one (m:Int)
    omega
 have:=key n
 have e:∀w:Int,w<n->(if X w/\w<(n:Int)then 1 else 0)=(if X w then 1 else 0):=λw hw=>by congr 1;exact propext ⟨λh=>h.1,λh=>⟨h,hw⟩⟩
 rw[e x bx.2,e y by_.2,e z bz.2]at this
 exact this
theorem zwr{n:Nat}{P1 P2 P3 P:List Int}{E1 E2 E3 E:List (Int×Int)}{x y z:Int}(h1:Lam n P1 E1)(h2:Lam n P2 E2)(h3:Lam n P3 E3)(hx:∀v,v∈P1/\v∈P2↔v=x)(hy:∀v,v∈P2/\v∈P3↔v=y)(hz:∀v,v∈P1/\v∈P3↔v=z)
 (hxy:x≠y) (hyz:y≠z) (hxz:x≠z) (hP:∀v,v∈P↔v∈P1\/v∈P2\/v∈P3) (hE:E.Perm (E1++E2++E3)):Lam n P E:=by
 have mx:=(hx x).2 rfl
 have my:=(hy y).2 rfl
 have mz:=(hz z).2 rfl
 have bx:=h1.rng x mx.1
 have by_:=h2.rng y my.1
 have bz:=h1.rng z mz.1
 have sz:∀X:Int->Bool,_:=λX=>Z4d (n:=n) (X:=X) hx hy hz hxy hyz hxz hP bx by_ bz
 have i1:∀{Q:List Int} {v:Int},v∈Q->inP Q v=true:=λh=>decide_eq_true h
 have w1:∀X:Int->Bool,(if X x then 1 else 0)+(if X z then 1 else 0)<=szX n (λv=>X v&&inP P1 v):=λX=>by
  have:=zgd (Y:=λv=>X v&&inP P1 v) bx bz hxz
  simp only[i1 mx.1,i1 mz.1,Bool.and_true]at this
  exact this
 have w2:∀X:Int->Bool,(if X x then 1 else 0)+(if X y then 1 else 0)<=szX n (λv=>X v&&inP P2 v):=λX=>by
  have:=zgd (Y:=λv=>X v&&inP P2 v) bx by_ hxy
  simp only[i1 mx.2,i1 my.1,Bool.and_true]at this
  exact this
 have w3:∀X:Int->Bool,(if X y then 1 else 0)+(if X z then 1 else 0)<=szX n (λv=>X v&&inP P3 v):=λX=>by
  have:=zgd (Y:=λv=>X v&&inP P3 v) by_ bz hyz
  simp only[i1 my.2,i1 mz.2,Bool.and_true]at this
  exact this
 have hb:∀X:Int->Bool,∀w,(if X w then 1 else 0)<=1:=λX w=>by split<;>omega
 have hc:∀X:Int->Bool,z2q E X=z2q E1 X+z2q E2 X+z2q E3 X:=λX=>by
  rw[zju hE]
  unfold z2q
  rw[List.countP_append,List.countP_append]
 refine⟨λv hv=>?_,λX hX=>?_,λX hX=>?_,?_⟩
 . rcases(hP v).1 hv with h | h | h
   . exact h1.rng v h
   . exact h2.rng v h
   . exact h3.rng v h
 . have a0:=sz X
   have a1:=w1 X
   have a2:=w2 X
   have a3:=w3 X
   have b1:=hb X x
   have b2:=hb X y
   have b3:=hb X z
   have c1:=h1.few X
   have c2:=h2.few X
   have c3:=h3.few X
   have d1:=h1.none X
   have d2:=h2.none X
   have d3:=h3.none X
   rw[hc]
   generalize szX n (λv=>X v&&inP P1 v)=s1 at *
   generalize szX n (λv=>X v&&inP P2 v)=s2 at *
   generalize szX n (λv=>X v&&inP P3 v)=s3 at *
   generalize szX n (λv=>X v&&inP P v)=s at *
   generalize (if X x then 1 else 0)=p at *
   generalize (if X y then 1 else 0)=q at *
   generalize (if X z then 1 else 0)=r at *
   generalize z2q E1 X=k1 at *
   generalize z2q E2 X=k2 at *
   generalize z2q E3 X=k3 at *
   omega
 . have a0:=sz X
   have a1:=w1 X
   have a2:=w2 X
   have a3:=w3 X
   have d1:=h1.none X
   have d2:=h2.none X
   have d3:=h3.none X
   rw[hc]
   generalize szX n (λv=>X v&&inP P1 v)=s1 at *
   generalize szX n (λv=>X v&&inP P2 v)=s2 at *
   generalize szX n (λv=>X v&&inP P3 v)=s3 at *
   generalize szX n (λv=>X v&&inP P v)=s at *
   generalize (if X x then 1 else 0)=p at *
   generalize (if X y then 1 else 0)=q at *
   generalize (if X z then 1 else 0)=r at *
   omega
 . have a0:=sz λ_=>true
   simp only[Bool.true_and,if_true]at a0
   have t1:=h1.tight
   have t2:=h2.tight
   have t3:=h3.tight
   rw[hE.length_eq,List.length_append,List.length_append]
   have e1:(λv=>inP P1 v)=inP P1:=rfl
   have e2:(λv=>inP P2 v)=inP P2:=rfl
   have e3:(λv=>inP P3 v)=inP P3:=rfl
   have e4:(λv=>inP P v)=inP P:=rfl
   rw[e1,e2,e3,e4]at a0
   omega
end Den
end

section
namespace Den
theorem zl1{α:Type}{R:α->α->Prop}(hirr:∀a,¬R a a)(hasym:∀a b,R a b->¬R b a):∀{l m:List α},l.Pairwise R->m.Pairwise R->(∀v,v∈l↔v∈m)->l=m
 | [],[],_,_,_=>rfl
 | [],b :: m,_,_,h=>absurd ((h b).2 (List.mem_cons_self ..)) List.not_mem_nil
 | a :: l,[],_,_,h=>absurd ((h a).1 (List.mem_cons_self ..)) List.not_mem_nil
 | a :: l,b :: m,h1,h2,h=>by
   rw[List.pairwise_cons]at h1 h2
   have e:a=b:=by
    rcases List.mem_cons.1 ((h a).1 (List.mem_cons_self ..))with h3 | h3
    . exact h3
    . rcases List.mem_cons.1 ((h b).2 (List.mem_cons_self ..))with h4 | h4
      . exact h4.symm
      . exact absurd (h1.1 b h4) (hasym b a (h2.1 a h3))
   subst e
   rw[zl1 hirr hasym h1.2 h2.2 λv=>?_]
   constructor
   . intro hv
     rcases List.mem_cons.1 ((h v).1 (List.mem_cons_of_mem _ hv))with h3 | h3
     . subst h3;exact absurd (h1.1 v hv) (hirr v)
     . exact h3
   . intro hv
     rcases List.mem_cons.1 ((h v).2 (List.mem_cons_of_mem _ hv))with h3 | h3
     . subst h3;exact absurd (h2.1 v hv) (hirr v)
     . exact h3
def Yc:List Int->List Int
 | []=>[]
 | [a]=>[a]
 | a :: b :: l=>if a=b then Yc (b :: l)else a :: Yc (b :: l)
theorem z9i:∀{l:List Int} {v:Int},v∈Yc l↔v∈l
 | [],_=>Iff.rfl
 | [a],_=>Iff.rfl
 | a :: b :: l,v=>by
   have ih:=z9i (l:=b :: l) (v:=v)
   unfold Yc
   by_cases h:a=b
   . rw[if_pos h,ih,h];simp
   . rw[if_neg h,List.mem_cons,ih,List.mem_cons (l:=b :: l)]
theorem zfb:∀{l:List Int},l.Pairwise (·<=·)->(Yc l).Pairwise (·<·)
 | [],_=>List.Pairwise.nil
 | [a],_=>List.pairwise_singleton _ _
 | a :: b :: l,h=>by
   have h':=List.pairwise_cons.1 h
   have ih:=zfb h'.2
   unfold Yc
   by_cases hab:a=b
   . rw[if_pos hab];exact ih
   . rw[if_neg hab,List.pairwise_cons]
     refine⟨λv hv=>?_,ih⟩
     have h1:=z9i.1 hv
     have h2:=h'.1 v h1
     have h3:=h'.1 b (List.mem_cons_self ..)
     rcases List.mem_cons.1 h1 with rfl | h4
     . omega
     . have:=(List.pairwise_cons.1 h'.2).1 v h4
       omega
def z97(es:List (Int×Int)):List Int:=es.flatMap λe=>[e.1,e.2]
theorem zau:∀(es:List (Int×Int)),(z97 es).length=2*es.length
 | []=>rfl
 | e :: es=>by
   have ih:=zau es
   unfold z97 at ih |-
   rw[List.flatMap_cons,List.length_append,ih,List.length_cons]
   simp only[List.length_cons,List.length_nil]
   omega
def z2a(es:List (Int×Int)):List Int:=Yc ((z97 es).mergeSort λx y=>decide (x<=y))
theorem zb1{es:List (Int×Int)}{v:Int}:v∈z2a es↔∃e∈es,v=e.1\/v=e.2:=by
 unfold z2a
 rw[z9i,List.mem_mergeSort]
 unfold z97
 rw[List.mem_flatMap]
 constructor
 . rintro⟨e,he,hv⟩
   exact⟨e,he,by simpa using hv⟩
 . rintro⟨e,he,hv⟩
   exact⟨e,he,by simpa using hv⟩
theorem zgb{es:List (Int×Int)}:(z2a es).Pairwise (·<·):=by
 unfold z2a
 refine zfb ?_
 have:=List.pairwise_mergeSort (le:=λx y:Int=>decide (x<=y)) (λa b c h1 h2=>by simp at *;omega) (λa b=>by simp;omega) (z97 es)
 exact this.imp λh=>by simpa using h
theorem zi5{es fs:List (Int×Int)}{v:Int}:v∈z2a (es++fs)↔v∈z2a es\/v∈z2a fs:=by
 rw[zb1,zb1,zb1]
 constructor
 . rintro⟨e,he,hv⟩
   rcases List.mem_append.1 he with h | h
   . exact .inl ⟨e,h,hv⟩
   . exact .inr ⟨e,h,hv⟩
 . rintro(⟨e,he,hv⟩ | ⟨e,he,hv⟩)
   . exact⟨e,List.mem_append_left _ he,hv⟩
   . exact⟨e,List.mem_append_right _ he,hv⟩
def zcm(a b:List Int):Option Int:=match a.filter λx=>decide (x∈b)with | [x]=>some x | _=>none
theorem zl7{a b:List Int}{x:Int}(h:zcm a b=some x)(v:Int):v∈a/\v∈b↔v=x:=by
 unfold zcm at h
 have e:a.filter (λx=>decide (x∈b))=[x]:=by
  split at h
  . rename_i y hy;cases h;exact hy
  . cases h
 have:v∈a.filter (λx=>decide (x∈b))↔v∈[x]:=by rw[e]
 rw[List.mem_filter,List.mem_singleton,decide_eq_true_iff]at this
 exact this
def mrg(a b c:List Int):Option (Int×Int×Int):=
 match zcm a b,zcm b c,zcm a c with
 | some x,some y,some z=>if x=y\/y=z\/x=z then none else some (x,y,z)
 | _,_,_=>none
theorem Z4i{a b c:List Int}{x y z:Int}(h:mrg a b c=some (x,y,z)):zcm a b=some x/\zcm b c=some y/\zcm a c=some z/\x≠y/\y≠z/\x≠z:=by
 unfold mrg at h
 split at h
 . rename_i x' y' z' h1 h2 h3
   split at h
   . cases h
   . rename_i hn
     simp only[Option.some.injEq,Prod.mk.injEq]at h
     obtain⟨rfl,rfl,rfl⟩:=h
     exact⟨h1,h2,h3,λhh=>hn (.inl hh),λhh=>hn (.inr (.inl hh)),λhh=>hn (.inr (.inr hh))⟩
 . cases h
inductive PTr where
 | leaf (a b:Int)
 | node (a b c:Int) (p q r:PTr)
def PTr.bars:PTr->List (Int×Int)
 | .leaf a b=>[(a,b)]
 | .node _ _ _ p q r=>p.bars++q.bars++r.bars
def PTr.size:PTr->Nat
 | .leaf _ _=>1
 | .node _ _ _ p q r=>p.size+q.size+r.size+1
def PTr.dep:PTr->Nat
 | .leaf _ _=>1
 | .node _ _ _ p q r=>max p.dep (max q.dep r.dep)+1
theorem PTr.bars_pos:∀(t:PTr),1<=t.bars.length
 | .leaf _ _=>Nat.le_refl _
 | .node _ _ _ p q r=>by
   have:=PTr.bars_pos p
   unfold PTr.bars
   rw[List.length_append,List.length_append];omega
theorem PTr.dep_le:∀(t:PTr),t.dep<=t.bars.length
 | .leaf _ _=>Nat.le_refl _
 | .node _ _ _ p q r=>by
   have h1:=PTr.dep_le p
   have h2:=PTr.dep_le q
   have h3:=PTr.dep_le r
   have g1:=PTr.bars_pos p
   have g2:=PTr.bars_pos q
   have g3:=PTr.bars_pos r
   unfold PTr.bars PTr.dep
   rw[List.length_append,List.length_append];omega
def PTr.right:PTr->Prop
 | .leaf _ _=>True
 | .node a b c p q r=>p.right/\q.right/\r.right/\mrg (z2a p.bars) (z2a q.bars) (z2a r.bars)=some (b,c,a)
theorem Lam.congr{n:Nat}{P Q:List Int}{E:List (Int×Int)}(h:Lam n P E)(hPQ:∀v,v∈P↔v∈Q):Lam n Q E:=by
 have e:inP P=inP Q:=by funext v;unfold inP;rw[decide_eq_decide];exact hPQ v
 obtain⟨h1,h2,h3,h4⟩:=h
 rw[e]at h2 h3 h4
 exact⟨λv hv=>h1 v ((hPQ v).2 hv),h2,h3,h4⟩
theorem PTr.lam{n:Nat}:∀{t:PTr},t.right->(∀e∈t.bars,0<=e.1/\e.1<e.2/\e.2<(n:Int))->Lam n (z2a t.bars) t.bars
 | .leaf a b,_,h=>by
   have:=h (a,b) (by unfold PTr.bars;simp)
   simp only at this
   refine(Z81 (n:=n) (a:=a) (b:=b) ⟨this.1,by omega⟩ ⟨by omega,this.2.2⟩ (by omega)).congr λv=>?_
   rw[zb1]
   unfold PTr.bars
   simp
 | .node a b c p q r,hr,h=>by
   obtain⟨h1,h2,h3,h4⟩:=hr
   unfold PTr.bars at h
   have l1:=PTr.lam h1 λe he=>h e (by simp[he])
   have l2:=PTr.lam h2 λe he=>h e (by simp[he])
   have l3:=PTr.lam h3 λe he=>h e (by simp[he])
   obtain⟨g1,g2,g3,g4,g5,g6⟩:=Z4i h4
   refine zwr l1 l2 l3 (zl7 g1) (zl7 g2) (zl7 g3) g4 g5 g6 (λv=>?_) (List.Perm.refl _)
   show v∈z2a (p.bars++q.bars++r.bars)↔_
   rw[zi5,zi5,or_assoc]
end Den
end

section
namespace Den
open Go Iv Lx
def tc(x:TTree):List Value:=[.int .i64 x.a,.int .i64 x.b,.int .i64 x.c,.slice x.parts.a x.parts.len x.parts.cap]
theorem Zil(x:TTree):(tc x).length=4:=rfl
inductive TR (h:Hp):TTree->PTr->Prop
 | leaf (a b:Int) (s:Sl):s.len=0->TR h ⟨a,b,0,s⟩ (.leaf a b)
 | node (a b c:Int) (s:Sl) (X Y Z:TTree) (p q r:PTr):Rd h 4 s (tc X++(tc Y++tc Z))->s.len=3->s.len<=s.cap->TR h X p->TR h Y q->TR h Z r->TR h ⟨a,b,c,s⟩ (.node a b c p q r)
theorem TR.le{h h':Hp}(hl:h.le h'){x:TTree}{t:PTr}(hx:TR h x t):TR h' x t:=by
 induction hx with
 | leaf a b s h=>exact .leaf a b s h
 | node a b c s X Y Z p q r h1 h2 h3 _ _ _ i1 i2 i3=>exact .node a b c s X Y Z p q r (h1.le hl) h2 h3 i1 i2 i3
theorem Xr:Rec tc 4 TR:=⟨Zil,by decide,λx=>rfl,λhx hl=>hx.le hl⟩
theorem TR.parts{h:Hp}{a b c:Int}{s:Sl}{p q r:PTr}(hx:TR h ⟨a,b,c,s⟩ (.node a b c p q r)):LR tc 4 TR h s [p,q,r]/\s.len=3:=by
 cases hx with
 | node _ _ _ _ X Y Z _ _ _ h1 h2 h3 hX hY hZ=>
   refine⟨⟨[X,Y,Z],?_,h3,rfl,λk k1 k2=>?_⟩,h2⟩
   . show Rd h 4 s (tc X++(tc Y++(tc Z++[])))
     rw[List.append_nil];exact h1
   . have:k<3:=k1
     rcases(by omega:k=0\/k=1\/k=2)with rfl | rfl | rfl
     . exact hX
     . exact hY
     . exact hZ
theorem zy8:∀(fuel:Nat) {h:Hp} {x:TTree} {t:PTr} {K:Sl->Hp->Prop},TR h x t->t.dep<=fuel->t.bars.length<=100000->(∀y h',Own h h' 2 y (t.bars.flatMap Q8)->K y h')->F.Wi fuel x K h:=by
 intro fuel
 induction fuel with
 | zero=>intro h x t K _ hd _ _;cases t<;>unfold PTr.dep at hd<;>omega
 | succ fuel ih=>
   intro h x t K hx hd hlen H
   unfold F.Wi
   cases hx with
   | leaf a b s h0=>
     refine zz (λ_=>?_) (λh1=>by simp only at h1;omega)
     refine z72 (n:=1) (size:=2) rfl λbk h' _ ho=>H _ h' ?_
     exact ho
   | node a b c s X Y Z p q r h1 h2 h3 hX hY hZ=>
     have hp:=TR.parts (.node a b c s X Y Z p q r h1 h2 h3 hX hY hZ)
     unfold PTr.dep at hd
     unfold PTr.bars at hlen
     rw[List.length_append,List.length_append]at hlen
     refine zz (λh4=>by simp only at h4;omega) (λ_=>?_)
     obtain⟨ps,hps⟩:∃ps:List PTr,ps=[p,q,r]:=⟨_,rfl⟩
     have hdep:∀t∈ps,t.dep<=fuel/\t.bars.length<=100000:=λt ht=>by
      rw[hps]at ht
      simp only[List.mem_cons,List.not_mem_nil,or_false]at ht
      rcases ht with rfl | rfl | rfl<;>omega
     have hpl:ps.length=3:=by rw[hps];rfl
     have htot:(ps.flatMap PTr.bars).length<=100000:=by rw[hps];simp only[List.flatMap_cons,List.flatMap_nil,List.append_nil,List.length_append];omega
     have hfin:PTr.bars (.node a b c p q r)=ps.flatMap PTr.bars:=by
      rw[hps]
      show p.bars++q.bars++r.bars=p.bars++(q.bars++(r.bars++[]))
      rw[List.append_nil,List.append_assoc]
     rw[hfin]at H
     rw[<-hps]at hp
     refine Yt (n:=3) (by omega) (λi s' h'=>Own h h' 2 s' (((ps.take i).flatMap PTr.bars).flatMap Q8)) (by simpa using Own.nil (Hp.le_refl h)) ?_
     intro i s' h' hi ho k hk
     refine ze (λh4=>?_) (λh4=>?_)
     . have hi':i<ps.length:=by rw[hpl];simp only at h4;omega
       refine(hp.1.le Xr ho.1).get Xr i rfl hi' λa4 x hx hc=>⟨_,hc 0 _ rfl,_,hc 1 _ rfl,_,hc 2 _ rfl,x.parts,hc 3 _ rfl,?_⟩
       have hd':=hdep _ (List.getElem_mem hi')
       refine zd (λy h''=>Own h' h'' 2 y (ps[i].bars.flatMap Q8)) (λK' hk'=>ih hx hd'.1 hd'.2 λy h'' hy=>hk' _ _ hy.1 hy) λy h3 hl3 hy=>?_
       have hyl:y.len=ps[i].bars.length:=by
        have:=hy.2.1
        rw[Y4 z0b]at this
        exact Nat.eq_of_mul_eq_mul_right (by decide) this
       have hcl:(ps[i].bars.flatMap Q8).length=y.len*2:=hy.2.1.symm
       refine⟨_,by rw[<-hcl];exact hy.rd.2,?_⟩
       have hsl:s'.len=((ps.take i).flatMap PTr.bars).length:=by
        have:=ho.2.1
        rw[Y4 z0b]at this
        exact Nat.eq_of_mul_eq_mul_right (by decide) this
       have htk:(ps.take (i+1)).flatMap PTr.bars=(ps.take i).flatMap PTr.bars++ps[i].bars:=by
        rw[<-List.take_append_getElem hi',List.flatMap_append];simp
       have hle:((ps.take i).flatMap PTr.bars).length+ps[i].bars.length<=100000:=by
        rw[<-List.length_append,<-htk]
        have:=congrArg (λl=>(l.flatMap PTr.bars).length) (List.take_append_drop (i+1) ps)
        simp only[List.flatMap_append,List.length_append]at this
        omega
       refine z43 (ho.le hl3) (n:=y.len) hcl rfl (by rw[List.all_flatMap];exact List.all_eq_true.2 λ_ _=>rfl) (by show(s'.len+y.len)*16<=_;omega) (by show s'.len+y.len<=_;omega) λw h4 hw _=>hk _ _ (by omega) ?_
       rw[htk,List.flatMap_append];exact hw
     . have:i=3:=by simp only at h4;omega
       subst this
       rw[List.take_of_length_le (by omega)]at ho
       exact H _ _ ho
section
variable {D h : Hp} {f : BM} {Ks : Sl → Hp → Prop}
theorem zjn{x:TTree}{t:PTr}(hx:TR h x t)(hlen:t.bars.length<=100000)(H:∀y h',Own h h' 2 y (t.bars.flatMap Q8)->Ks y h'):zc (F.z1s x) Ks h:=by
 refine zd (λy h'=>Own h h' 2 y (t.bars.flatMap Q8)) (λK' hk=>?_) λy h' _ hy=>H y h' hy
 unfold F.z1s
 exact⟨t.dep,zy8 _ hx (Nat.le_refl _) hlen λy h' hy=>hk _ _ hy.1 hy⟩
theorem ziq{α:Type}{enc:α->List Value}{size:Nat}{srt:List α->List α}{x:Sl}{xs:List α}{K:Unit->Hp->Prop}(hsz:0<size)(hc:∀a,(enc a).length=size)(hsl:(srt xs).length=xs.length)(hlf:∀a,(enc a).all Value.leaf=true)(ho:OS f size x (xs.flatMap enc))(hB:Bk D h f)(hlen:xs.length<=140737488355328)
 (H:∀f' h',Bk D h' f'->OS f' size x ((srt xs).flatMap enc)->K () h'):zac enc size srt x K h:=by
 have hl:x.len=xs.length:=by
  have:=ho.1
  rw[Y4 hc]at this
  exact Nat.eq_of_mul_eq_mul_right hsz this
 have ho':=ho
 obtain⟨h1,h2,h3⟩:=ho
 cases ha:x.a with
 | none=>
   rw[ha]at h3
   simp only at h3
   have h0:x.len=0:=by omega
   refine .inl ⟨h0,H f h hB ?_⟩
   have:srt xs=[]:=List.eq_nil_of_length_eq_zero (by omega)
   rw[this]
   have e:xs=[]:=List.eq_nil_of_length_eq_zero (by omega)
   rw[e]at ho'
   exact ho'
 | some a=>
   rw[ha]at h3
   obtain⟨g1,g2,bs,g3,g4,g5⟩:=h3
   have ea:a=⟨a.block,0,none⟩:=by cases a;simp only at g1 g2;rw[g1,g2]
   obtain⟨k1,e,k2⟩:=hB.own _ _ g3
   have hfl:(xs.flatMap enc).length=xs.length*size:=Y4 hc _
   have hsl2:((srt xs).flatMap enc).length=xs.length*size:=by rw[Y4 hc,hsl]
   have hle:xs.length*size<=bs.length:=by rw[g4,<-hl];exact Nat.mul_le_mul_right _ h2
   refine .inr ⟨a.block,0,⟨bs,e,(0,0)⟩,xs,by rw[<-ea];exact ha,hl,hlen,k2,rfl,by show 0+xs.length*size<=bs.length;omega,?_,?_⟩
   . show(bs.drop 0).take _=_
     rw[List.drop_zero,<-hfl];exact g5
   . have hk:stP ⟨a.block,0,none⟩ ((srt xs).flatMap enc) (λh'=>K () h') h:=by
      refine hB.st g3 (by rw[hsl2];omega) (by rw[List.all_flatMap];exact List.all_eq_true.2 λa _=>hlf a) λh' hB'=>H _ h' hB' ⟨by rw[hsl2,hl],h2,?_⟩
      rw[ha]
      refine⟨g1,g2,_,Z3,by rw[Ya (by rw[hsl2];omega)];exact g4,?_⟩
      unfold Zb
      rw[List.take_zero,List.nil_append,List.take_append_of_le_length (Nat.le_refl _),List.take_of_length_le (Nat.le_refl _)]
     obtain⟨b2,q1,q2,q3,q4,q5,q6⟩:=hk
     rw[k2]at q1;cases q1
     exact q6
theorem z8c:∀{l:List Int} {b a:Int},Yc (l++[b,a])=Yc (l++[b])++(if b=a then []else [a])
 | [],b,a=>by
   show Yc [b,a]=Yc [b]++_
   unfold Yc
   by_cases h:b=a
   . rw[if_pos h,if_pos h,h];rfl
   . rw[if_neg h,if_neg h];rfl
 | [x],b,a=>by
   have ih:=z8c (l:=[]) (b:=b) (a:=a)
   rw[List.nil_append,List.nil_append]at ih
   show Yc (x :: b :: [a])=Yc (x :: b :: [])++_
   unfold Yc
   by_cases h:x=b
   . rw[if_pos h,if_pos h,ih]
   . rw[if_neg h,if_neg h,ih];rfl
 | x :: y :: l,b,a=>by
   have ih:=z8c (l:=y :: l) (b:=b) (a:=a)
   show Yc (x :: y :: (l++[b,a]))=Yc (x :: y :: (l++[b]))++_
   rw[List.cons_append,List.cons_append]at ih
   unfold Yc
   by_cases h:x=y
   . rw[if_pos h,if_pos h,ih]
   . rw[if_neg h,if_neg h,ih];rfl
theorem zco{xs:List Int}{k:Nat}(h1:0<k)(hk:k<xs.length):Yc (xs.take (k+1))=Yc (xs.take k)++(if xs[k-1]=xs[k]then []else [xs[k]]):=by
 have e1:xs.take k=xs.take (k-1)++[xs[k-1]]:=by
  have:=List.take_append_getElem (l:=xs) (i:=k-1) (by omega)
  rw[show k-1+1=k by omega]at this
  exact this.symm
 have e2:xs.take (k+1)=xs.take (k-1)++[xs[k-1],xs[k]]:=by
  rw[<-List.take_append_getElem hk,e1,List.append_assoc];rfl
 rw[e2,z8c,<-e1]
theorem zfc:∀{l:List Int},(Yc l).length<=l.length
 | []=>Nat.le_refl _
 | [a]=>Nat.le_refl _
 | a :: b :: l=>by
   have ih:=zfc (l:=b :: l)
   unfold Yc
   split
   . simp only[List.length_cons]at ih |-;omega
   . simp only[List.length_cons]at ih |-;omega
theorem OS.il{x:Sl}{xs:List Int}(ho:OS f 1 x (xs.map ic))(hB:Bk D h f):IL h x xs:=⟨ho.rd hB,ho.2.1⟩
theorem zj6{x:Sl}{xs:List Int}(ho:OS f 1 x (xs.map ic))(hB:Bk D h f)(hlen:xs.length<=1000000)(H:∀y h',D.le h'->IL h' y (Yc xs)->Ks y h'):Y3 (F.Xz x) Ks h:=by
 refine Qh ?_
 unfold F.Xz
 have hl:=(ho.il hB).len
 refine ze (λh1=>?_) (λh1=>?_)
 . refine H x h hB.le ?_
   have:Yc xs=xs:=by
    match xs,hl with
    | [],_=>rfl
    | [a],_=>rfl
    | a :: b :: l,hl=>simp at hl;omega
   rw[this];exact ho.il hB
 have h2:2<=xs.length:=by omega
 refine yx (λst h'=>∃k:Nat,st.1=(k:Int)/\1<=k/\k<=xs.length/\h'=h/\Yc (xs.take k)=xs.take k) (λst=>(xs.length-st.1).toNat) ⟨1,rfl,Nat.le_refl _,by omega,by trivial,?_⟩ ?_
 . match xs,h2 with
   | a :: b :: l,_=>rfl
 rintro⟨_,_⟩ h9 ⟨k,rfl,hk1,hk2,hh9,hck⟩
 rw[hh9]
 clear hh9
 simp only
 refine ze (λh3=>?_) (λh3=>?_)
 . have hk':k<xs.length:=by omega
   have hcs:=zco (by omega) hk'
   have e1:i64.wrap ((k:Int)-1)=((k-1:Nat):Int):=by rw[w64 (by omega)];omega
   rw[e1]
   refine(ho.il hB).get k rfl hk' ((ho.il hB).get (k-1) rfl (by omega) ?_)
   refine zz (λh4=>?_) (λh4=>⟨⟨k+1,by rw[w64 (by omega)];rfl,by omega,hk',by trivial,?_⟩,by rw[w64 (by omega)];omega⟩)
   . have hc0:=ho.2.1
     refine⟨by omega,by omega,by omega,?_⟩
     have e3:((x.len:Int)).toNat=x.len:=rfl
     have e2:((k:Int)).toNat=k:=rfl
     rw[e2,e3]
     have hcap:x.cap≠k:=by omega
     refine yx (λst h'=>∃(w m:Nat) (f':BM) (ys:List Int),st.1=(w:Int)/\st.2.1=(m:Int)/\1<=m/\k+m<=xs.length/\w<=k+m-1/\1<=w/\Bk D h' f'/\OS f' 1 x (ys.map ic)/\ys.length=xs.length/\ys.take w=Yc (xs.take (k+m))/\ys.drop (k+m-1)=xs.drop (k+m-1))
      (λst=>(xs.length-st.2.1).toNat) ⟨k,1,f,xs,rfl,rfl,Nat.le_refl _,by omega,by omega,by omega,hB,ho,rfl,?_,rfl⟩ ?_
     . rw[hcs,if_pos h4.symm,List.append_nil];exact hck.symm
     rintro⟨_,_,_⟩ h5 ⟨w,m,f5,ys,rfl,rfl,hm1,hm2,hw,hw1,hB5,ho5,hyl,hyt,hyd⟩
     have hcl:(x.cut k x.len 1).len=x.len-k:=rfl
     simp only
     have hil5:=ho5.il hB5
     refine ze (λh6=>?_) (λh6=>?_)
     . have hm':k+m<xs.length:=by rw[hcl]at h6;omega
       have hy1:ys[k+m]'(by omega)=xs[k+m]:=by
        have:=congrArg (λl=>l[1]?) hyd
        simp only[List.getElem?_drop]at this
        rw[show k+m-1+1=k+m by omega,List.getElem?_eq_getElem (by omega),List.getElem?_eq_getElem hm']at this
        exact Option.some.inj this
       have hy0:ys[k+m-1]'(by omega)=xs[k+m-1]'(by omega):=by
        have:=congrArg (λl=>l[0]?) hyd
        simp only[List.getElem?_drop]at this
        rw[Nat.add_zero,List.getElem?_eq_getElem (by omega),List.getElem?_eq_getElem (by omega)]at this
        exact Option.some.inj this
       have e4:i64.wrap ((m:Int)-1)=((m-1:Nat):Int):=by rw[w64 (by omega)];omega
       rw[e4]
       have cg:=zco (xs:=xs) (k:=k+m) (by omega) hm'
       obtain⟨J,hJ⟩:∃J:Int×Unit->Hp->Prop,∀s h',J s h'↔∃(w:Nat) (f':BM) (ys:List Int),s.1=(w:Int)/\w<=k+m/\1<=w/\Bk D h' f'/\OS f' 1 x (ys.map ic)/\ys.length=xs.length/\ys.take w=Yc (xs.take (k+m+1))/\ys.drop (k+m)=xs.drop (k+m):=⟨_,λ_ _=>Iff.rfl⟩
       refine zk J (λs h' hs=>?_) ?_
       . obtain⟨w',f',ys',q1,q2,q3,q4,q5,q6,q7,q8⟩:=(hJ s h').1 hs
         refine⟨⟨w',m+1,f',ys',q1,by rw[w64 (by omega)];rfl,by omega,by omega,by omega,q3,q4,q5,q6,q7,by rw[show k+(m+1)-1=k+m by omega];exact q8⟩,?_⟩
         rw[w64 (by omega)];omega
       have hyd':ys.drop (k+m)=xs.drop (k+m):=by
        have:=congrArg (List.drop 1) hyd
        rw[List.drop_drop,List.drop_drop,show k+m-1+1=k+m by omega]at this
        exact this
       have rd:∀(j:Nat) (K:Int->Prop),k+j<ys.length->(∀(hj:k+j<ys.length),K ys[k+j])->zg (x.cut k x.len 1) (j:Int) 1 λa=>ldL (.int .i64) a K h5:=λj K hj hK=>by
        have:=(hil5.1.cut k x.len (by omega) (by rw[List.length_map];omega) hc0)
        refine zi9 j this rfl (v:=ic (ys[k+j])) ?_ λa ha=>⟨_,ha,hK hj⟩
        rw[List.getElem?_take_of_lt (by omega),List.getElem?_drop,List.getElem?_map,List.getElem?_eq_getElem hj];rfl
       refine rd m _ (by omega) λ_=>rd (m-1) _ (by omega) λ_=>?_
       have ey1:ys[k+m]'(by omega)=xs[k+m]:=hy1
       have ey0:ys[k+(m-1)]'(by omega)=xs[k+m-1]'(by omega):=by
        have:k+(m-1)=k+m-1:=by omega
        simp only[this];exact hy0
       rw[ey1,ey0]
       refine yk (λh7=>?_) (λh7=>(hJ _ _).2 ⟨w,f5,ys,rfl,by omega,hw1,hB5,ho5,hyl,?_,hyd'⟩)
       . refine rd m _ (by omega) λ_=>?_
         rw[ey1]
         refine ho5.st (vs:=[ic xs[k+m]]) w hB5 rfl (by omega) rfl (by decide) rfl λf8 h8 hB8 ho8 _=>?_
         rw[Nat.mul_one,z2b (by omega)]at ho8
         refine(hJ _ _).2 ⟨w+1,f8,ys.set w xs[k+m],by rw[w64 (by omega)];rfl,by omega,by omega,hB8,ho8,by rw[List.length_set];exact hyl,?_,?_⟩
         . rw[cg,if_neg (λhh=>h7 hh.symm),<-hyt]
           have:(ys.set w xs[k+m]).take (w+1)=ys.take w++[xs[k+m]]:=by
            rw[<-List.take_append_getElem (by rw[List.length_set];omega),List.getElem_set_self,List.take_set_of_le (Nat.le_refl _)]
           exact this
         . rw[List.drop_set_of_lt (by omega)];exact hyd'
       . rw[cg,if_pos h7.symm,List.append_nil];exact hyt
     . have hm':k+m=xs.length:=by rw[hcl]at h6;omega
       rw[hm',List.take_of_length_le (Nat.le_refl _)]at hyt
       refine⟨by omega,by omega,by omega,?_⟩
       have ew:((w:Int)).toNat=w:=rfl
       rw[ew,e3]
       have hcut:=ho5.cut (n:=w) (by omega)
       rw[Nat.mul_one,<-List.map_take,hyt]at hcut
       have hca:(x.cut 0 w 1).a=x.a:=zgz x w 1
       have hxa:∃a,x.a=some a:=by
        cases hxa:x.a with
        | none=>
          have h9:=ho.2.2
          rw[hxa]at h9
          simp only at h9
          omega
        | some a=>exact⟨a,rfl⟩
       have fin:∀f' h',Bk D h' f'->OS f' 1 (x.cut 0 w 1) ((Yc xs).map ic)->slP x 0 (w:Int) 1 λc20=>Ks c20 h':=λf' h' q1 q2=>⟨by omega,by omega,by omega,H _ h' q1.le (q2.il q1)⟩
       refine⟨λh0=>fin f5 h5 hB5 hcut,λh0=>?_⟩
       have hlen1:(x.cut w x.len 1).len=x.len-w:=rfl
       rw[hlen1]
       obtain⟨a,hxa⟩:=hxa
       have ea:(x.cut w x.len 1).a=some (a.add w):=by
        show(if x.cap=w then x.a else x.a.map (·.add (w*1)))=_
        rw[if_neg (by omega),hxa,Nat.mul_one];rfl
       rw[ea]
       have key:=hcut.spare (vs:=ye (x.len-w) [.int .i64 0]) (k:=w) hB5 ⟨a,by rw[hca];exact hxa⟩ (by rw[List.length_map,<-hyt,List.length_take];omega) (by rw[z35];show w+(x.len-w)*1<=(x.cap-0)*1;omega)
        (by unfold ye;rw[List.all_flatten];exact List.all_eq_true.2 λl hl=>by rw[List.mem_replicate]at hl;rw[hl.2];rfl) (K:=λh'=>slP x 0 (w:Int) 1 λc20=>Ks c20 h') λf' h' q1 q2 _=>fin f' h' q1 q2
       rw[hca,hxa]at key
       simp only[stO]at key |-
       rw[Zv]
       exact key
   . rw[hcs,if_neg (λhh=>h4 hh.symm),hck,List.take_append_getElem hk']
 . have:k=xs.length:=by omega
   subst this
   rw[List.take_of_length_le (Nat.le_refl _)]at hck
   refine H x h hB.le ?_
   rw[hck];exact ho.il hB
theorem zcv(l:List Int):l.flatMap Z8d=l.map ic:=by
 induction l with
 | nil=>rfl
 | cons a l ih=>rw[List.flatMap_cons,ih];rfl
theorem z4r{x:TTree}{t:PTr}(hx:TR h x t)(hlen:t.bars.length<=100000)(H:∀y h',h.le h'->IL h' y (z2a t.bars)->Ks y h'):zc (F.Qx x) Ks h:=by
 refine zd (λy h'=>IL h' y (z2a t.bars)) (λK' hk=>?_) λy h' hl hy=>H y h' hl hy
 unfold F.Qx
 refine zjn hx hlen λy h1 ho1=>?_
 have hyl:y.len=t.bars.length:=by
  have:=ho1.2.1
  rw[Y4 z0b]at this
  exact Nat.eq_of_mul_eq_mul_right (by decide) this
 have hel:EL h1 y t.bars:=⟨ho1.rd,ho1.2.2.1⟩
 refine Yt (n:=t.bars.length) (by omega) (λi s h'=>Own h1 h' 1 s ((z97 (t.bars.take i)).map ic)) (by simpa [z97] using Own.nil (Hp.le_refl h1)) ?_
 intro i s h2 hi ho k hk2
 refine ze (λh3=>?_) (λh3=>?_)
 . have hi':i<t.bars.length:=by simp only at h3;omega
   refine(hel.lr.le y9 ho.1).get y9 i rfl hi' λa4 x hx hc=>⟨_,hc 0 _ rfl,_,hc 1 _ rfl,?_⟩
   obtain⟨x1,x2⟩:=hx
   rw[x1,x2]
   have hsl:s.len=2*i:=by
    have:=ho.2.1
    rw[List.length_map,Nat.mul_one]at this
    rw[this,zau,List.length_take];omega
   refine z43 ho (n:=2) (new:=[ic t.bars[i].1,ic t.bars[i].2]) rfl rfl rfl (by show(s.len+2)*8<=_;omega) (by show s.len+2<=_;omega) λw h4 hw _=>hk2 _ _ hi' ?_
   have:z97 (t.bars.take (i+1))=z97 (t.bars.take i)++[t.bars[i].1,t.bars[i].2]:=by
    unfold z97
    rw[<-List.take_append_getElem hi',List.flatMap_append];simp
   rw[this,List.map_append];exact hw
 . have:i=t.bars.length:=by simp only at h3;omega
   subst this
   rw[List.take_of_length_le (Nat.le_refl _)]at ho
   obtain⟨f2,hB2,hos⟩:=ho.bk
   have hel2:(z97 t.bars).length<=200000:=by rw[zau];omega
   refine Qh (ziq (size:=1) (xs:=z97 t.bars) (by decide) (λ_=>rfl) (by unfold Z9g;rw[List.length_mergeSort]) (λ_=>rfl) (by rw[zcv];exact hos) hB2 (by omega) λf3 h4 hB4 ho4=>?_)
   rw[zcv]at ho4
   exact zj6 ho4 hB4 (by unfold Z9g;rw[List.length_mergeSort];omega) λy2 h5 hl5 hy2=>hk _ _ (Hp.le_trans ho1.1 hl5) hy2
end
end Den
end

section
namespace Den
open Go Iv Lx
theorem LR.get2{α β:Type}{c:α->List Value}{n:Nat}{P:Hp->α->β->Prop}{D h:Hp}{l:Sl}{ps:List β}{i:Int}{K:Addr->Prop}(hR:Rec c n P)(hx:LR c n P D l ps)(hl:D.le h)(k:Nat)(hi:i=k)(hk:k<ps.length)
 (H:∀a x,P D x ps[k]->(∀j v,(c x)[j]?=some v->h.cell (a.add j)=some v)->K a):zg l i n K:=by
 obtain⟨xs,h1,h2,h3,h4⟩:=hx
 refine zde hR.len hR.pos (h1.le hl) k hi (by omega) λa ha=>H a xs[k] (h4 k (by omega) hk) λj v hv=>ha j v ?_ hv
 have:=(List.getElem?_eq_some_iff.1 hv).1
 rwa [hR.len]at this
section
variable {h : Hp} {a b c : Sl} {A B C : List Int} {Kb : Bool → Hp → Prop}
theorem znn{α:Type}{l:List α}(h:l.length=1):∃x,l=[x]:=by
 match l,h with
 | [x],_=>exact⟨x,rfl⟩
theorem z9h{K:Int×Bool->Hp->Prop}(ha:IL h a A)(hb:IL h b B)(hlA:A.length<=200000)(hlB:B.length<=200000)(H:∀r h',h.le h'->(r.2=true->zcm A B=some r.1)->(r.2=false->zcm A B=none)->K r h'):zc (F.Vc a b) K h:=by
 refine zd (λr h'=>(r.2=true->zcm A B=some r.1)/\(r.2=false->zcm A B=none)) (λK' hk=>?_) λr h' hl hr=>H r h' hl hr.1 hr.2
 unfold F.Vc
 have hal:=ha.len
 refine Yt (n:=A.length) (by omega) (λi s h'=>OI h h' s ((A.take i).filter λx=>decide (x∈B))) (by simpa using OI.nil) ?_
 intro i s h1 hi ho k hk2
 refine ze (λh2=>?_) (λh2=>?_)
 . have hi':i<A.length:=by simp only at h2;omega
   refine zk (λs h'=>OI h h' s.1 ((A.take (i+1)).filter λx=>decide (x∈B))) (λs h' hs=>hk2 _ _ hi' hs) ?_
   refine(ha.le ho.dle).get i rfl hi' ?_
   refine Wy (hb.le ho.dle) (by omega) λh3 hl3=>?_
   have ho3:=Own.le ho hl3
   have e:(A.take (i+1)).filter (λx=>decide (x∈B))=(A.take i).filter (λx=>decide (x∈B))++(if A[i]∈B then [A[i]]else []):=by
    rw[<-List.take_append_getElem hi',List.filter_append]
    congr 1
    by_cases hn:A[i]∈B<;>simp[List.filter,hn]
   refine ze (λh4=>?_) (λh4=>?_)
   . refine OI.app (xs:=(A.take i).filter λx=>decide (x∈B)) ho3 (by have:=List.length_filter_le (λx=>decide (x∈B)) (A.take i);simp at this;omega) λy h' hy=>?_
     show OI _ _ _ _
     rw[e,if_pos h4];exact hy
   . show OI _ _ _ _
     rw[e,if_neg h4,List.append_nil];exact ho3
 . have:i=A.length:=by simp only at h2;omega
   subst this
   rw[List.take_length]at ho
   have hsl:=ho.il.len
   refine yk (λh3=>hk _ _ ho.dle ⟨λhh=>(by cases hh),λ_=>?_⟩) (λh3=>?_)
   . unfold zcm
     split
     . rename_i x hx
       rw[hx]at hsl
       exact absurd (by simp only;rw[hsl];rfl) h3
     . rfl
   . obtain⟨x,hx⟩:=znn (l:=A.filter λx=>decide (x∈B)) (by simp only at h3;omega)
     refine ho.il.get 0 rfl (by rw[hx];simp) ?_
     refine hk _ _ ho.dle ⟨λ_=>?_,λhh=>(by cases hh)⟩
     unfold zcm
     simp only[hx,List.getElem_cons_zero]
theorem zej(ha:IL h a A)(hlA:A.length<=200000)(hasc:A.Pairwise (·<·))(hnn:∀x∈A,0<=x)(H:∀h',h.le h'->Kb true h'):zc (F.z0m a) Kb h:=by
 refine zd (λr h'=>r=true) (λK' hk=>?_) λr h' hl hr=>by subst hr;exact H h' hl
 unfold F.z0m
 have hal:=ha.len
 refine Y0 (n:=A.length) (by omega) (λi h'=>h.le h') (Hp.le_refl _) ?_
 intro i h1 hi hl1 k hk2
 refine ze (λh2=>?_) (λh2=>hk _ _ hl1 rfl)
 have hi':i<A.length:=by simp only at h2;omega
 refine zk (λ_ h'=>h.le h') (λs h' hs=>hk2 _ hi' hs) ?_
 refine(ha.le hl1).get i rfl hi' ?_
 refine ze (λh3=>?_) (λ_=>ze (λh4=>?_) (λ_=>hl1))
 . have:=hnn _ (List.getElem_mem hi')
   have h3:A[i]<0:=h3
   omega
 . have hi0:0<i:=by simp only at h4;omega
   simp only
   rw[show i64.wrap ((i:Int)-1)=((i-1:Nat):Int) from by rw[w64 (by omega)];omega]
   refine(ha.le hl1).get (i-1) rfl (by omega) ?_
   refine ze (λh5=>?_) (λ_=>hl1)
   have:=List.pairwise_iff_getElem.1 hasc (i-1) i (by omega) hi' (by omega)
   have h5:A[i-1]>=A[i]:=h5
   omega
theorem zq1{K:Int×Int×Int×Bool->Hp->Prop}(ha:IL h a A)(hb:IL h b B)(hc:IL h c C)(hlA:A.length<=200000)(hlB:B.length<=200000)(hlC:C.length<=200000)
 (sA:A.Pairwise (·<·)) (sB:B.Pairwise (·<·)) (sC:C.Pairwise (·<·)) (nA:∀x∈A,0<=x) (nB:∀x∈B,0<=x) (nC:∀x∈C,0<=x)
 (H:∀r h',h.le h'->(r.2.2.2=true->mrg A B C=some (r.1,r.2.1,r.2.2.1))->(r.2.2.2=false->mrg A B C=none)->K r h'):zc (F.z47 a b c) K h:=by
 refine zd (λr h'=>(r.2.2.2=true->mrg A B C=some (r.1,r.2.1,r.2.2.1))/\(r.2.2.2=false->mrg A B C=none)) (λK' hk=>?_) λr h' hl hr=>H r h' hl hr.1 hr.2
 unfold F.z47
 refine z9h ha hb hlA hlB λr1 h1 hl1 p1 q1=>?_
 refine z9h (hb.le hl1) (hc.le hl1) hlB hlC λr2 h2 hl2 p2 q2=>?_
 have hle2:=Hp.le_trans hl1 hl2
 refine z9h (ha.le hle2) (hc.le hle2) hlA hlC λr3 h3 hl3 p3 q3=>?_
 have hle3:=Hp.le_trans hle2 hl3
 have no:∀h',h.le h'->mrg A B C=none->K' (0,0,0,false) h':=λh' hl hn=>hk _ _ hl ⟨λhh=>(by cases hh),λ_=>hn⟩
 refine zk (λ_ h'=>h.le h'/\mrg A B C=some (r1.1,r2.1,r3.1)) (λ_ h' hs=>hk _ _ hs.1 ⟨λ_=>hs.2,λhh=>(by cases hh)⟩) ?_
 refine zp (λg1=>no _ hle3 ?_) (λg1=>?_)
 . unfold mrg;rw[q1 (by simpa using g1)]
 have g1:=p1 (by simpa using g1)
 refine zp (λg2=>no _ hle3 ?_) (λg2=>?_)
 . unfold mrg;rw[g1,q2 (by simpa using g2)]
 have g2:=p2 (by simpa using g2)
 refine zp (λg3=>no _ hle3 ?_) (λg3=>?_)
 . unfold mrg;rw[g1,g2,q3 (by simpa using g3)]
 have g3:=p3 (by simpa using g3)
 have em:mrg A B C=if r1.1=r2.1\/r2.1=r3.1\/r1.1=r3.1 then none else some (r1.1,r2.1,r3.1):=by unfold mrg;rw[g1,g2,g3]
 refine zz (λg4=>no _ hle3 ?_) (λg4=>zz (λg5=>no _ hle3 ?_) (λg5=>zz (λg6=>no _ hle3 ?_) (λg6=>?_)))
 . rw[em,if_pos (.inl g4)]
 . rw[em,if_pos (.inr (.inl g5))]
 . rw[em,if_pos (.inr (.inr g6))]
 refine zej (ha.le hle3) hlA sA nA λh5 hl5=>zt rfl ?_
 have hle5:=Hp.le_trans hle3 hl5
 refine zej (hb.le hle5) hlB sB nB λh6 hl6=>zt rfl ?_
 have hle6:=Hp.le_trans hle5 hl6
 refine zej (hc.le hle6) hlC sC nC λh7 hl7=>zt rfl ⟨Hp.le_trans hle6 hl7,?_⟩
 rw[em,if_neg]
 rintro(hh | hh | hh)
 . exact g4 hh
 . exact g5 hh
 . exact g6 hh
def nnB(t:PTr):Prop:=(∀e∈t.bars,0<=e.1/\0<=e.2)/\t.bars.length<=4000
theorem zsi{t:PTr}(h:nnB t):(∀x∈z2a t.bars,0<=x)/\(z2a t.bars).length<=200000:=by
 refine⟨λx hx=>?_,?_⟩
 . obtain⟨e,he,hv⟩:=zb1.1 hx
   have:=h.1 e he
   rcases hv with rfl | rfl
   . exact this.1
   . exact this.2
 . unfold z2a
   refine Nat.le_trans zfc ?_
   rw[List.length_mergeSort,zau]
   have:=h.2
   omega
def z7u(p q r:PTr):Option (Int×Int×Int):=mrg (z2a p.bars) (z2a q.bars) (z2a r.bars)
theorem zhr{X Y Z:TTree}{p q r:PTr}{K:TTree×Bool->Hp->Prop}(hX:TR h X p)(hY:TR h Y q)(hZ:TR h Z r)(np:nnB p)(nq:nnB q)(nr:nnB r)
 (H:∀W h',h.le h'->(W.2=true->∃x y z,z7u p q r=some (x,y,z)/\TR h' W.1 (.node z x y p q r)/\W.1.a=z/\W.1.b=x/\W.1.c=y)->(W.2=false->z7u p q r=none)->K W h'):zc (F.z0j X Y Z) K h:=by
 refine zd (λW h'=>(W.2=true->∃x y z,z7u p q r=some (x,y,z)/\TR h' W.1 (.node z x y p q r)/\W.1.a=z/\W.1.b=x/\W.1.c=y)/\(W.2=false->z7u p q r=none)) (λK' hk=>?_) λr h' hl hr=>H r h' hl hr.1 hr.2
 unfold F.z0j
 refine z4r hX (by have:=np.2;omega) λa h1 hl1 ha=>?_
 refine z4r (hY.le hl1) (by have:=nq.2;omega) λb h2 hl2 hb=>?_
 have hle2:=Hp.le_trans hl1 hl2
 refine z4r (hZ.le hle2) (by have:=nr.2;omega) λc h3 hl3 hc=>?_
 have hle3:=Hp.le_trans hle2 hl3
 have n1:=zsi np
 have n2:=zsi nq
 have n3:=zsi nr
 refine zq1 (ha.le (Hp.le_trans hl2 hl3)) (hb.le hl3) hc n1.2 n2.2 n3.2 zgb zgb zgb n1.1 n2.1 n3.1 λR h4 hl4 g1 g2=>?_
 have hle4:=Hp.le_trans hle3 hl4
 refine zc4 4 3 rfl λa5 h5 hl5 hr5=>hk _ _ (Hp.le_trans hle4 hl5) ⟨λhh=>?_,g2⟩
 have hle5:=Hp.le_trans hle4 hl5
 exact⟨_,_,_,g1 hh,.node _ _ _ _ X Y Z p q r hr5 rfl (Nat.le_refl _) (hX.le hle5) (hY.le hle5) (hZ.le hle5),rfl,rfl,rfl⟩
end
def rm3(i j k:Nat):Nat->List PTr->List PTr
 | _,[]=>[]
 | n,t :: ts=>if n=i\/n=j\/n=k then rm3 i j k (n+1) ts else t :: rm3 i j k (n+1) ts
theorem zp4{i j k:Nat}{t:PTr}:∀{n:Nat} {ts:List PTr},rm3 i j k n (ts++[t])=rm3 i j k n ts++(if n+ts.length=i\/n+ts.length=j\/n+ts.length=k then []else [t])
 | n,[]=>by
   show(if n=i\/n=j\/n=k then rm3 i j k (n+1) []else t :: rm3 i j k (n+1) [])=[]++_
   rw[List.nil_append];rfl
 | n,x :: ts=>by
   have ih:=zp4 (i:=i) (j:=j) (k:=k) (t:=t) (n:=n+1) (ts:=ts)
   show(if n=i\/n=j\/n=k then rm3 i j k (n+1) (ts++[t])else x :: rm3 i j k (n+1) (ts++[t]))=_
   rw[ih]
   have e:n+(x :: ts).length=n+1+ts.length:=by rw[List.length_cons];omega
   rw[e]
   show _=(if n=i\/n=j\/n=k then rm3 i j k (n+1) ts else x :: rm3 i j k (n+1) ts)++_
   split<;>rfl
theorem zii{i j k m:Nat}{ts:List PTr}(hm:m<ts.length):rm3 i j k 0 (ts.take (m+1))=rm3 i j k 0 (ts.take m)++(if m=i\/m=j\/m=k then []else [ts[m]]):=by
 rw[<-List.take_append_getElem hm,zp4,List.length_take,Nat.zero_add,Nat.min_eq_left (by omega)]
theorem zv2{i j k:Nat}{ts:List PTr}(g:PTr->Nat)(hij:i<j)(hjk:j<k)(hk:k<ts.length):∀m,m<=ts.length->((ts.take m).map g).sum=((rm3 i j k 0 (ts.take m)).map g).sum+((if i<m then g (ts[i]'(by omega))else 0)+(if j<m then g (ts[j]'(by omega))else 0)+(if k<m then g ts[k]else 0))
 | 0,_=>by simp[rm3]
 | m+1,hm=>by
   have hm':m<ts.length:=hm
   have ih:=zv2 g hij hjk hk m (by omega)
   rw[zii hm',<-List.take_append_getElem hm',List.map_append,List.sum_append,ih]
   simp only[List.map_cons,List.map_nil,List.sum_cons,List.sum_nil,Nat.add_zero,List.map_append,List.sum_append]
   by_cases h1:m=i
   . subst h1
     have q1:¬j<m:=by omega
     have q2:¬j<m+1:=by omega
     have q3:¬k<m:=by omega
     have q4:¬k<m+1:=by omega
     simp only[true_or,if_true,Nat.lt_irrefl,if_false,q1,q2,q3,q4,Nat.lt_succ_self,List.map_nil,List.sum_nil,Nat.add_zero]
   . by_cases h2:m=j
     . subst h2
       have q1:i<m:=by omega
       have q2:i<m+1:=by omega
       have q3:¬k<m:=by omega
       have q4:¬k<m+1:=by omega
       simp only[true_or,or_true,if_true,Nat.lt_irrefl,if_false,q1,q2,q3,q4,Nat.lt_succ_self,List.map_nil,List.sum_nil,Nat.add_zero]
       omega
     . by_cases h3:m=k
       . subst h3
         have q1:i<m:=by omega
         have q2:i<m+1:=by omega
         have q3:j<m:=by omega
         have q4:j<m+1:=by omega
         simp only[or_true,if_true,Nat.lt_irrefl,if_false,q1,q2,q3,q4,Nat.lt_succ_self,List.map_nil,List.sum_nil,Nat.add_zero]
         omega
       . rw[if_neg (by omega:¬(m=i\/m=j\/m=k))]
         have e1:(if i<m+1 then g (ts[i]'(by omega))else 0)=(if i<m then g (ts[i]'(by omega))else 0):=by
          by_cases hh:i<m
          . rw[if_pos hh,if_pos (by omega)]
          . rw[if_neg hh,if_neg (by omega)]
         have e2:(if j<m+1 then g (ts[j]'(by omega))else 0)=(if j<m then g (ts[j]'(by omega))else 0):=by
          by_cases hh:j<m
          . rw[if_pos hh,if_pos (by omega)]
          . rw[if_neg hh,if_neg (by omega)]
         have e3:(if k<m+1 then g ts[k]else 0)=(if k<m then g ts[k]else 0):=by
          by_cases hh:k<m
          . rw[if_pos hh,if_pos (by omega)]
          . rw[if_neg hh,if_neg (by omega)]
         rw[e1,e2,e3]
         simp;omega
theorem zmh{i j k:Nat}{t:PTr}:∀{n:Nat} {ts:List PTr},t∈rm3 i j k n ts->t∈ts
 | _,[],h=>by simp[rm3]at h
 | n,x :: ts,h=>by
   unfold rm3 at h
   split at h
   . exact List.mem_cons_of_mem _ (zmh h)
   . rcases List.mem_cons.1 h with rfl | h
     . exact List.mem_cons_self ..
     . exact List.mem_cons_of_mem _ (zmh h)
def z71(ts:List PTr)(i j k:Nat)(x y z:Int):List PTr:=.node z x y (ts.getD i (.leaf 0 0)) (ts.getD j (.leaf 0 0)) (ts.getD k (.leaf 0 0)) :: rm3 i j k 0 ts
theorem zbw{e:Int×Int}:∀{ts:List PTr},(ts.flatMap PTr.bars).count e=(ts.map λt=>t.bars.count e).sum
 | []=>rfl
 | t :: ts=>by rw[List.flatMap_cons,List.count_append,List.map_cons,List.sum_cons,zbw]
theorem z27{ts:List PTr}{i:Nat}{d:PTr}(h:i<ts.length):ts.getD i d=ts[i]:=by rw[List.getD_eq_getElem?_getD,List.getElem?_eq_getElem h];rfl
theorem z8k{ts:List PTr}{i j k:Nat}{x y z:Int}(hij:i<j)(hjk:j<k)(hk:k<ts.length):((z71 ts i j k x y z).flatMap PTr.bars).Perm (ts.flatMap PTr.bars)/\(z71 ts i j k x y z).length+2=ts.length:=by
 have hall:=λg=>zv2 (i:=i) (j:=j) (k:=k) (ts:=ts) g hij hjk hk ts.length (Nat.le_refl _)
 simp only[List.take_length,if_pos (show i<ts.length by omega),if_pos (show j<ts.length by omega),if_pos hk]at hall
 refine⟨List.perm_iff_count.2 λe=>?_,?_⟩
 . rw[zbw,zbw,hall λt=>t.bars.count e]
   unfold z71
   rw[List.map_cons,List.sum_cons]
   have:(PTr.bars (.node z x y (ts.getD i (.leaf 0 0)) (ts.getD j (.leaf 0 0)) (ts.getD k (.leaf 0 0)))).count e=ts[i].bars.count e+ts[j].bars.count e+ts[k].bars.count e:=by
    show(PTr.bars (ts.getD i (.leaf 0 0))++PTr.bars (ts.getD j (.leaf 0 0))++PTr.bars (ts.getD k (.leaf 0 0))).count e=_
    rw[List.count_append,List.count_append,z27 (show i<ts.length by omega),z27 (show j<ts.length by omega),z27 hk]
   rw[this];omega
 . have h1:=hall λ_=>1
   have hs:∀l:List PTr,(l.map λ_=>1).sum=l.length:=λl=>by
    induction l with
    | nil=>rfl
    | cons a l ih=>rw[List.map_cons,List.sum_cons,ih,List.length_cons];omega
   rw[hs,hs]at h1
   unfold z71
   rw[List.length_cons];omega
structure First(ts:List PTr)(i j k:Nat)(x y z:Int):Prop where
 ij:i<j
 jk:j<k
 lt:k<ts.length
 can:z7u (ts.getD i (.leaf 0 0)) (ts.getD j (.leaf 0 0)) (ts.getD k (.leaf 0 0))=some (x,y,z)
 first:∀i' j' k',i'<j'->j'<k'->k'<ts.length->(i'<i\/i'=i/\(j'<j\/j'=j/\k'<k))->z7u (ts.getD i' (.leaf 0 0)) (ts.getD j' (.leaf 0 0)) (ts.getD k' (.leaf 0 0))=none
section
variable {h : Hp} {l : Sl} {ts : List PTr}
theorem z7t{body:(Int×Unit)->((Int×Unit)->Hp->Prop)->Hp->Prop}{h0:Hp}{n m:Nat}{z:Int}(hz:z=m)(hn:n<=140737488355328)(I:Nat->Hp->Prop)(h:I m h0)
 (step:∀i h,m<=i->I i h->∀k,(∀h',i<n->I (i+1) h'->k (i64.wrap ((i:Int)+1),()) h')->body ((i:Int),()) k h):zr body (z,()) h0:=by
 refine yx (λst h'=>∃i:Nat,st.1=(i:Int)/\m<=i/\I i h') (λst=>(n-st.1).toNat) ⟨m,hz,Nat.le_refl _,h⟩ ?_
 rintro⟨_,_⟩ h' ⟨i,rfl,hi,hI⟩
 refine step i h' hi hI _ λh2 hlt hI2=>⟨⟨i+1,?_,by omega,hI2⟩,?_⟩
 . simp only;rw[w64 (by omega)];rfl
 . simp only;rw[w64 (by omega)];omega
theorem zty{K:Sl×Bool->Hp->Prop}(hl:LR tc 4 TR h l ts)(hn:∀t∈ts,nnB t)(hlen:ts.length<=4000)
 (H1:∀r h' i j k x y z,h.le h'->First ts i j k x y z->LR tc 4 TR h' r (z71 ts i j k x y z)->K (r,true) h')
 (H0:∀h',h.le h'->(∀i j k,i<j->j<k->k<ts.length->z7u (ts.getD i (.leaf 0 0)) (ts.getD j (.leaf 0 0)) (ts.getD k (.leaf 0 0))=none)->K (l,false) h'):zc (F.z4f l) K h:=by
 refine zd (λr h'=>(r.2=true/\∃i j k x y z,First ts i j k x y z/\LR tc 4 TR h' r.1 (z71 ts i j k x y z))\/(r=(l,false)/\∀i j k,i<j->j<k->k<ts.length->z7u (ts.getD i (.leaf 0 0)) (ts.getD j (.leaf 0 0)) (ts.getD k (.leaf 0 0))=none)) (λK' hk=>?_) λr h' hl hr=>?_
 . unfold F.z4f
   have hll:=hl.len Xr
   have nn:∀i (hi:i<ts.length),nnB ts[i]:=λi hi=>hn _ (List.getElem_mem hi)
   refine Y0 (n:=ts.length) (by omega) (λi h'=>h.le h'/\∀i' j' k',i'<i->i'<j'->j'<k'->k'<ts.length->z7u (ts.getD i' (.leaf 0 0)) (ts.getD j' (.leaf 0 0)) (ts.getD k' (.leaf 0 0))=none) ⟨Hp.le_refl _,λi' j' k' hh=>by omega⟩ ?_
   rintro i h1 hi ⟨hl1,f1⟩ c1 hc1
   refine ze (λh2=>?_) (λh2=>?_)
   . have hi':i<ts.length:=by simp only at h2;omega
     refine z7t (n:=ts.length) (m:=i+1) (by simp only;rw[w64 (by omega)];rfl) (by omega) (λj h'=>h.le h'/\∀j' k',j'<j->i<j'->j'<k'->k'<ts.length->z7u (ts.getD i (.leaf 0 0)) (ts.getD j' (.leaf 0 0)) (ts.getD k' (.leaf 0 0))=none) ⟨hl1,λj' k' hh=>by omega⟩ ?_
     rintro j h3 hj ⟨hl3,f3⟩ c3 hc3
     refine ze (λh4=>?_) (λh4=>?_)
     . have hj':j<ts.length:=by simp only at h4;omega
       refine z7t (n:=ts.length) (m:=j+1) (by simp only;rw[w64 (by omega)];rfl) (by omega) (λk h'=>h.le h'/\∀k',k'<k->j<k'->k'<ts.length->z7u (ts.getD i (.leaf 0 0)) (ts.getD j (.leaf 0 0)) (ts.getD k' (.leaf 0 0))=none) ⟨hl3,λk' hh=>by omega⟩ ?_
       rintro k h5 hkj ⟨hl5,f5⟩ c5 hc5
       refine ze (λh6=>?_) (λh6=>?_)
       . have hk':k<ts.length:=by simp only at h6;omega
         have hl5':=hl.le Xr hl5
         refine hl5'.get Xr i rfl hi' λa7 X hX c7=>⟨_,c7 0 _ rfl,_,c7 1 _ rfl,_,c7 2 _ rfl,X.parts,c7 3 _ rfl,?_⟩
         refine hl5'.get Xr j rfl hj' λa9 Y hY c9=>⟨_,c9 0 _ rfl,_,c9 1 _ rfl,_,c9 2 _ rfl,Y.parts,c9 3 _ rfl,?_⟩
         refine hl5'.get Xr k rfl hk' λa11 Z hZ c11=>⟨_,c11 0 _ rfl,_,c11 1 _ rfl,_,c11 2 _ rfl,Z.parts,c11 3 _ rfl,?_⟩
         refine zhr (X:=X) (Y:=Y) (Z:=Z) hX hY hZ (nn i hi') (nn j hj') (nn k hk') λW h7 hl7 m1 m0=>?_
         have hle7:=Hp.le_trans hl5 hl7
         refine zp (λh8=>?_) (λh8=>?_)
         . have:=m0 (by simpa using h8)
           refine hc5 _ hk' ⟨hle7,λk' hk1 hk2 hk3=>?_⟩
           rcases Nat.lt_or_ge k' k with h9 | h9
           . exact f5 k' h9 hk2 hk3
           . have:k'=k:=by omega
             subst this
             rw[z27 hi',z27 hj',z27 hk'];assumption
         . obtain⟨x,y,z,e1,e2,_⟩:=m1 (by simpa using h8)
           have hF:First ts i j k x y z:=by
            refine⟨by omega,by omega,hk',by rw[z27 hi',z27 hj',z27 hk'];exact e1,λi' j' k' q1 q2 q3 q4=>?_⟩
            rcases q4 with q4 | ⟨rfl,q4 | ⟨rfl,q4⟩⟩
            . exact f1 i' j' k' q4 q1 q2 q3
            . exact f3 j' k' q4 q1 q2 q3
            . exact f5 k' q4 q2 q3
           refine z72 (n:=1) (size:=4) rfl λb8 h8' hb8 ho8=>?_
           have hnode:TR h7 W.1 (.node z x y (ts.getD i (.leaf 0 0)) (ts.getD j (.leaf 0 0)) (ts.getD k (.leaf 0 0))):=by
            rw[z27 hi',z27 hj',z27 hk'];exact e2
           have start:LO tc 4 TR h7 h8' ⟨some ⟨b8,0,none⟩,1,1⟩ [.node z x y (ts.getD i (.leaf 0 0)) (ts.getD j (.leaf 0 0)) (ts.getD k (.leaf 0 0))]:=by
            refine⟨[W.1],?_,rfl,λq q1 q2=>?_⟩
            . exact ho8
            . have:q=0:=by simp at q1;omega
              subst this
              exact hnode
           refine Yt (n:=ts.length) (by omega) (λm s h'=>LO tc 4 TR h7 h' s (.node z x y (ts.getD i (.leaf 0 0)) (ts.getD j (.leaf 0 0)) (ts.getD k (.leaf 0 0)) :: rm3 i j k 0 (ts.take m))) (by simpa [rm3] using start) ?_
           intro m s h9 hm hs c9' hc9
           refine ze (λh10=>?_) (λh10=>?_)
           . have hm':m<ts.length:=by simp only at h10;omega
             obtain⟨J,hJ⟩:∃J:Sl×Unit->Hp->Prop,∀s h',J s h'↔LO tc 4 TR h7 h' s.1 (.node z x y (ts.getD i (.leaf 0 0)) (ts.getD j (.leaf 0 0)) (ts.getD k (.leaf 0 0)) :: rm3 i j k 0 (ts.take (m+1))):=⟨_,λ_ _=>Iff.rfl⟩
             refine zk J (λs h' hs=>hc9 _ _ hm' ((hJ s h').1 hs)) ?_
             refine(hl.le Xr hle7).get2 Xr hs.dle m rfl hm' λa19 V hV c19=>⟨_,c19 0 _ rfl,_,c19 1 _ rfl,_,c19 2 _ rfl,V.parts,c19 3 _ rfl,?_⟩
             have same:(m=i\/m=j\/m=k)->J (s,()) h9:=λhh=>(hJ _ _).2 (by rw[zii hm',if_pos hh,List.append_nil];exact hs)
             refine yk (λg1=>yk (λg2=>yk (λg3=>?_) (λg3=>same (.inr (.inr (by simp only at g3;omega))))) (λg2=>same (.inr (.inl (by simp only at g2;omega))))) (λg1=>same (.inl (by simp only at g1;omega)))
             have hlr:=hs.len Xr
             have hrl:(rm3 i j k 0 (ts.take m)).length<=ts.length:=by
              have:∀(n:Nat) (us:List PTr),(rm3 i j k n us).length<=us.length:=λn us=>by
               induction us generalizing n with
               | nil=>exact Nat.le_refl _
               | cons u us ih=>
                 unfold rm3
                 split
                 . have:=ih (n+1);rw[List.length_cons];omega
                 . have:=ih (n+1);rw[List.length_cons,List.length_cons];omega
              have:=this 0 (ts.take m)
              rw[List.length_take]at this
              omega
             refine hs.app Xr (bytes:=48) (zero:=[.int .i64 0,.int .i64 0,.int .i64 0,.slice zf.a zf.len zf.cap]) (x:=V) (b:=ts[m]) rfl (by rw[List.length_cons];omega) (by rw[List.length_cons];omega) hV λw h11 hw=>(hJ _ _).2 ?_
             rw[zii hm',if_neg (by simp only at g1 g2 g3;omega)]
             exact hw
           . have hm':m=ts.length:=by simp only at h10;omega
             subst hm'
             rw[List.take_length]at hs
             exact hk _ _ (Hp.le_trans hle7 hs.dle) (.inl ⟨rfl,i,j,k,x,y,z,hF,hs.lr Xr⟩)
       . have:k>=ts.length:=by simp only at h6;omega
         refine hc3 _ hj' ⟨hl5,λj' k' q1 q2 q3 q4=>?_⟩
         rcases Nat.lt_or_ge j' j with h9 | h9
         . exact f3 j' k' h9 q2 q3 q4
         . have:j'=j:=by omega
           subst this
           exact f5 k' (by omega) q3 q4
     . have:j>=ts.length:=by simp only at h4;omega
       refine hc1 _ hi' ⟨hl3,λi' j' k' q1 q2 q3 q4=>?_⟩
       rcases Nat.lt_or_ge i' i with h9 | h9
       . exact f1 i' j' k' h9 q2 q3 q4
       . have:i'=i:=by omega
         subst this
         exact f3 j' k' (by omega) q2 q3 q4
   . have:i=ts.length:=by simp only at h2;omega
     subst this
     exact hk _ _ hl1 (.inr ⟨rfl,λi' j' k' q1 q2 q3=>f1 i' j' k' (by omega) q1 q2 q3⟩)
 . rcases hr with ⟨h1,i,j,k,x,y,z,h2,h3⟩ | ⟨rfl,h2⟩
   . obtain⟨r,b⟩:=r
     simp only at h1
     subst h1
     exact H1 r h' i j k x y z hl h2 h3
   . exact H0 h' hl h2
end
end Den
end

section
namespace Tq
def sm(n:Nat)(f:Nat->Rat):Rat:=match n with | 0=>0 | n+1=>sm n f+f n
theorem sm_zero{f:Nat->Rat}:sm 0 f=0:=rfl
theorem sm_succ{n:Nat}{f:Nat->Rat}:sm (n+1) f=sm n f+f n:=rfl
theorem sm_congr{n:Nat}{f g:Nat->Rat}(h:∀i,i<n->f i=g i):sm n f=sm n g:=by
 induction n with
 | zero=>rfl
 | succ n ih=>rw[sm_succ,sm_succ,ih (λi hi=>h i (by omega)),h n (by omega)]
theorem sm_add{n:Nat}{f g:Nat->Rat}:sm n (λi=>f i+g i)=sm n f+sm n g:=by
 induction n with
 | zero=>simp only[sm_zero];grind
 | succ n ih=>simp only[sm_succ,ih];grind
theorem sm_mul{n:Nat}{f:Nat->Rat}{c:Rat}:sm n (λi=>c*f i)=c*sm n f:=by
 induction n with
 | zero=>simp only[sm_zero];grind
 | succ n ih=>simp only[sm_succ,ih];grind
theorem sm_zeros{n:Nat}{f:Nat->Rat}(h:∀i,i<n->f i=0):sm n f=0:=by
 induction n with
 | zero=>rfl
 | succ n ih=>rw[sm_succ,ih (λi hi=>h i (by omega)),h n (by omega)];grind
theorem sm_one{n k:Nat}{f:Nat->Rat}(hk:k<n)(h:∀i,i<n->i≠k->f i=0):sm n f=f k:=by
 induction n with
 | zero=>omega
 | succ n ih=>
   rw[sm_succ]
   by_cases h1:k=n
   . subst h1
     rw[sm_zeros λi hi=>h i (by omega) (by omega)];grind
   . rw[ih (by omega) (λi hi h2=>h i (by omega) h2),h n (by omega) (by omega)];grind
theorem sm_two{n k l:Nat}{f:Nat->Rat}(hkl:k<l)(hl:l<n)(h:∀i,i<n->i≠k->i≠l->f i=0):sm n f=f k+f l:=by
 induction n with
 | zero=>omega
 | succ n ih=>
   rw[sm_succ]
   by_cases h1:l=n
   . subst h1
     rw[sm_one (k:=k) hkl λi hi h2=>h i (by omega) h2 (by omega)]
   . rw[ih (by omega) (λi hi h2 h3=>h i (by omega) h2 h3),h n (by omega) (by omega) (by omega)];grind
def Ker(M:Nat->Nat->Rat)(r n:Nat)(x:Nat->Rat):Prop:=∀i,i<r->sm n (λj=>M i j*x j)=0
def Indep(A:Nat->Nat->Rat)(r n:Nat):Prop:=∀x,Ker A r n x->∀j,j<n->x j=0
structure EI(A:Nat->Nat->Rat)(r n k:Nat)(M:Nat->Nat->Rat):Prop where
 ker:∀x,Ker M r n x->Ker A r n x
 unit:∀i,i<r->∀j,j<k->M i j=if i=j then 1 else 0
theorem EI.start{A:Nat->Nat->Rat}{r n:Nat}:EI A r n 0 A:=⟨λx h=>h,λi hi j hj=>by omega⟩
theorem EI.pivot{A M:Nat->Nat->Rat}{r n k:Nat}(h:EI A r n k M)(hA:Indep A r n)(hk:k<n):∃i,k<=i/\i<r/\M i k≠0:=by
 apply Classical.byContradiction
 intro hc
 have hz:∀i,k<=i->i<r->M i k=0:=λi h1 h2=>Classical.byContradiction λh3=>hc ⟨i,h1,h2,h3⟩
 have hx:Ker M r n (λj=>if j<k then-M j k else if j=k then 1 else 0):=λi hi=>by
  by_cases hik:i<k
  . rw[sm_two (k:=i) (l:=k) hik hk λj hj h1 h2=>by
     by_cases h3:j<k
     . rw[h.unit i hi j h3,if_neg (λhh=>h1 hh.symm)];grind
     . simp only[if_neg h3,if_neg h2];grind]
    rw[h.unit i hi i hik,if_pos rfl]
    simp only[if_pos hik,if_neg (Nat.lt_irrefl k),if_true]
    grind
  . rw[sm_one (k:=k) hk λj hj h1=>by
     by_cases h3:j<k
     . rw[h.unit i hi j h3,if_neg (by omega)];grind
     . simp only[if_neg h3,if_neg h1];grind]
    rw[hz i (by omega) hi];grind
 have:=hA _ (h.ker _ hx) k hk
 simp only[if_neg (Nat.lt_irrefl k),if_true]at this
 exact absurd this (by decide)
def swapM(M:Nat->Nat->Rat)(a b:Nat):Nat->Nat->Rat:=λi j=>if i=a then M b j else if i=b then M a j else M i j
def scaleM(M:Nat->Nat->Rat)(a:Nat)(p:Rat):Nat->Nat->Rat:=λi j=>if i=a then M a j/p else M i j
def elimM(M:Nat->Nat->Rat)(a k:Nat):Nat->Nat->Rat:=λi j=>if i=a then M a j else M i j-M i k*M a j
theorem EI.swap{A M:Nat->Nat->Rat}{r n k i:Nat}(h:EI A r n k M)(h1:k<=i)(h2:i<r):EI A r n k (swapM M k i):=by
 refine⟨λx hx=>h.ker x λj hj=>?_,λj hj l hl=>?_⟩
 . by_cases e1:j=k
   . have:=hx i h2
     by_cases e2:i=k
     . subst e1;subst e2;simpa [swapM] using this
     . simp only[swapM,if_neg e2,if_true]at this
       subst e1;exact this
   . by_cases e2:j=i
     . have:=hx k (by omega)
       simp only[swapM,if_true]at this
       subst e2;exact this
     . have:=hx j hj
       simpa only[swapM,if_neg e1,if_neg e2] using this
 . unfold swapM
   by_cases e1:j=k
   . subst e1
     rw[if_pos rfl,h.unit i h2 l hl,if_neg (by omega),if_neg (by omega)]
   . rw[if_neg e1]
     by_cases e2:j=i
     . subst e2
       rw[if_pos rfl,h.unit k (by omega) l hl,if_neg (by omega),if_neg (by omega)]
     . rw[if_neg e2];exact h.unit j hj l hl
theorem EI.scale{A M:Nat->Nat->Rat}{r n k:Nat}(h:EI A r n k M)(hk:k<r){p:Rat}(hp:p≠0):EI A r n k (scaleM M k p):=by
 refine⟨λx hx=>h.ker x λj hj=>?_,λj hj l hl=>?_⟩
 . by_cases e1:j=k
   . subst e1
     have:=hx j hj
     simp only[scaleM,if_true]at this
     have e:sm n (λl=>M j l*x l)=p*sm n (λl=>M j l/p*x l):=by
      rw[<-sm_mul]
      exact sm_congr λl _=>by grind
     rw[e,this];grind
   . have:=hx j hj
     simpa only[scaleM,if_neg e1] using this
 . unfold scaleM
   by_cases e1:j=k
   . subst e1
     rw[if_pos rfl,h.unit j hj l hl,if_neg (by omega)];grind
   . rw[if_neg e1];exact h.unit j hj l hl
theorem EI.elim{A M:Nat->Nat->Rat}{r n k:Nat}(h:EI A r n k M)(hk:k<r)(hp:M k k=1):EI A r n (k+1) (elimM M k k):=by
 refine⟨λx hx=>h.ker x λj hj=>?_,λj hj l hl=>?_⟩
 . by_cases e1:j=k
   . have:=hx j hj
     subst e1
     simpa only[elimM,if_true] using this
   . have h1:=hx j hj
     have h2:=hx k hk
     simp only[elimM,if_neg e1,if_true]at h1 h2
     have e:sm n (λl=>M j l*x l)=sm n (λl=>(M j l-M j k*M k l)*x l)+M j k*sm n (λl=>M k l*x l):=by
      rw[<-sm_mul,<-sm_add]
      exact sm_congr λl _=>by grind
     rw[e,h1,h2];grind
 . unfold elimM
   by_cases e1:j=k
   . subst e1
     rw[if_pos rfl]
     by_cases e2:l=j
     . subst e2;rw[if_pos rfl];exact hp
     . rw[h.unit j hj l (by omega)]
   . rw[if_neg e1]
     by_cases e2:l=k
     . subst e2;rw[hp,if_neg e1];grind
     . rw[h.unit j hj l (by omega),h.unit k hk l (by omega),if_neg (show ¬k=l by omega)];grind
theorem EI.step{A M:Nat->Nat->Rat}{r n k i:Nat}(h:EI A r n k M)(h1:k<=i)(h2:i<r)(h3:M i k≠0):EI A r n (k+1) (elimM (scaleM (swapM M k i) k (M i k)) k k):=by
 refine((h.swap h1 h2).scale (by omega) h3).elim (by omega) ?_
 simp only[scaleM,swapM,if_true]
 grind
def ls(l:List Rat):Rat:=l.foldr (·+·) 0
theorem ls_nil:ls []=0:=rfl
theorem ls_cons{a:Rat}{l:List Rat}:ls (a :: l)=a+ls l:=rfl
theorem ls_append{l m:List Rat}:ls (l++m)=ls l+ls m:=by
 induction l with
 | nil=>rw[List.nil_append,ls_nil];grind
 | cons a l ih=>rw[List.cons_append,ls_cons,ls_cons,ih];grind
theorem ls_perm{l m:List Rat}(h:l.Perm m):ls l=ls m:=by
 induction h with
 | nil=>rfl
 | cons a _ ih=>rw[ls_cons,ls_cons,ih]
 | swap a b l=>rw[ls_cons,ls_cons,ls_cons,ls_cons];grind
 | trans _ _ h1 h2=>rw[h1,h2]
theorem ls_zeros{α:Type}{l:List α}{f:α->Rat}(h:∀a∈l,f a=0):ls (l.map f)=0:=by
 induction l with
 | nil=>rfl
 | cons a l ih=>rw[List.map_cons,ls_cons,h a (List.mem_cons_self ..),ih λb hb=>h b (List.mem_cons_of_mem _ hb)];grind
theorem ls_sm{l:List Rat}:ls l=sm l.length (λi=>l.getD i 0):=by
 have H:∀l:List Rat,ls l.reverse=sm l.reverse.length (λi=>l.reverse.getD i 0):=by
  intro l
  induction l with
  | nil=>rfl
  | cons a l ih=>
    rw[List.reverse_cons,ls_append,List.length_append,List.length_singleton,sm_succ,ih,ls_cons,ls_nil]
    rw[sm_congr (f:=λi=>(l.reverse++[a]).getD i 0) (g:=λi=>l.reverse.getD i 0) λi hi=>by
     rw[List.getD_eq_getElem?_getD,List.getD_eq_getElem?_getD,List.getElem?_append_left hi]]
    have:(l.reverse++[a]).getD l.reverse.length 0=a:=by
     rw[List.getD_eq_getElem?_getD,List.getElem?_append_right (Nat.le_refl _)];simp
    rw[this];grind
 have:=H l.reverse
 rwa [List.reverse_reverse]at this
def coef(X:Int->Rat)(e:Int×Int)(v:Int):Rat:=if v=e.1 then X e.1-X e.2 else if v=e.2 then X e.2-X e.1 else 0
def Free(E:List (Int×Int))(X Y:Int->Rat):Prop:=
 ∀ω:Int×Int->Rat,(∀v,ls (E.map λe=>ω e*coef X e v)=0)->(∀v,ls (E.map λe=>ω e*coef Y e v)=0)->∀e∈E,ω e=0
theorem Free.perm{E F:List (Int×Int)}{X Y:Int->Rat}(h:Free E X Y)(hp:E.Perm F):Free F X Y:=λω h1 h2 e he=>
 h ω (λv=>by rw[ls_perm (hp.map _)];exact h1 v) (λv=>by rw[ls_perm (hp.map _)];exact h2 v) e (hp.mem_iff.2 he)
theorem Free.bar{X Y:Int->Rat}{a b:Int}(h:X a≠X b\/Y a≠Y b):Free [(a,b)] X Y:=λω h1 h2 e he=>by
 rw[List.mem_singleton.1 he]
 have e1:=h1 a
 have e2:=h2 a
 simp only[List.map_cons,List.map_nil,ls_cons,ls_nil,coef,if_true]at e1 e2
 rcases h with h | h
 . have h3:X a-X b≠0:=λhh=>h (by grind)
   have h4:ω (a,b)*(X a-X b)=0:=by grind
   rcases Rat.mul_eq_zero.1 h4 with h5 | h5
   . exact h5
   . exact absurd h5 h3
 . have h3:Y a-Y b≠0:=λhh=>h (by grind)
   have h4:ω (a,b)*(Y a-Y b)=0:=by grind
   rcases Rat.mul_eq_zero.1 h4 with h5 | h5
   . exact h5
   . exact absurd h5 h3
theorem Free.add{E:List (Int×Int)}{X Y:Int->Rat}{a b n:Int}(h:Free E X Y)(hE:∀e∈E,e.1≠n/\e.2≠n)(han:a≠n)(hbn:b≠n)
 (hc:(X b-X a)*(Y n-Y a)-(Y b-Y a)*(X n-X a)≠0):Free (E++[(a,n),(b,n)]) X Y:=λω h1 h2=>by
 have z:∀Z:Int->Rat,ls (E.map λe=>ω e*coef Z e n)=0:=λZ=>ls_zeros λe he=>by
  unfold coef
  rw[if_neg (λhh=>(hE e he).1 hh.symm),if_neg (λhh=>(hE e he).2 hh.symm)];grind
 have e1:=h1 n
 have e2:=h2 n
 rw[List.map_append,ls_append,z]at e1 e2
 simp only[List.map_cons,List.map_nil,ls_cons,ls_nil,coef,if_neg (λhh:n=a=>han hh.symm),if_neg (λhh:n=b=>hbn hh.symm),if_true]at e1 e2
 have k1:ω (a,n)*((X b-X a)*(Y n-Y a)-(Y b-Y a)*(X n-X a))=0:=by grind
 have k2:ω (b,n)*((X b-X a)*(Y n-Y a)-(Y b-Y a)*(X n-X a))=0:=by grind
 have wa:ω (a,n)=0:=(Rat.mul_eq_zero.1 k1).resolve_right hc
 have wb:ω (b,n)=0:=(Rat.mul_eq_zero.1 k2).resolve_right hc
 have r:∀(Z:Int->Rat) v,ls ((E++[(a,n),(b,n)]).map λe=>ω e*coef Z e v)=0->ls (E.map λe=>ω e*coef Z e v)=0:=λZ v hv=>by
  rw[List.map_append,ls_append]at hv
  simp only[List.map_cons,List.map_nil,ls_cons,ls_nil,wa,wb]at hv
  grind
 intro e he
 rcases List.mem_append.1 he with he | he
 . exact h ω (λv=>r X v (h1 v)) (λv=>r Y v (h2 v)) e he
 . simp only[List.mem_cons,List.not_mem_nil,or_false]at he
   rcases he with rfl | rfl
   . exact wa
   . exact wb
def frameM(E:List (Int×Int))(X Y:Int->Rat):Nat->Nat->Rat:=λi j=>
 if i % 2=0 then coef X (E.getD j (0,0)) ((i/2:Nat):Int)else coef Y (E.getD j (0,0)) ((i/2:Nat):Int)
theorem Free.indep{E:List (Int×Int)}{X Y:Int->Rat}{n:Nat}(h:Free E X Y)(hn:E.Nodup)(hE:∀e∈E,0<=e.1/\e.1<n/\0<=e.2/\e.2<n):Indep (frameM E X Y) (2*n) E.length:=λx hx j hj=>by
 have key:∀(Z:Int->Rat) v,(∀c,(∀i,frameM E X Y (2*i+c)=λj=>coef Z (E.getD j (0,0)) (i:Int))->c<2->ls (E.map λe=>x (E.idxOf e)*coef Z e v)=0):=by
  intro Z v c hc hc2
  by_cases hv:0<=v/\v<n
  . have h1:=hx (2*v.toNat+c) (by omega)
    rw[hc v.toNat]at h1
    rw[ls_sm,List.length_map]
    refine Eq.trans (sm_congr λi hi=>?_) h1
    show _=coef Z (E.getD i (0,0)) ((v.toNat:Nat):Int)*x i
    have e1:E.getD i (0,0)=E[i]:=by rw[List.getD_eq_getElem?_getD,List.getElem?_eq_getElem hi];rfl
    have e2:E.idxOf E[i]=i:=List.Nodup.idxOf_getElem hn i hi
    have e3:((v.toNat:Nat):Int)=v:=by omega
    rw[List.getD_eq_getElem?_getD,List.getElem?_map,List.getElem?_eq_getElem hi,e1,e3]
    simp only[Option.map_some,Option.getD_some,e2]
    grind
  . refine ls_zeros λe he=>?_
    have:=hE e he
    unfold coef
    rw[if_neg (by omega),if_neg (by omega)];grind
 have:=h (λe=>x (E.idxOf e)) (λv=>key X v 0 (λi=>by funext j;unfold frameM;rw[if_pos (by omega)];congr 2;omega) (by omega))
  (λv=>key Y v 1 (λi=>by funext j;unfold frameM;rw[if_neg (by omega)];congr 2;omega) (by omega)) E[j] (List.getElem_mem hj)
 simpa only[List.Nodup.idxOf_getElem hn j hj] using this
end Tq
end

section
namespace Tq
theorem Free.congr{E:List (Int×Int)}{X Y X' Y':Int->Rat}(h:Free E X Y)(hx:∀e∈E,X e.1=X' e.1/\X e.2=X' e.2)(hy:∀e∈E,Y e.1=Y' e.1/\Y e.2=Y' e.2):Free E X' Y':=λω h1 h2=>by
 have key:∀(Z Z':Int->Rat),(∀e∈E,Z e.1=Z' e.1/\Z e.2=Z' e.2)->∀v,(E.map λe=>ω e*coef Z e v)=E.map λe=>ω e*coef Z' e v:=λZ Z' hz v=>by
  refine List.map_congr_left λe he=>?_
  have:=hz e he
  unfold coef
  rw[this.1,this.2]
 exact h ω (λv=>by rw[key X X' hx v];exact h1 v) (λv=>by rw[key Y Y' hy v];exact h2 v)
end Tq
namespace Den
def z9c(at_:List (Int×Int))(v:Int):Rat:=(((at_.getD v.toNat (0,0)).1:Int):Rat)
def zbb(at_:List (Int×Int))(v:Int):Rat:=(((at_.getD v.toNat (0,0)).2:Int):Rat)
theorem zb0{at_:List (Int×Int)}{x:Int×Int}{v:Int}(h:v.toNat<at_.length):z9c (at_++[x]) v=z9c at_ v/\zbb (at_++[x]) v=zbb at_ v:=by
 unfold z9c zbb
 have e:(at_++[x]).getD v.toNat (0,0)=at_.getD v.toNat (0,0):=by
  rw[List.getD_eq_getElem?_getD,List.getD_eq_getElem?_getD,List.getElem?_append_left h]
 rw[e];exact⟨rfl,rfl⟩
theorem Z93{at_:List (Int×Int)}{x:Int×Int}:z9c (at_++[x]) (at_.length:Int)=((x.1:Int):Rat)/\zbb (at_++[x]) (at_.length:Int)=((x.2:Int):Rat):=by
 unfold z9c zbb
 have e:(at_++[x]).getD ((at_.length:Int)).toNat (0,0)=x:=by
  rw[List.getD_eq_getElem?_getD]
  simp
 rw[e];exact⟨rfl,rfl⟩
theorem GV.nodup{n:Int}{es:List (Int×Int)}(h:GV n es):es.Nodup:=by
 refine List.pairwise_iff_getElem.2 λi j hi hj hij hh=>?_
 have:=h.lt j i hj hij
 rw[hh]at this
 unfold z1d at this
 omega
structure HI(n:Nat)(es:List (Int×Int))(at_:List (Int×Int)):Prop where
 n2:2<=n
 gv:GV n es
 len:es.length+3=2*n
 sp:Xu n es
 free:Tq.Free es (z9c at_) (zbb at_)
 alen:at_.length=n
theorem HI.start:HI 2 [(0,1)] [(0,0),(3,1)]:=by
 refine⟨Nat.le_refl _,⟨by omega,λe he=>?_,λj hj=>?_⟩,rfl,Xu.bar,Tq.Free.bar (.inl ?_),rfl⟩
 . rw[List.mem_singleton.1 he];simp
 . simp at hj
 . unfold z9c;simp
theorem HI.step{n:Nat}{es es' at_:List (Int×Int)}{a b:Nat}{x:Int×Int}(h:HI n es at_)(ha:a<n)(hb:b<n)(hab:a≠b)(hp:es'.Perm (es++[((a:Int),(n:Int)),((b:Int),(n:Int))]))(hg:GV ((n+1:Nat):Int) es')
 (hc:((at_.getD b (0,0)).1-(at_.getD a (0,0)).1)*(x.2-(at_.getD a (0,0)).2)-((at_.getD b (0,0)).2-(at_.getD a (0,0)).2)*(x.1-(at_.getD a (0,0)).1)≠0):HI (n+1) es' (at_++[x]):=by
 have hr:=h.gv.2.1
 have hal:=h.alen
 have hold:∀e∈es,e.1.toNat<at_.length/\e.2.toNat<at_.length:=λe he=>by have:=hr e he;omega
 have f1:Tq.Free es (z9c (at_++[x])) (zbb (at_++[x])):=h.free.congr
  (λe he=>⟨(zb0 (hold e he).1).1.symm,(zb0 (hold e he).2).1.symm⟩) (λe he=>⟨(zb0 (hold e he).1).2.symm,(zb0 (hold e he).2).2.symm⟩)
 have oa:=zb0 (at_:=at_) (x:=x) (v:=(a:Int)) (by show a<_;omega)
 have ob:=zb0 (at_:=at_) (x:=x) (v:=(b:Int)) (by show b<_;omega)
 have on:=Z93 (at_:=at_) (x:=x)
 rw[hal]at on
 have f2:Tq.Free (es++[((a:Int),(n:Int)),((b:Int),(n:Int))]) (z9c (at_++[x])) (zbb (at_++[x])):=by
  refine f1.add (λe he=>by have:=hr e he;omega) (by omega) (by omega) ?_
  rw[oa.1,oa.2,ob.1,ob.2,on.1,on.2]
  intro hh
  refine hc ?_
  have e1:z9c at_ (a:Int)=(((at_.getD a (0,0)).1:Int):Rat):=rfl
  have e2:zbb at_ (a:Int)=(((at_.getD a (0,0)).2:Int):Rat):=rfl
  have e3:z9c at_ (b:Int)=(((at_.getD b (0,0)).1:Int):Rat):=rfl
  have e4:zbb at_ (b:Int)=(((at_.getD b (0,0)).2:Int):Rat):=rfl
  rw[e1,e2,e3,e4,<-Rat.intCast_sub,<-Rat.intCast_sub,<-Rat.intCast_sub,<-Rat.intCast_sub,<-Rat.intCast_mul,<-Rat.intCast_mul,<-Rat.intCast_sub]at hh
  exact Rat.intCast_inj.1 (hh.trans (by rfl))
 refine⟨by have:=h.n2;omega,hg,?_,?_,f2.perm hp.symm,by rw[List.length_append,List.length_singleton,hal]⟩
 . rw[hp.length_eq,List.length_append]
   have:=h.len
   simp only[List.length_cons,List.length_nil]
   omega
 . refine(Xu.add h.sp hr ⟨by omega,by omega⟩ ⟨by omega,by omega⟩ (by omega)).perm hp.symm
theorem HI.indep{n:Nat}{es at_:List (Int×Int)}(h:HI n es at_):Tq.Indep (Tq.frameM es (z9c at_) (zbb at_)) (2*n) es.length:=
 h.free.indep h.gv.nodup λe he=>by have:=h.gv.2.1 e he;omega
end Den
end

section
namespace Den
open Go Iv Lx
inductive Reach:List PTr->List PTr->Prop
 | refl (ts:List PTr):Reach ts ts
 | step {ts us:List PTr} (i j k:Nat) (x y z:Int):Reach ts us->First us i j k x y z->Reach ts (z71 us i j k x y z)
def lfE(e:Int×Int):PTr:=.leaf e.1 e.2
theorem zoi:∀(es:List (Int×Int)),(es.map lfE).flatMap PTr.bars=es
 | []=>rfl
 | e :: es=>by
   rw[List.map_cons,List.flatMap_cons,zoi es];rfl
theorem Reach.keep{es:List (Int×Int)}{ts:List PTr}(h:Reach (es.map lfE) ts):(∀t∈ts,t.right)/\(ts.flatMap PTr.bars).Perm es:=by
 generalize hs:es.map lfE=s at h
 induction h with
 | refl=>
   subst hs
   refine⟨λt ht=>?_,by rw[zoi]⟩
   obtain⟨e,_,rfl⟩:=List.mem_map.1 ht
   exact trivial
 | step i j k x y z _ hF ih=>
   obtain⟨h1,h2⟩:=ih
   refine⟨λt ht=>?_,(z8k hF.ij hF.jk hF.lt).1.trans h2⟩
   unfold z71 at ht
   have hij:=hF.ij
   have hjk:=hF.jk
   have hlt:=hF.lt
   rcases List.mem_cons.1 ht with rfl | ht
   . refine⟨?_,?_,?_,hF.can⟩
     . rw[z27 (by omega)];exact h1 _ (List.getElem_mem _)
     . rw[z27 (by omega)];exact h1 _ (List.getElem_mem _)
     . rw[z27 (by omega)];exact h1 _ (List.getElem_mem _)
   . exact h1 t (zmh ht)
theorem Z4b{ts:List PTr}{t:PTr}(h:t∈ts):t.bars.length<=(ts.flatMap PTr.bars).length/\∀e∈t.bars,e∈ts.flatMap PTr.bars:=by
 refine⟨?_,λe he=>List.mem_flatMap.2 ⟨t,h,he⟩⟩
 induction ts with
 | nil=>cases h
 | cons a ts ih=>
   rw[List.flatMap_cons,List.length_append]
   rcases List.mem_cons.1 h with rfl | h
   . omega
   . have:=ih h;omega
theorem Reach.nn{n:Int}{es:List (Int×Int)}{ts:List PTr}(h:Reach (es.map lfE) ts)(hv:GV n es):∀t∈ts,nnB t:=λt ht=>by
 have h2:=h.keep.2
 have h3:=Z4b ht
 have hc:=hv.cap
 refine⟨λe he=>?_,?_⟩
 . have:=hv.2.1 e (h2.mem_iff.1 (h3.2 e he));omega
 . have:=h2.length_eq;omega
theorem Reach.len{es:List (Int×Int)}{ts:List PTr}(h:Reach (es.map lfE) ts):ts.length<=es.length:=by
 generalize hs:es.map lfE=s at h
 induction h with
 | refl=>subst hs;simp
 | step i j k x y z _ hF ih=>
   have:=ih
   have:=(z8k (x:=x) (y:=y) (z:=z) hF.ij hF.jk hF.lt).2
   omega
def Z8u(ts:List PTr):Prop:=∀i j k,i<j->j<k->k<ts.length->z7u (ts.getD i (.leaf 0 0)) (ts.getD j (.leaf 0 0)) (ts.getD k (.leaf 0 0))=none
section
variable {h : Hp} {G : TGraph} {es : List (Int × Int)} {Kb : Bool → Hp → Prop}
theorem zql{K:TTree×Int->Hp->Prop}(hl:LR a2c 2 A2P h G.edges es)(hv:GV G.n es)(h12:G.n<=12)
 (H1:∀X h' t,h.le h'->TR h' X t->Reach (es.map lfE) [t]->((z2a t.bars).length:Int)=G.n->K (X,0) h')
 (H0:∀X e h' ts,h.le h'->e≠0->Reach (es.map lfE) ts->Z8u ts->(∀t,ts=[t]->((z2a t.bars).length:Int)≠G.n)->K (X,e) h'):zc (F.z3d G) K h:=by
 refine zd (λr h'=>(r.2=0/\∃t,TR h' r.1 t/\Reach (es.map lfE) [t]/\((z2a t.bars).length:Int)=G.n)\/(r.2≠0/\∃ts,Reach (es.map lfE) ts/\Z8u ts/\∀t,ts=[t]->((z2a t.bars).length:Int)≠G.n)) (λK' hk=>?_) λr h' hl hr=>?_
 . unfold F.z3d
   have hcap:=hv.cap
   have hll:=hl.len y9
   refine Vk hl (by omega) λb h1 hl1 hb=>?_
   rw[hb.2 hv]
   refine zt rfl (ze (λhh=>by omega) (λ_=>?_))
   refine Yt (n:=es.length) (by omega) (λi s h'=>LO tc 4 TR h1 h' s ((es.take i).map lfE)) (by simpa using LO.nil) ?_
   intro i s h2 hi hs k hk2
   refine ze (λh3=>?_) (λh3=>?_)
   . have hi':i<es.length:=by simp only at h3;omega
     refine(hl.le y9 (Hp.le_trans hl1 hs.dle)).get y9 i rfl hi' λa4 x hx hc=>⟨_,hc 0 _ rfl,_,hc 1 _ rfl,?_⟩
     obtain⟨x1,x2⟩:=hx
     rw[x1,x2]
     refine hs.app Xr (bytes:=48) (zero:=[.int .i64 0,.int .i64 0,.int .i64 0,.slice zf.a zf.len zf.cap]) (x:=⟨es[i].1,es[i].2,0,zf⟩) (b:=lfE es[i]) rfl (by rw[List.length_map,List.length_take];omega) (by rw[List.length_map,List.length_take];omega) (.leaf _ _ _ rfl) λw h4 hw=>hk2 _ _ hi' ?_
     rw[<-List.take_append_getElem hi',List.map_append];exact hw
   . have hi':i=es.length:=by simp only at h3;omega
     subst hi'
     rw[List.take_length]at hs
     have hlr:=hs.lr Xr
     have hle2:=Hp.le_trans hl1 hs.dle
     refine zd3 (λm st h'=>h.le h'/\∃ts,LR tc 4 TR h' st.1 ts/\Reach (es.map lfE) ts/\(st.2.1=false->Z8u ts)/\m=2*ts.length+(if st.2.1=true then 1 else 0)) ⟨hle2,es.map lfE,hlr,.refl _,λhh=>(by cases hh),rfl⟩ ?_
     rintro m ⟨l,more,_⟩ h4 ⟨hl4,ts,hts,hR,hno,rfl⟩ K8 hK8
     have hnn:=hR.nn hv
     have htl:=hR.len
     simp only at hts hno
     refine zp (λh5=>?_) (λh5=>?_)
     . refine zty hts hnn (by omega) (λr h6 i j k x y z hl6 hF hr=>?_) (λh6 hl6 hn6=>?_)
       . have:=(z8k (x:=x) (y:=y) (z:=z) hF.ij hF.jk hF.lt).2
         refine hK8 _ _ _ ?_ ⟨Hp.le_trans hl4 hl6,_,hr,.step i j k x y z hR hF,λhh=>(by cases hh),rfl⟩
         simp only;split<;>omega
       . refine hK8 _ _ _ ?_ ⟨Hp.le_trans hl4 hl6,ts,hts.le Xr hl6,hR,λ_=>hn6,rfl⟩
         simp only at h5
         simp only[h5];simp
     . simp only at h5
       have hn4:=hno h5
       have htsl:=hts.len Xr
       refine zk (λ_ h'=>h.le h'/\LR tc 4 TR h' l ts/\∃t,ts=[t]/\((z2a t.bars).length:Int)=G.n) ?_ ?_
       . rintro _ h6 ⟨hl6,hts6,t,rfl,ht⟩
         refine hts6.get Xr 0 rfl (by simp) λa12 X hX c12=>⟨_,c12 0 _ rfl,_,c12 1 _ rfl,_,c12 2 _ rfl,X.parts,c12 3 _ rfl,?_⟩
         exact hk _ _ hl6 (.inl ⟨rfl,t,hX,hR,ht⟩)
       . refine yk (λh6=>hk _ _ hl4 (.inr ⟨by decide,ts,hR,hn4,λt ht=>?_⟩)) (λh6=>?_)
         . rw[ht]at htsl
           exact absurd (by simp only;rw[htsl];rfl) h6
         . obtain⟨t,rfl⟩:=znn (l:=ts) (by simp only at h6;omega)
           refine hts.get Xr 0 rfl (by simp) λa14 X hX c14=>⟨_,c14 0 _ rfl,_,c14 1 _ rfl,_,c14 2 _ rfl,X.parts,c14 3 _ rfl,?_⟩
           have hnt:=hnn t (List.mem_cons_self ..)
           have hX:TR h4 X t:=hX
           refine z4r (x:=X) hX (by have:=hnt.2;omega) λy h7 hl7 hy=>?_
           have hyl:=hy.len
           refine yk (λh8=>hk _ _ (Hp.le_trans hl4 hl7) (.inr ⟨by decide,[t],hR,hn4,λt' ht'=>?_⟩)) (λh8=>⟨Hp.le_trans hl4 hl7,hts.le Xr hl7,t,rfl,by rw[<-hyl];exact h8⟩)
           cases ht'
           rw[<-hyl];exact h8
 . obtain⟨X,e⟩:=r
   rcases hr with ⟨h1,t,h2,h3,h4⟩ | ⟨h1,ts,h2,h3,h4⟩
   . simp only at h1
     subst h1
     exact H1 X h' t hl h2 h3 h4
   . exact H0 X e h' ts hl h1 h2 h3 h4
theorem zny{a b:Sl}(ha:EL h a es)(hb:EL h b es)(hlen:es.length<=1000000)(H:∀h',h.le h'->Kb true h'):zc (F.Xc a b) Kb h:=by
 refine zd (λr h'=>r=true) (λK' hk=>?_) λr h' hl hr=>by subst hr;exact H h' hl
 unfold F.Xc
 have hal:=ha.len
 have hbl:=hb.len
 refine yk (λh1=>absurd (by rw[hal,hbl]) h1) (λ_=>?_)
 refine Y0 (n:=es.length) (by omega) (λi h'=>h'=h) rfl ?_
 rintro i h1 hi hh k hk2
 rw[hh]
 refine ze (λh2=>?_) (λh2=>hk _ _ (Hp.le_refl _) rfl)
 have hi':i<es.length:=by simp only at h2;omega
 refine ha.lr.get y9 i rfl hi' λa5 x hx hc=>⟨_,hc 0 _ rfl,_,hc 1 _ rfl,?_⟩
 refine hb.lr.get y9 i rfl hi' λa7 y hy hc7=>⟨_,hc7 0 _ rfl,_,hc7 1 _ rfl,?_⟩
 refine zt ?_ (hk2 _ hi' (by trivial))
 rw[hx.1,hx.2,hy.1,hy.2]
 simp
theorem zaq{a b:Int×Int}:z1e a b<0↔z1d a b:=by
 unfold z1e z1d
 constructor
 . intro hh
   by_cases h1:a.1<b.1
   . exact .inl h1
   . rw[if_neg h1]at hh
     by_cases h2:b.1<a.1
     . rw[if_pos h2]at hh;omega
     . rw[if_neg h2]at hh
       by_cases h3:a.2<b.2
       . exact .inr ⟨by omega,h3⟩
       . rw[if_neg h3]at hh
         split at hh<;>omega
 . rintro(h1 | ⟨h1,h2⟩)
   . rw[if_pos h1];decide
   . rw[if_neg (by omega),if_neg (by omega),if_pos h2];decide
theorem GV.pair{n:Int}(hv:GV n es):es.Pairwise z1d:=List.pairwise_iff_getElem.2 λi j hi hj hij=>hv.lt j i hj hij
theorem Z9h{n:Int}{xs:List (Int×Int)}(hp:xs.Perm es)(hv:GV n es):z6t xs=es:=by
 have hp2:(z6t xs).Perm xs:=List.mergeSort_perm _ _
 have hnd:(z6t xs).Nodup:=(hp2.trans hp).nodup_iff.2 hv.nodup
 have hs:=List.pairwise_mergeSort (le:=λx y:Int×Int=>!(decide (z1e y x<0))) (λa b c h1 h2=>by
  simp only[Bool.not_eq_true',decide_eq_false_iff_not,zaq]at h1 h2 |-
  unfold z1d at *
  omega) (λa b=>by
  simp only[Bool.or_eq_true,Bool.not_eq_true',decide_eq_false_iff_not,zaq]
  unfold z1d
  omega) xs
 have hst:(z6t xs).Pairwise z1d:=by
  have hs2:(z6t xs).Pairwise λa b=>(!(decide (z1e b a<0)))=true:=hs
  refine List.Pairwise.imp₂ (λa b h1 h2=>?_) hs2 hnd
  simp only[Bool.not_eq_true',decide_eq_false_iff_not,zaq]at h1
  unfold z1d at *
  rcases Int.lt_trichotomy a.1 b.1 with h3 | h3 | h3
  . exact .inl h3
  . rcases Int.lt_trichotomy a.2 b.2 with h4 | h4 | h4
    . exact .inr ⟨h3,h4⟩
    . exact absurd (Prod.ext h3 h4) h2
    . exact absurd (.inr ⟨h3.symm,h4⟩) h1
  . exact absurd (.inl h3) h1
 refine zl1 (R:=z1d) (λa hh=>?_) (λa b h1 h2=>?_) hst hv.pair λv=>(hp2.trans hp).mem_iff
 . unfold z1d at hh;omega
 . unfold z1d at h1 h2;omega
theorem nnB.sub{a b c:Int}{p q r:PTr}(h:nnB (.node a b c p q r)):nnB p/\nnB q/\nnB r:=by
 obtain⟨h1,h2⟩:=h
 have e:PTr.bars (.node a b c p q r)=p.bars++q.bars++r.bars:=rfl
 rw[e]at h1 h2
 rw[List.length_append,List.length_append]at h2
 exact⟨⟨λe he=>h1 e (by simp[he]),by omega⟩,⟨λe he=>h1 e (by simp[he]),by omega⟩,⟨λe he=>h1 e (by simp[he]),by omega⟩⟩
theorem zxh:∀(fuel:Nat) {h:Hp} {x:TTree} {t:PTr} {K:Bool->Hp->Prop},TR h x t->t.dep<=fuel->t.right->nnB t->(∀h',h.le h'->K true h')->F.Qy fuel x K h:=by
 intro fuel
 induction fuel with
 | zero=>intro h x t K _ hd _ _ _;cases t<;>unfold PTr.dep at hd<;>omega
 | succ fuel ih=>
   intro h x t K hx hd hr hn H
   unfold F.Qy
   cases hx with
   | leaf a b s h0=>exact zz (λ_=>H _ (Hp.le_refl _)) (λh1=>by simp only at h1;omega)
   | node a b c s X Y Z p q r h1 h2 h3 hX hY hZ=>
     have hp:=(TR.parts (.node a b c s X Y Z p q r h1 h2 h3 hX hY hZ)).1
     obtain⟨r1,r2,r3,r4⟩:=hr
     obtain⟨n1,n2,n3⟩:=hn.sub
     have hd':p.dep<=fuel/\q.dep<=fuel/\r.dep<=fuel:=by unfold PTr.dep at hd;omega
     have hall:∀t∈[p,q,r],t.dep<=fuel/\t.right/\nnB t:=λt ht=>by
      simp only[List.mem_cons,List.not_mem_nil,or_false]at ht
      rcases ht with rfl | rfl | rfl
      . exact⟨hd'.1,r1,n1⟩
      . exact⟨hd'.2.1,r2,n2⟩
      . exact⟨hd'.2.2,r3,n3⟩
     refine zz (λh4=>by simp only at h4;omega) (λ_=>?_)
     refine zk (λ_ h'=>h.le h') ?_ ?_
     . rintro _ h5 hl5
       have hp5:=hp.le Xr hl5
       refine hp5.get Xr 0 rfl (by simp) λa3 X' hX' c3=>⟨_,c3 0 _ rfl,_,c3 1 _ rfl,_,c3 2 _ rfl,X'.parts,c3 3 _ rfl,?_⟩
       refine hp5.get Xr 1 rfl (by simp) λa5 Y' hY' c5=>⟨_,c5 0 _ rfl,_,c5 1 _ rfl,_,c5 2 _ rfl,Y'.parts,c5 3 _ rfl,?_⟩
       refine hp5.get Xr 2 rfl (by simp) λa7 Z' hZ' c7=>⟨_,c7 0 _ rfl,_,c7 1 _ rfl,_,c7 2 _ rfl,Z'.parts,c7 3 _ rfl,?_⟩
       refine zhr (X:=X') (Y:=Y') (Z:=Z') hX' hY' hZ' n1 n2 n3 λW h6 hl6 m1 m0=>?_
       have hm:z7u p q r=some (b,c,a):=r4
       have hle:=Hp.le_trans hl5 hl6
       cases hW:W.2 with
       | false=>
         have:=m0 hW
         simp only[List.getElem_cons_zero,List.getElem_cons_succ]at this
         rw[hm]at this;cases this
       | true=>
         obtain⟨x,y,z,e1,_,e3,e4,e5⟩:=m1 hW
         simp only[List.getElem_cons_zero,List.getElem_cons_succ]at e1
         rw[hm]at e1
         simp only[Option.some.injEq,Prod.mk.injEq]at e1
         obtain⟨rfl,rfl,rfl⟩:=e1
         refine y7 rfl (zz (λ_=>zz (λ_=>?_) (λhh=>absurd e4 hh)) (λhh=>absurd e3 hh))
         have:(W.1.c==c)=true:=by rw[e5];simp
         rw[this];exact H _ hle
     . refine yk (λh4=>absurd (by simp only;rw[h2];rfl) h4) (λ_=>?_)
       refine zd (λr h'=>r=false) (λK2 hk2=>?_) λr h' hl hr=>by subst hr;exact zt rfl hl
       unfold F.Z8
       refine zd (λr h'=>r=-1) (λK3 hk3=>?_) λr h' hl hr=>by subst hr;exact hk2 _ _ hl rfl
       unfold F.yn
       refine Y0 (n:=3) (by omega) (λi h'=>h.le h') (Hp.le_refl _) ?_
       intro i h5 hi hl5 k hk4
       refine ze (λh6=>?_) (λh6=>hk3 _ _ hl5 rfl)
       have hi':i<[p,q,r].length:=by simp only at h6;show i<3;omega
       refine(hp.le Xr hl5).get Xr i rfl hi' λa3 V hV c3=>⟨_,c3 0 _ rfl,_,c3 1 _ rfl,_,c3 2 _ rfl,V.parts,c3 3 _ rfl,?_⟩
       have ha:=hall _ (List.getElem_mem hi')
       refine zd (λr h'=>r=false) (λK4 hk5=>?_) λr h' hl hr=>by subst hr;exact zt rfl (hk4 _ (by simpa using hi') (Hp.le_trans hl5 hl))
       unfold F.z41
       refine zd (λr h'=>r=true) (λK5 hk6=>ih (x:=V) hV ha.1 ha.2.1 ha.2.2 λh' hl=>hk6 _ _ hl rfl) λr h' hl hr=>by subst hr;exact hk5 _ _ hl rfl
theorem zpc{X:TTree}{t:PTr}(hl:LR a2c 2 A2P h G.edges es)(hv:GV G.n es)(h12:G.n<=12)(hX:TR h X t)(hr:t.right)(hp:t.bars.Perm es)(hpt:((z2a t.bars).length:Int)=G.n)(H:∀h',h.le h'->Kb true h'):zc (F.z3e G X) Kb h:=by
 refine zd (λr h'=>r=true) (λK' hk=>?_) λr h' hl hr=>by subst hr;exact H h' hl
 unfold F.z3e
 have hcap:=hv.cap
 have hnn:nnB t:=⟨λe he=>by have:=hv.2.1 e (hp.mem_iff.1 he);omega,by have:=hp.length_eq;omega⟩
 refine Vk hl (by have:=hl.len y9;omega) λb h1 hl1 hb=>?_
 rw[hb.2 hv]
 refine y7 rfl (ze (λ_=>?_) (λhh=>absurd h12 hh))
 refine zd (λr h'=>r=true) (λK2 hk2=>?_) λr h' hl hr=>by subst hr;exact hk _ _ (Hp.le_trans hl1 hl) rfl
 unfold F.z3f
 refine zjn (hX.le hl1) (by have:=hnn.2;omega) λy h2 ho2=>?_
 obtain⟨f2,hB2,hos⟩:=ho2.bk
 refine Qh (ziq (size:=2) (xs:=t.bars) (by decide) z0b (by unfold z6t;rw[List.length_mergeSort]) (λ_=>rfl) hos hB2 (by have:=hnn.2;omega) λf3 h4 hB4 ho4=>?_)
 rw[Z9h hp hv]at ho4
 have hle4:h1.le h4:=hB4.le
 refine zny ⟨ho4.rd hB4,ho4.2.1⟩ ((hl.le y9 (Hp.le_trans hl1 hle4)).el) (by omega) λh5 hl5=>?_
 have hle5:=Hp.le_trans hle4 hl5
 refine y7 rfl ?_
 refine z4r (hX.le (Hp.le_trans hl1 hle5)) (by have:=hnn.2;omega) λz h6 hl6 hz=>?_
 have hzl:=hz.len
 have hle6:=Hp.le_trans hle5 hl6
 refine zz (λ_=>?_) (λhh=>absurd (by rw[hzl];exact hpt) hh)
 refine zd (λr h'=>r=true) (λK3 hk3=>?_) λr h' hl hr=>by subst hr;exact hk2 _ _ (Hp.le_trans hle6 hl) rfl
 unfold F.z6n
 exact⟨t.dep,zxh _ (hX.le (Hp.le_trans hl1 hle6)) (Nat.le_refl _) hr hnn λh' hl=>hk3 _ _ hl rfl⟩
end
end Den
end
