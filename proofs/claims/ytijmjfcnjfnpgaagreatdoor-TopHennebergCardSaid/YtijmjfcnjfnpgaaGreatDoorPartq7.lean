/-
  Part 7 of the tools and contracts from which the statement is proved.
-/
import Derived.Test.YtijmjfcnjfnpgaaGreatDoorPartq6
import Derived.Shelf.GgSortFunc.InsertionK
import Derived.Shelf.SlSortCmp.NoneTotal
import Derived.Test.YtijmjfcnjfnpgaaGreatDoorProg
import Derived.Shelf.SlGeneric
import Derived.Shelf.Lays
import Derived.Shelf.SlLaysF0
import Derived.Laws.Externs
import Derived.Shelf.Sort.Plain
import Derived.Shelf.Slices.In.SortNone
set_option linter.all false
open Go.IntKind
section
namespace Den
open Go Iv Go.Sort
theorem zg4{α:Type}[Inhabited α]{enc:α->Value}{off:Nat}{d:Array α}{cs:List Value}(h:off+d.size<=cs.length):putCells enc off d cs.toArray=(Zb cs off (d.toList.map enc)).toArray:=by
 have hl:(Zb cs off (d.toList.map enc)).length=cs.length:=Ya (by simpa using h)
 refine Array.ext' ?_
 show _=Zb cs off (d.toList.map enc)
 refine List.ext_getElem? λi=>?_
 rw[Array.getElem?_toList]
 unfold putCells
 rw[Array.getElem?_mapIdx,List.getElem?_toArray]
 rcases Nat.lt_or_ge i cs.length with hi | hi
 . rw[List.getElem?_eq_getElem hi]
   have e:(Zb cs off (d.toList.map enc))[i]?=some (if off<=i/\i<off+d.size then enc d[i-off]! else cs[i]):=by
    unfold Zb
    by_cases c1:i<off
    . rw[if_neg (by omega),List.append_assoc,List.getElem?_append_left (by simp;omega),List.getElem?_take_of_lt c1,List.getElem?_eq_getElem hi]
    . by_cases c2:i<off+d.size
      . rw[if_pos ⟨by omega,c2⟩,List.append_assoc,List.getElem?_append_right (by simp;omega)]
        have e1:i-(cs.take off).length=i-off:=by simp;omega
        rw[e1,List.getElem?_append_left (by simp;omega),List.getElem?_map]
        have:d.toList[i-off]?=some d[i-off]! := by
         rw[Array.getElem?_toList,getElem!_pos d (i-off) (by omega),getElem?_pos d (i-off) (by omega)]
        rw[this];rfl
      . rw[if_neg (by omega),List.getElem?_append_right (by simp;omega)]
        rw[List.getElem?_drop,List.getElem?_eq_some_iff]
        refine⟨by simp;omega,?_⟩
        congr 1
        simp;omega
   exact e.symm
 . rw[List.getElem?_eq_none hi,List.getElem?_eq_none (by rw[hl];exact hi)];rfl
theorem zfr{α:Type}[Inhabited α]{enc:α->Value}{D:Hp}{w w':World}{blk off n:Nat}{d:Array α}{os:Array Obj}{bl:Blk}{K:Value->Hp->Prop}(hs:Sub D w)(hb:D blk=some bl)(hfz:bl.fz=(0,0))(hlen:off+d.size<=bl.cells.length)
 (hw:w'=grow (putRow enc (ahead w n) blk off d) os) (hK:K (.tuple #[]) (D.ins blk { bl with cells:=Zb bl.cells off (d.toList.map enc) })):z5w K D w (.returned (.tuple #[])) w':=by
 subst hw
 have hwb:=hs _ _ hb
 have hlt:=hs.lt hb
 have hsz:(putRow enc (ahead w n) blk off d).heap.size=w.heap.size:=by
  unfold putRow mapBlock
  simp only[Array.size_modify];rfl
 have hget:∀k,k<w.heap.size->(grow (putRow enc (ahead w n) blk off d) os).heap[k]?=(w.heap.modify blk (onCells (putCells enc off d)))[k]?:=λk hk=>by
  unfold grow
  simp only
  rw[Array.getElem?_append_left (by rw[hsz];exact hk)]
  rfl
 have hne:∀k,k<w.heap.size->k≠blk->(grow (putRow enc (ahead w n) blk off d) os).heap[k]?=w.heap[k]?:=λk hk hkb=>by
  rw[hget k hk,Array.getElem?_modify,if_neg (λhh=>hkb hh.symm)]
 refine⟨_,_,rfl,hK,λk b hk=>?_,⟨?_,λk h1 h2=>?_,rfl,rfl,rfl,?_⟩,λk h1 h2=>?_⟩
 . by_cases hkb:k=blk
   . subst hkb
     rw[Hp.ins_same]at hk;cases hk
     rw[hget k hlt,Array.getElem?_modify,if_pos rfl,hwb,hfz]
     simp only[Option.map_some,onCells]
     rw[zg4 hlen]
   . rw[Hp.ins_ne hkb]at hk
     rw[hne k (hs.lt hk) hkb];exact hs k b hk
 . unfold grow
   simp only[Array.size_append,hsz];omega
 . exact hne k h1 λhh=>by rw[hh,hb]at h2;cases h2
 . show w.drawn<=w.drawn+n;omega
 . by_cases hkb:k=blk
   . subst hkb;rw[hb]at h2;cases h2
   . rw[Hp.ins_ne hkb]at h1;exact absurd h2 h1
theorem zs5{α:Type}[Inhabited α]{enc:α->List Value}{k:Nat}{d:Array α}(hk:∀x,(enc x).length=k):(flatK enc k d).toList.map id=d.toList.flatMap enc:=by
 rw[List.map_id]
 refine List.ext_getElem? λt=>?_
 by_cases ht:t<d.size*k
 . have k0:0<k:=by
    rcases Nat.eq_zero_or_pos k with h | h
    . subst h;simp at ht
    . exact h
   have h1:t/k<d.toList.length:=by rw[Array.length_toList];exact Nat.div_lt_of_lt_mul (by rw[Nat.mul_comm];exact ht)
   have h2:t % k<k:=Nat.mod_lt _ k0
   have e:=z9r (c:=enc) hk (xs:=d.toList) h1 h2
   rw[show t/k*k+t % k=t from by rw[Nat.mul_comm];exact Nat.div_add_mod t k]at e
   rw[e,Array.getElem?_toList]
   have e2:=get_flatK enc k d t ht
   rw[getElem!_pos _ t (by rw[size_flatK];exact ht)]at e2
   rw[getElem?_pos _ t (by rw[size_flatK];exact ht),e2]
   have e3:d[t/k]! = d.toList[t/k]:=by rw[getElem!_pos d (t/k) (by simpa using h1)];rfl
   rw[e3,getElem!_pos _ _ (by rw[hk];exact h2)]
   exact(List.getElem?_eq_getElem (by rw[hk];exact h2)).symm
 . rw[List.getElem?_eq_none (by rw[Array.length_toList,size_flatK];omega),List.getElem?_eq_none (by rw[Y4 hk,Array.length_toList];omega)]
theorem Z4y{K:Value->Hp->Prop}{w w':World}{e:Ending}(h:z5w K Hp.emp w e w'):∃v h',e=.returned v/\K v h'/\∃q os,w'=grow (w.drewN q) os:=by
 obtain⟨v,h',rfl,hK,_,⟨h1,h2,h3,h4,h5,h6⟩,_⟩:=h
 refine⟨v,h',rfl,hK,w'.drawn-w.drawn,w'.heap.extract w.heap.size w'.heap.size,?_⟩
 have e1:w'.heap=w.heap++w'.heap.extract w.heap.size w'.heap.size:=by
  apply Array.ext_getElem?
  intro k
  by_cases hk:k<w.heap.size
  . rw[Array.getElem?_append_left hk];exact h2 k hk rfl
  . rw[Array.getElem?_append_right (by omega),Array.getElem?_extract]
    by_cases hk2:k<w'.heap.size
    . rw[if_pos (by omega)];congr 1;omega
    . rw[if_neg (by omega),getElem?_neg w'.heap k (by omega)]
 cases w' with
 | mk a b c d f=>
   simp only at h3 h4 h5 h6 e1 |-
   unfold grow World.drewN
   cases w
   simp only[World.mk.injEq]at *
   exact⟨e1,h3,by omega,h4,h5⟩
theorem zki{D:Hp}{w:World}{K:Value->Hp->Prop}(hs:Sub D w)(hK:K (.tuple #[]) D):z5w K D w (.returned (.tuple #[])) w:=
 ⟨_,D,rfl,hK,hs,Fr.refl D w,λk h1 h2=>absurd h2 h1⟩
theorem zud{D:Hp}{w:World}{b o i:Nat}{bl:Blk}{v:Value}(hs:Sub D w)(hb:D b=some bl)(hfz:bl.fz=(0,0))(hv:bl.cells[o+i]?=some v):w.cell? ⟨b,o+i,none⟩=some v/\w.frozen? ⟨b,o+i,none⟩=false:=by
 refine⟨hs.cell ?_,?_⟩
 . unfold Hp.cell
   simp only[hb];exact hv
 . have h:=hs _ _ hb
   unfold World.frozen?;simp only[h,hfz];simp
theorem zt3{P:Program}{g:Nat}(h0:∀(p:Option Addr) (c:Nat) (w:World),Calls P g #[.slice p 0 c] w λe w'=>e=.returned (.tuple #[])/\w'=w)
 (h1:∀(blk off cap:Nat) (zs:List Int) (w:World),Holds (Value.int .i64) w blk off zs.toArray->blk<w.heap.size->zs.length<4611686018427387904->Calls P g #[.slice (some ⟨blk,off,none⟩) zs.length cap] w λe w'=>e=.returned (.tuple #[])/\∃n os,w'=grow (putRow (Value.int .i64) (Sort.ahead w n) blk off (zs.mergeSort λx y=>decide (x<=y)).toArray) os)
 (x:Sl) (K:Unit->Hp->Prop) (D:Hp) (w:World) (hs:Sub D w) (hk:zac Z8d 1 Z9g x K D):Calls P g #[.slice x.a x.len x.cap] w (z5w (λv h=>Ty.unit.dn v λr=>K r h) D w):=by
 rcases hk with ⟨h2,h3⟩ | ⟨b,o,bl,xs,h2,h3,h4,h5,h6,h7,h8,h9⟩
 . rw[h2]
   exact(h0 x.a x.cap w).mono λe w' ⟨he,hw⟩=>by rw[he,hw];exact zki hs h3
 . rw[h2,h3]
   have hfm:∀l:List Int,l.flatMap Z8d=l.map (Value.int .i64):=λl=>by
    induction l with
    | nil=>rfl
    | cons a l ih=>rw[List.flatMap_cons,List.map_cons,ih];rfl
   rw[Nat.mul_one]at h7 h8
   rw[hfm]at h8 h9
   have hcell:∀j (hj:j<xs.length),bl.cells[o+j]?=some (.int .i64 xs[j]):=λj hj=>by
    have this:((bl.cells.drop o).take _)[j]?=_:=congrArg (λl=>l[j]?) h8
    rw[List.getElem?_take,if_pos hj,List.getElem?_drop,List.getElem?_map,List.getElem?_eq_getElem hj]at this
    exact this
   refine(h1 b o x.cap xs w (λj hj=>?_) (hs.lt h5) (by omega)).mono λe w' ⟨he,n,os,hw⟩=>?_
   . have hj':j<xs.length:=by simpa using hj
     have e:xs.toArray[j]! = xs[j]:=by rw[getElem!_pos _ j (by simpa using hj')];rfl
     rw[e];exact zud hs h5 h6 (hcell j hj')
   . rw[he]
     refine zfr (bl:=bl) hs h5 h6 (by simp;omega) hw ?_
     exact h9
theorem zo3{α:Type}[Inhabited α]{enc:α->List Value}{k:Nat}{d:Array α}(hk:∀x,(enc x).length=k):(flatK enc k d).toList=d.toList.flatMap enc:=by
 have:=zs5 (d:=d) hk
 rwa [List.map_id]at this
theorem zft{P:Program}{g f:Nat}{C:Nat->Nat->Nat->World->Prop}{lt:(Int×Int)->(Int×Int)->Bool}(h0:∀(p:Option Addr) (c:Nat) (fv:Value) (w:World),Calls P f #[.slice p 0 c,fv] w λe w'=>e=.returned (.tuple #[])/\w'=w)
 (h1:∀(blk off cap:Nat) (d:Array (Int×Int)) (w:World),C blk off d.size w->HoldsK Q8 2 w blk off d->blk<w.heap.size->d.size<4611686018427387904->Calls P f #[.slice (some ⟨blk,off,none⟩) d.size cap,.func (.func g) #[] #[]] w λe w'=>e=.returned (.tuple #[])/\∃n os,w'=Go.Proofs.sortWorldK Q8 2 w blk off n (d.toList.mergeSort lt).toArray os)
 (hlt:∀xs,z6t xs=xs.mergeSort lt) (hC:∀blk off n w,C blk off n w)
 (x:Sl) (K:Unit->Hp->Prop) (D:Hp) (w:World) (hs:Sub D w) (hk:zac Q8 2 z6t x K D):Calls P f #[.slice x.a x.len x.cap,.func (.func g) #[] #[]] w (z5w (λv h=>Ty.unit.dn v λr=>K r h) D w):=by
 have hc2:∀e:Int×Int,(Q8 e).length=2:=λ_=>rfl
 rcases hk with ⟨h2,h3⟩ | ⟨b,o,bl,xs,h2,h3,h4,h5,h6,h7,h8,h9⟩
 . rw[h2]
   exact(h0 x.a x.cap _ w).mono λe w' ⟨he,hw⟩=>by rw[he,hw];exact zki hs h3
 . rw[h2,h3]
   have hfl:(xs.flatMap Q8).length=xs.length*2:=Y4 hc2 xs
   have hfk:(flatK Q8 2 xs.toArray).toList=xs.flatMap Q8:=zo3 (d:=xs.toArray) hc2
   have hcell:∀j (hj:j<xs.length*2),bl.cells[o+j]?=some ((xs.flatMap Q8)[j]'(by rw[hfl];exact hj)):=λj hj=>by
    have this:((bl.cells.drop o).take _)[j]?=_:=congrArg (λl=>l[j]?) h8
    rw[List.getElem?_take,if_pos hj,List.getElem?_drop,List.getElem?_eq_getElem (l:=xs.flatMap Q8) (by rw[hfl];exact hj)]at this
    exact this
   have hsz:xs.toArray.size=xs.length:=List.size_toArray
   have hcall:=h1 b o x.cap xs.toArray w (hC _ _ _ _) (λj hj=>?_) (hs.lt h5) (by rw[hsz];omega)
   . rw[hsz]at hcall
     refine hcall.mono λe w' ⟨he,n,os,hw⟩=>?_
     rw[he]
     have hsl:(z6t xs).length=xs.length:=by rw[hlt];exact List.length_mergeSort _
     refine zfr (enc:=id) (d:=flatK Q8 2 (xs.mergeSort lt).toArray) (bl:=bl) hs h5 h6 (by rw[size_flatK,List.size_toArray,<-hlt,hsl];omega) hw ?_
     have e2:(flatK Q8 2 (xs.mergeSort lt).toArray).toList.map id=(z6t xs).flatMap Q8:=by
      rw[List.map_id,zo3 (d:=(xs.mergeSort lt).toArray) hc2,hlt]
     rw[e2];exact h9
   . have hj':j<xs.length*2:=by simpa [hsz] using hj
     have e:(flatK Q8 2 xs.toArray)[j]! = (xs.flatMap Q8)[j]'(by rw[hfl];exact hj'):=by
      rw[getElem!_pos _ j hj]
      have this:((flatK Q8 2 xs.toArray).toList)[j]?=(xs.flatMap Q8)[j]?:=by rw[hfk]
      rw[List.getElem?_eq_getElem (l:=xs.flatMap Q8) (by rw[hfl];exact hj'),List.getElem?_eq_getElem (l:=(flatK Q8 2 xs.toArray).toList) (by rw[Array.length_toList];exact hj)]at this
      have:=Option.some.inj this
      rw[<-this];rfl
     show w.cell? _=some (id _)/\_
     rw[e]
     exact zud hs h5 h6 (hcell j hj')
end Den
end

section
namespace Den
open Go Iv Go.Sort
theorem ltE{x y:Int×Int}:Go.Proofs.ltOf z1e x y=true↔x.1<y.1\/x.1=y.1/\x.2<y.2:=by
 unfold Go.Proofs.ltOf z1e
 rw[decide_eq_true_iff]
 by_cases h1:x.1<y.1
 . rw[if_pos h1];simp[h1]
 . rw[if_neg h1]
   by_cases h2:y.1<x.1
   . rw[if_pos h2];constructor<;>intro h<;>omega
   . rw[if_neg h2]
     by_cases h3:x.2<y.2
     . rw[if_pos h3];constructor<;>intro h<;>omega
     . rw[if_neg h3]
       by_cases h4:y.2<x.2
       . rw[if_pos h4];constructor<;>intro h<;>omega
       . rw[if_neg h4];constructor<;>intro h<;>omega
theorem zwp{x y:Int×Int}:Go.Proofs.ltOf z1e x y=false↔¬(x.1<y.1\/x.1=y.1/\x.2<y.2):=by
 rw[<-ltE];simp
theorem Zjf:SWO (Go.Proofs.ltOf z1e):=⟨λx=>zwp.2 (by omega),λx y z h1 h2=>ltE.2 (by have:=ltE.1 h1;have:=ltE.1 h2;omega),λx y z h1 h2=>zwp.2 (by have:=zwp.1 h1;have:=zwp.1 h2;omega)⟩
theorem Zkh:∀x y:Int×Int,Go.Proofs.ltOf z1e x y=false->Go.Proofs.ltOf z1e y x=false->x=y:=λx y h1 h2=>by
 have h1:=zwp.1 h1
 have h2:=zwp.1 h2
 exact Prod.ext (by omega) (by omega)
theorem znx:∀x:Int×Int,∀v∈Q8 x,v.oneCell'=true:=λx v hv=>by
 simp only[Q8,List.mem_cons,List.not_mem_nil,or_false]at hv
 rcases hv with rfl | rfl<;>rfl
theorem zjt{P:Program}{g:Nat}{F:zl}(hF:Z7u P g F){blk off n:Nat}{w:World}(hk:∀(x y:Int×Int) (K:Value->Hp->Prop),(∀h,K (.int .i64 (z1e x y)) h)->F [.agg (Q8 x).toArray,.agg (Q8 y).toArray] K Hp.emp):Go.Proofs.CmpLays P g #[] Q8 2 z1e blk off n w:=λm os dk _ x y=>by
 have hs:Sub Hp.emp (Go.Proofs.sortWorldK Q8 2 w blk off m dk os):=λk b hb=>by cases hb
 have h:=hF.2 [.agg (Q8 x).toArray,.agg (Q8 y).toArray] (λv _=>v=.int .i64 (z1e x y)) Hp.emp _ hs (hk x y _ λ_=>rfl)
 refine h.mono λe w' hp=>?_
 obtain⟨v,h',rfl,rfl,hq⟩:=Z4y hp
 exact⟨rfl,hq⟩
end Den
end

section
namespace Den
open Go Iv Lx
def cm(a b:Int):Int:=if a<b then -1 else if b<a then 1 else 0
theorem zap{x y:Int×Int}:z1e x y=if cm x.1 y.1≠0 then cm x.1 y.1 else cm x.2 y.2:=by
 unfold z1e cm
 by_cases h1:x.1<y.1
 . rw[if_pos h1,if_pos h1];rfl
 . by_cases h2:y.1<x.1
   . rw[if_neg h1,if_neg h1,if_pos h2,if_pos h2];rfl
   . simp[h1,h2]
theorem zcy{h:Hp}{x y:Int×Int}{K:Int->Hp->Prop}(H:∀h',h.le h'->K (z1e x y) h'):F.X3 ⟨x.1,x.2⟩ ⟨y.1,y.2⟩ K h:=by
 unfold F.X3
 refine Vj (Vj ?_)
 show Yo [.int .i64 (cm x.1 y.1),.int .i64 (cm x.2 y.2)] _ h
 refine z8m λp3 h3 hl3 c3=>?_
 have hi:IL h3 ⟨some p3,2,2⟩ [cm x.1 y.1,cm x.2 y.2]:=⟨z0g (size:=1) (n:=2) c3 rfl,Nat.le_refl _⟩
 refine zd (λr h'=>r=z1e x y) (λK2 hk2=>?_) λr h' hl hr=>by subst hr;exact H _ (Hp.le_trans hl3 hl)
 unfold F.z8a
 refine Y0 (n:=2) (by omega) (λi h'=>h'=h3/\(0<i->cm x.1 y.1=0)/\(1<i->cm x.2 y.2=0)) ⟨rfl,by omega,by omega⟩ ?_
 rintro i h4 hi2 ⟨rfl,z1,z2⟩ k hk4
 refine ze (λh5=>?_) (λh5=>?_)
 . have hi':i<2:=by have:(i:Int)<((2:Nat):Int):=h5;omega
   rcases(by omega:i=0\/i=1)with rfl | rfl
   . refine hi.get 0 rfl (by simp) ?_
     simp only[List.getElem_cons_zero]
     refine yk (λh6=>hk2 _ _ (Hp.le_refl _) (by rw[zap,if_pos h6])) (λh6=>hk4 _ hi' ⟨rfl,λ_=>h6,by omega⟩)
   . have z:=z1 (by omega)
     refine hi.get 1 rfl (by simp) ?_
     simp only[List.getElem_cons_succ,List.getElem_cons_zero]
     refine yk (λh6=>hk2 _ _ (Hp.le_refl _) (by rw[zap,if_neg (by omega)])) (λh6=>hk4 _ hi' ⟨rfl,λ_=>z,λ_=>h6⟩)
 . have:i=2:=by have:¬(i:Int)<((2:Nat):Int):=h5;omega
   subst this
   exact hk2 _ _ (Hp.le_refl _) (by rw[zap,if_neg (by have:=z1 (by omega);omega),z2 (by omega)])
theorem z83{h:Hp}{x y:Int×Int}{K:Int->Hp->Prop}(H:∀h',h.le h'->K (z1e x y) h'):F.z1a ⟨x.1,x.2⟩ ⟨y.1,y.2⟩ K h:=by
 unfold F.z1a
 refine z8m λp1 h1 hl1 c1=>?_
 refine z8m λp2 h2 hl2 c2=>?_
 have i1:IL h2 ⟨some p1,2,2⟩ [x.1,x.2]:=IL.le ⟨z0g (size:=1) (n:=2) c1 rfl,Nat.le_refl _⟩ hl2
 have i2:IL h2 ⟨some p2,2,2⟩ [y.1,y.2]:=⟨z0g (size:=1) (n:=2) c2 rfl,Nat.le_refl _⟩
 have j1:=i1.cut (n:=2) (Nat.le_refl _)
 have j2:=i2.cut (n:=2) (Nat.le_refl _)
 refine⟨by omega,by omega,Int.le_refl _,by omega,by omega,Int.le_refl _,?_⟩
 have hle:=Hp.le_trans hl1 hl2
 refine zd (λr h'=>r=z1e x y) (λK2 hk2=>?_) λr h' hl hr=>by subst hr;exact H _ (Hp.le_trans hle hl)
 unfold F.V1
 have l1:=j1.len
 have l2:=j2.len
 refine Y0 (n:=2) (by omega) (λi h'=>h2.le h'/\(0<i->cm x.1 y.1=0)/\(1<i->cm x.2 y.2=0)) ⟨Hp.le_refl _,by omega,by omega⟩ ?_
 rintro i h4 hi2 ⟨hl4,z1,z2⟩ k hk4
 refine ze (λh5=>?_) (λh5=>?_)
 . have hi':i<2:=by have:(i:Int)<((2:Nat):Int):=h5;omega
   rcases(by omega:i=0\/i=1)with rfl | rfl
   . refine(j1.le hl4).get 0 rfl (by simp) (ze (λhh=>absurd hh (by show ¬((0:Nat):Int)>=((2:Nat):Int);omega)) λ_=>?_)
     refine(j2.le hl4).get 0 rfl (by simp) ?_
     refine Vj ?_
     show ifP (cm x.1 y.1 != 0) _ _
     refine yk (λh6=>hk2 _ _ hl4 ?_) (λh6=>hk4 _ hi' ⟨hl4,λ_=>h6,by omega⟩)
     have e:z1e x y=cm x.1 y.1:=by rw[zap,if_pos h6]
     exact e.symm
   . have z:=z1 (by omega)
     refine(j1.le hl4).get 1 rfl (by simp) (ze (λhh=>absurd hh (by show ¬((1:Nat):Int)>=((2:Nat):Int);omega)) λ_=>?_)
     refine(j2.le hl4).get 1 rfl (by simp) ?_
     refine Vj ?_
     show ifP (cm x.2 y.2 != 0) _ _
     have e:z1e x y=cm x.2 y.2:=by rw[zap,if_neg (by omega)]
     exact yk (λh6=>hk2 _ _ hl4 e.symm) (λh6=>hk4 _ hi' ⟨hl4,λ_=>z,λ_=>h6⟩)
 . have:i=2:=by have:¬(i:Int)<((2:Nat):Int):=h5;omega
   subst this
   refine ze (λhh=>absurd hh (by show ¬((2:Nat):Int)<((2:Nat):Int);omega)) λ_=>hk2 _ _ hl4 ?_
   rw[zap,if_neg (by have:=z1 (by omega);omega),z2 (by omega)]
end Den
end

section
namespace Go.Proofs
open Go.Shelf
def Tryz.sortI_ren:Go.Shelf.Ren:=⟨λ| 189=>109 | 125=>182 | 257=>181 | 128=>243 | 129=>244 | 294=>234 | 295=>235 | 296=>236 | 297=>237 | 298=>238 | 299=>239 | 216=>240 | 300=>241 | 301=>242 | 328=>288 | 329=>289 | 330=>290 | 331=>291 | 332=>292 | 215=>224 | 343=>325 | n=>n,λ| 28=>41 | 3=>3 | 46=>235 | 0=>0 | 51=>206 | 53=>203 | 4=>4 | 183=>273 | 182=>272 | 131=>184 | 5=>5 | 9=>9 | 218=>313 | 222=>317 | 228=>342 | 229=>135 | n=>n,λ| n=>n⟩
theorem Tryz.sortI:Go.Proofs.Lays.n189 Tryz.prog Tryz.sortI_ren:={
 mixed:=by kernel_rfl
 f125:=Tryz.func182.trans (congrArg some (by kernel_rfl))
 f128:=Tryz.func243.trans (congrArg some (by kernel_rfl))
 f129:=Tryz.func244.trans (congrArg some (by kernel_rfl))
 f189:=Tryz.func109.trans (congrArg some (by kernel_rfl))
 f215:=Tryz.func224.trans (congrArg some (by kernel_rfl))
 f216:=Tryz.func240.trans (congrArg some (by kernel_rfl))
 f257:=Tryz.func181.trans (congrArg some (by kernel_rfl))
 f294:=Tryz.func234.trans (congrArg some (by kernel_rfl))
 f295:=Tryz.func235.trans (congrArg some (by kernel_rfl))
 f296:=Tryz.func236.trans (congrArg some (by kernel_rfl))
 f297:=Tryz.func237.trans (congrArg some (by kernel_rfl))
 f298:=Tryz.func238.trans (congrArg some (by kernel_rfl))
 f299:=Tryz.func239.trans (congrArg some (by kernel_rfl))
 f300:=Tryz.func241.trans (congrArg some (by kernel_rfl))
 f301:=Tryz.func242.trans (congrArg some (by kernel_rfl))
 f328:=Tryz.func288.trans (congrArg some (by kernel_rfl))
 f329:=Tryz.func289.trans (congrArg some (by kernel_rfl))
 f330:=Tryz.func290.trans (congrArg some (by kernel_rfl))
 f331:=Tryz.func291.trans (congrArg some (by kernel_rfl))
 f332:=Tryz.func292.trans (congrArg some (by kernel_rfl))
 f343:=Tryz.func325.trans (congrArg some (by kernel_rfl))
 t0:=Tryz.underlying0
 a0:=Tryz.isAgg0
 z0:=Tryz.sizeOf0
 v0:=Tryz.zeroValue0
 t3:=Tryz.underlying3
 a3:=Tryz.isAgg3
 z3:=Tryz.sizeOf3
 v3:=Tryz.zeroValue3
 t4:=Tryz.underlying4
 a4:=Tryz.isAgg4
 z4:=Tryz.sizeOf4
 v4:=Tryz.zeroValue4
 t5:=Tryz.underlying5
 a5:=Tryz.isAgg5
 z5:=Tryz.sizeOf5
 v5:=Tryz.zeroValue5
 t9:=Tryz.underlying9
 a9:=Tryz.isAgg9
 z9:=Tryz.sizeOf9
 v9:=Tryz.zeroValue9
 t28:=Tryz.underlying41
 a28:=Tryz.isAgg41
 z28:=Tryz.sizeOf41
 v28:=Tryz.zeroValue41
 t46:=Tryz.underlying235
 a46:=Tryz.isAgg235
 z46:=Tryz.sizeOf235
 v46:=Tryz.zeroValue235
 t51:=Tryz.underlying206
 a51:=Tryz.isAgg206
 z51:=Tryz.sizeOf206
 v51:=Tryz.zeroValue206
 t53:=Tryz.underlying203
 a53:=Tryz.isAgg203
 z53:=Tryz.sizeOf203
 v53:=Tryz.zeroValue203
 t131:=Tryz.underlying184
 a131:=Tryz.isAgg184
 z131:=Tryz.sizeOf184
 v131:=Tryz.zeroValue184
 t182:=Tryz.underlying272
 a182:=Tryz.isAgg272
 z182:=Tryz.sizeOf272
 v182:=Tryz.zeroValue272
 t183:=Tryz.underlying273
 a183:=Tryz.isAgg273
 z183:=Tryz.sizeOf273
 v183:=Tryz.zeroValue273
 t218:=Tryz.underlying313
 a218:=Tryz.isAgg313
 z218:=Tryz.sizeOf313
 v218:=Tryz.zeroValue313
 t222:=Tryz.underlying317
 a222:=Tryz.isAgg317
 z222:=Tryz.sizeOf317
 v222:=Tryz.zeroValue317
 t228:=Tryz.underlying342
 a228:=Tryz.isAgg342
 z228:=Tryz.sizeOf342
 v228:=Tryz.zeroValue342
 t229:=Tryz.underlying135
 a229:=Tryz.isAgg135
 z229:=Tryz.sizeOf135
 v229:=Tryz.zeroValue135 }
def Tryz.sortP_ren:Go.Shelf.Ren:=⟨λ| 6=>112 | 15=>182 | 14=>183 | 28=>243 | 29=>244 | 20=>245 | 21=>246 | 22=>247 | 23=>248 | 24=>249 | 25=>250 | 26=>251 | 27=>252 | 46=>293 | 47=>289 | 48=>290 | 49=>294 | 50=>295 | 57=>326 | n=>n,λ| 22=>22 | 24=>58 | 25=>161 | 3=>3 | 39=>235 | 0=>0 | 53=>206 | 55=>203 | 4=>4 | 46=>273 | 45=>272 | 50=>184 | 5=>5 | 9=>9 | 66=>313 | 70=>317 | 76=>342 | 77=>135 | n=>n,λ| n=>n⟩
theorem Tryz.sortP:Go.Proofs.SlLaysF0.n6 Tryz.prog Tryz.sortP_ren:={
 mixed:=by kernel_rfl
 f6:=⟨Tryz.f112.name,by decide,Tryz.func112.trans (congrArg some (by kernel_rfl))⟩
 f14:=⟨Tryz.f183.name,by decide,Tryz.func183.trans (congrArg some (by kernel_rfl))⟩
 f15:=Tryz.func182.trans (congrArg some (by kernel_rfl))
 f20:=⟨Tryz.f245.name,by decide,Tryz.func245.trans (congrArg some (by kernel_rfl))⟩
 f21:=⟨Tryz.f246.name,by decide,Tryz.func246.trans (congrArg some (by kernel_rfl))⟩
 f22:=⟨Tryz.f247.name,by decide,Tryz.func247.trans (congrArg some (by kernel_rfl))⟩
 f23:=⟨Tryz.f248.name,by decide,Tryz.func248.trans (congrArg some (by kernel_rfl))⟩
 f24:=⟨Tryz.f249.name,by decide,Tryz.func249.trans (congrArg some (by kernel_rfl))⟩
 f25:=⟨Tryz.f250.name,by decide,Tryz.func250.trans (congrArg some (by kernel_rfl))⟩
 f26:=⟨Tryz.f251.name,by decide,Tryz.func251.trans (congrArg some (by kernel_rfl))⟩
 f27:=⟨Tryz.f252.name,by decide,Tryz.func252.trans (congrArg some (by kernel_rfl))⟩
 f28:=Tryz.func243.trans (congrArg some (by kernel_rfl))
 f29:=Tryz.func244.trans (congrArg some (by kernel_rfl))
 f46:=⟨Tryz.f293.name,by decide,Tryz.func293.trans (congrArg some (by kernel_rfl))⟩
 f47:=Tryz.func289.trans (congrArg some (by kernel_rfl))
 f48:=Tryz.func290.trans (congrArg some (by kernel_rfl))
 f49:=⟨Tryz.f294.name,by decide,Tryz.func294.trans (congrArg some (by kernel_rfl))⟩
 f50:=⟨Tryz.f295.name,by decide,Tryz.func295.trans (congrArg some (by kernel_rfl))⟩
 f57:=⟨Tryz.f326.name,by decide,Tryz.func326.trans (congrArg some (by kernel_rfl))⟩
 t0:=Tryz.underlying0
 a0:=Tryz.isAgg0
 z0:=Tryz.sizeOf0
 v0:=Tryz.zeroValue0
 t3:=Tryz.underlying3
 a3:=Tryz.isAgg3
 z3:=Tryz.sizeOf3
 v3:=Tryz.zeroValue3
 t4:=Tryz.underlying4
 a4:=Tryz.isAgg4
 z4:=Tryz.sizeOf4
 v4:=Tryz.zeroValue4
 t5:=Tryz.underlying5
 a5:=Tryz.isAgg5
 z5:=Tryz.sizeOf5
 v5:=Tryz.zeroValue5
 t9:=Tryz.underlying9
 a9:=Tryz.isAgg9
 z9:=Tryz.sizeOf9
 v9:=Tryz.zeroValue9
 t22:=Tryz.underlying22
 a22:=Tryz.isAgg22
 z22:=Tryz.sizeOf22
 v22:=Tryz.zeroValue22
 t25:=Tryz.underlying161
 a25:=Tryz.isAgg161
 z25:=Tryz.sizeOf161
 v25:=Tryz.zeroValue161
 t39:=Tryz.underlying235
 a39:=Tryz.isAgg235
 z39:=Tryz.sizeOf235
 v39:=Tryz.zeroValue235
 t45:=Tryz.underlying272
 a45:=Tryz.isAgg272
 z45:=Tryz.sizeOf272
 v45:=Tryz.zeroValue272
 t46:=Tryz.underlying273
 a46:=Tryz.isAgg273
 z46:=Tryz.sizeOf273
 v46:=Tryz.zeroValue273
 t50:=Tryz.underlying184
 a50:=Tryz.isAgg184
 z50:=Tryz.sizeOf184
 v50:=Tryz.zeroValue184
 t53:=Tryz.underlying206
 a53:=Tryz.isAgg206
 z53:=Tryz.sizeOf206
 v53:=Tryz.zeroValue206
 t55:=Tryz.underlying203
 a55:=Tryz.isAgg203
 z55:=Tryz.sizeOf203
 v55:=Tryz.zeroValue203
 t66:=Tryz.underlying313
 a66:=Tryz.isAgg313
 z66:=Tryz.sizeOf313
 v66:=Tryz.zeroValue313
 t70:=Tryz.underlying317
 a70:=Tryz.isAgg317
 z70:=Tryz.sizeOf317
 v70:=Tryz.zeroValue317
 t76:=Tryz.underlying342
 a76:=Tryz.isAgg342
 z76:=Tryz.sizeOf342
 v76:=Tryz.zeroValue342
 t77:=Tryz.underlying135
 a77:=Tryz.isAgg135
 z77:=Tryz.sizeOf135
 v77:=Tryz.zeroValue135 }
end Go.Proofs
end

noncomputable section
set_option maxRecDepth 100000
namespace Den
open Go Go.Proofs Go.Proofs.Tryz
def zpr:ArgT (Tnumber_embedding×Sl×Unit):=(ac z5a (asl az))
def zq7:Ty Sl:=ts
def zro:zl:=mkE zpr zq7 λa=>F.y_number_embedding_image a.1 a.2.1
def Zbw(n:Nat):Cfg:=(cgP 60 [(300,zrl),(258,mkE zpr zq7 (λa=>F.y_number_embedding_image_ n a.1 a.2.1)),(301,zrm),(256,zrn),(266,zlr),(302,Z2d)] [] [(12,2),(39,2),(46,2),(48,2),(55,2)] [2])
theorem Z72:∃fn,prog.funcs[258]?=some fn/\fn.body.isNone=false/\(fn.name == "runtime.NumGoroutine")=false:=⟨_,func258,rfl,by decide⟩
set_option maxHeartbeats 4000000 in
theorem Z7d:∀n a K D w,Sub D w->F.y_number_embedding_image_ n a.1 a.2.1 K D->Calls prog 258 (zpr.up a).toArray w (z5w (λv h=>zq7.dn v λr=>K r h) D w)
 | 0,_,_,_,_,_,h=>h.elim
 | n+1,a,K,D,w,hs,h=>z1u (C:=Zbw n) (F:=λa=>F.y_number_embedding_image_ (n+1) a.1 a.2.1) (fn:=f258) (c:=bd f258) (an:=(.seq .leaf (.seq (.seq .leaf (.cond (.seq (.draw [0,1,2,3,4,5,6]) .leaf) .leaf)) (.seq .leaf (.seq (.block (.loop [(6,.i)] (.seq (.seq .leaf (.cond .leaf .leaf)) (.block .leaf)))) (.seq (.draw [0,1,2,3,4,5]) (.seq (.seq .leaf (.cond (.seq .leaf .leaf) .leaf)) (.seq (.draw [0,1,2,3,4,5,7,8,9,10,11,12,13,6,14,15,16]) (.seq .leaf .leaf))))))))) ⟨Z63,(Y8 Z72 (Z7d n)),Z64,Z65,zto,Zh7,trivial⟩ trivial func258 rfl rfl (λ_=>rfl) (by intro a K D;kernel_rfl) a K D w hs h
theorem Z66:EnP 258 zro false:=Y8 Z72 (λa K D w hs h=>h.elim λm h=>Z7d m a K D w hs h)
def zrp:zl:=mkE (asl (asl az)) (t2 z5a ti) λa=>F.z7g a.1 a.2.1
theorem Z67:EnP 257 zrp false:=eo (cgP 44 [(258,zro)] [] [(21,6),(35,6),(40,6),(41,6)] [4,6,38]) (.q (.q (.s (.q (.b (.loop [(4,.box [.sl,.sl]),(6,.box [.sl,.sl]),(16,.i)] (.q (.s (.c .l .l) (.s (.b (.q (.s (.draw [0,1,2,3,4,5,6,7,8,9,10,11,12]) (.s (.q (.c .w .l)) .l)))) .l)))))) .w))) func257 ⟨Z66,trivial⟩
def Z2e:zl:=mkE (asl az) (t2 ts ti) λa=>F.z4c a.1
theorem Zh8:EnP 254 Z2e false:=eo (cgP 41 [(255,zri),(257,zrp)] [] [(17,6),(25,7),(29,6),(33,6),(37,6)] [6,7]) (.q (.q (.s (.q (.b (.loop [(4,.s),(11,.i)] (.q (.s (.c .l .l) (.join [(4,.s)] (.b (.q (.b (.q (.c .l (.q (.c .l (.q (.s (.q (.c .w .l)) .l))))))))) .l)))))) .w))) func254 ⟨Z60,Z67,trivial⟩
def Z2f:zl:=mkE (asl az) ts λa=>F.V9 a.1
theorem Zh9:EnP 262 Z2f false:=eo (cgP 23 [(196,zrg)] [] [] [5]) (.q (.q (.s (.q (.b (.loop [(11,.i)] (.q (.s (.c .l .l) (.s (.b .w) .l)))))) .w))) func262 ⟨Z5y,trivial⟩
def zrq:zl:=mkE (ac Zq az) Zq λa=>F.z1n a.1
theorem Z68:EnP 189 zrq false:=eo (cgP 26 [(262,Z2f)] [] [(6,1),(10,1),(17,3),(23,3)] [1,2,3,21]) (.q (.q (.s (.q (.b (.loop [(3,.box [.sl,.sl]),(13,.i)] (.q (.s (.c .l .l) (.s (.b (.q (.draw [0,1,2,3,4,5,6,7]))) .l)))))) .w))) func189 ⟨Zh9,trivial⟩
def zls:zl:=mkE (asl az) (t2 ts ti) λa=>F.z2h a.1
theorem ztp:EnP 186 zls false:=eo (cgP 59 [(254,Z2e),(189,zrq),(255,zri),(256,zrn),(257,zrp),(258,zro)] [] [(29,8),(33,8),(36,9),(39,8),(48,8),(51,9)] [8,9,10,55]) (.q (.q (.s (.q (.c .w .l)) (.q (.s (.q (.b (.loop [(6,.s),(22,.i)] (.q (.s (.c .l .l) (.s (.b (.q (.q (.join [(9,.box [.sl,.sl])] (.q (.c .l (.q (.s (.q (.c .w .l)) .l)))) .l)))) .l)))))) .w))))) func186 ⟨Zh8,Z68,Z60,Z65,Z67,Z66,trivial⟩
def Z2g:zl:=mkE (asl az) (t2 ts ti) λa=>F.z1m a.1
theorem Zha:EnP 123 Z2g false:=eo (cgP 43 [(187,Z1y),(186,zls)]) (.q (.q (.s (.q (.c .w .l)) (.q (.s (.q (.b (.loop [(4,.s),(23,.i)] (.q (.s (.c .l .l) (.s (.b (.q (.draw [0,1,2,3,4,5,6,7,8,9,10,11,12,13,14]))) .l)))))) .w))))) func123 ⟨Zgs,ztp,trivial⟩
def Z2h:zl:=mkE (ac Qt az) Qt λa=>F.z5l a.1
theorem Zhb:EnP 307 Z2h false:=eo (cgP 9 [(339,zr4)] [] [(3,1),(6,1)] [1,2]) (.q (.s (.draw [0,1,3,4,2,5,6]) .l)) func307 ⟨Z5n,trivial⟩
def zh4:zl:=mkE (asl az) ts λa=>F.z40 a.1
theorem zmq:EnP 264 zh4 false:=eo (cgP 23 [(307,Z2h)] [] [] [5]) (.q (.q (.s (.q (.b (.loop [(11,.i)] (.q (.s (.c .l .l) (.s (.b .w) .l)))))) .w))) func264 ⟨Zhb,trivial⟩
def zrr:zl:=mkE (asl (asl (asl az))) ts λa=>F.z82 a.1 a.2.1 a.2.2.1
theorem Z69:EnP 304 zrr false:=eo (cgP 16 [(308,zln),(264,zh4),(337,zh3)]) (.q (.s (.q (.c .w .l)) .w)) func304 ⟨ztk,zmq,zmp,trivial⟩
def zps:ArgT (Sl×Sl×Unit):=(asl (asl az))
def zq8:Ty Int:=ti
def zrs:zl:=mkE zps zq8 λa=>F.z8y a.1 a.2.1
def Zbx(n:Nat):Cfg:=(cgP 75 [(77,zk2),(261,mkE zps zq8 (λa=>F.Vm n a.1 a.2.1)),(266,zlr),(304,zrr)])
theorem Z73:∃fn,prog.funcs[261]?=some fn/\fn.body.isNone=false/\(fn.name == "runtime.NumGoroutine")=false:=⟨_,func261,rfl,by decide⟩
set_option maxHeartbeats 4000000 in
theorem Z7e:∀n a K D w,Sub D w->F.Vm n a.1 a.2.1 K D->Calls prog 261 (zps.up a).toArray w (z5w (λv h=>zq8.dn v λr=>K r h) D w)
 | 0,_,_,_,_,_,h=>h.elim
 | n+1,a,K,D,w,hs,h=>z1u (C:=Zbx n) (F:=λa=>F.Vm (n+1) a.1 a.2.1) (fn:=f261) (c:=bd f261) (an:=(.seq .leaf (.seq (.seq .leaf (.cond (.seq .leaf .leaf) .leaf)) (.seq .leaf (.seq (.draw [0,1,2,3,4,5,6,7,8,9,10,11]) (.seq .leaf (.join [] (.block (.seq .leaf (.cond (.seq .leaf .leaf) (.seq .leaf (.cond (.seq .leaf .leaf) .leaf))))) (.seq (.draw [0,1,2,3,5,6,7,8,9,10,11,12,4,13,14,15,16]) (.seq .leaf .leaf))))))))) ⟨zpf,(Y8 Z73 (Z7e n)),zto,Z69,trivial⟩ trivial func261 rfl rfl (λ_=>rfl) (by intro a K D;kernel_rfl) a K D w hs h
theorem Z6a:EnP 261 zrs false:=Y8 Z73 (λa K D w hs h=>h.elim λm h=>Z7e m a K D w hs h)
def Z2i:zl:=mkE (asl az) tb λa=>F.zb6 a.1
theorem Zhc:EnP 303 Z2i false:=eo (cgP 25 [(133,zby),(300,zrl),(263,zea),(261,zrs)]) (.q (.s (.q (.c .w .l)) (.s (.q (.b (.loop [(13,.i)] (.q (.s (.c .l .l) (.s (.b (.q (.q (.c .w .l)))) .l)))))) .w))) func303 ⟨zew,Z63,zis,Z6a,trivial⟩
def Z2j:zl:=mkE (asl (asl az)) tb λa=>F.zet a.1 a.2.1
theorem Zhd:EnP 260 Z2j false:=eo (cgP 20 [(263,zea),(303,Z2i)]) (.q (.s (.q (.b (.loop [(9,.i)] (.q (.s (.c .l .l) (.s (.b (.q (.q (.c .w .l)))) .l)))))) .w)) func260 ⟨zis,Zhc,trivial⟩
def Z2k:zl:=mkE (asl (asl az)) ti λa=>F.zes a.1 a.2.1
theorem Zhe:EnP 188 Z2k false:=eo (cgP 13 [(260,Z2j),(261,zrs)]) (.q (.s (.q (.c .w .l)) .w)) func188 ⟨Zhd,Z6a,trivial⟩
def zlt:zl:=mkE (ac Zq az) ti λa=>F.z2i a.1
theorem ztq:EnP 126 zlt false:=eo (cgP 8 [(188,Z2k)] [] [(3,1),(5,1)] [1]) (.q .w) func126 ⟨Zhe,trivial⟩
def Z2l:zl:=mkE (asl (ap az)) tb λa=>F.Vv a.1 a.2.1
theorem Zhf:EnP 125 Z2l false:=eo (cgP 10 [(126,zlt)]) (.q .w) func125 ⟨ztq,trivial⟩
def Z2m:zl:=mkE (asl (ArgT.fnc 125 1 az)) ti λa=>F.Zm a.1 a.2.1
theorem Zhg:EnP 124 Z2m false:=eo (cgP 19 [(125,Z2l)]) (.q (.s (.q (.b (.loop [(8,.i)] (.q (.s (.c .l .l) (.s (.b (.q (.q (.c .w .l)))) .l)))))) .w)) func124 ⟨Zhf,trivial⟩
def Z2n:zl:=mkE (ac Zq (ac Zq (ArgT.fn 266 az))) (t2 Zq ti) λa=>F.W5 a.1 a.2.1
theorem Zhh:EnP 265 Z2n false:=eo (cgP 39 [(186,zls),(266,zlr)] [] [] [3,4,6]) (.q (.q (.s (.q (.c .w .l)) (.q (.s (.draw [0,1,2,3,4,5,6,7,8,9,10,11,12,13,14]) .l))))) func265 ⟨ztp,zto,trivial⟩
def zrt:zl:=mkE (ac Zq (ac Zq az)) (t2 Zq ti) λa=>F.z65 a.1 a.2.1
theorem Z6b:EnP 191 zrt false:=eo (cgP 11 [(265,Z2n)] [] [] [2,3,4]) (.q .w) func191 ⟨Zhh,trivial⟩
def zlu:zl:=mkE (ap (ac Zq (ai az))) Zq λa=>F.y_matrix_calc_take a.1 a.2.1 a.2.2.1
theorem ztr:EnP 192 zlu false:=eo (cgP 24 [(59,zlk)] [] [] [4,6]) (.q (.join [] (.q (.c .l .l)) (.s (.q (.c .w .l)) .w))) func192 ⟨zth,trivial⟩
def zru:zl:=mkE (ap (ac Zq (ac Zq az))) Zq λa=>F.y_matrix_calc_mul a.1 a.2.1 a.2.2.1
theorem Z6c:EnP 128 zru false:=eo (cgP 19 [(191,zrt),(192,zlu)] [] [] [4,5,6,7]) (.q (.q .w)) func128 ⟨Z6b,ztr,trivial⟩
def Z2o:zl:=mkE (ac qe az) tb λa=>F.z20 a.1
theorem Zhi:EnP 363 Z2o false:=eo (cgP 7 [] [] [(3,1)] [1]) (.q .w) func363 trivial
def Z2p:zl:=mkE (ac Qt (ac Qt az)) (t2 Qt ti) λa=>F.z5k a.1 a.2.1
theorem Zhj:EnP 342 Z2p false:=eo (cgP 21 [(363,Z2o),(349,zh2),(350,zli)] [] [(6,3),(10,2),(12,3),(15,2),(17,3)] [2,3,4]) (.q (.s (.q (.c .w .l)) (.s (.draw [0,1,2,3,5,6,7,8,4,9,10,11,12]) .l))) func342 ⟨Zhi,zmo,zte,trivial⟩
def Z2q:zl:=mkE (asl (asl az)) ts λa=>F.ziu a.1 a.2.1
theorem Zhk:EnP 343 Z2q false:=eo (cgP 32 [(340,zlo),(341,zlp),(309,zlq),(264,zh4),(337,zh3)]) (.q (.q (.q .w))) func343 ⟨ztl,ztm,ztn,zmq,zmp,trivial⟩
def zpt:ArgT (Sl×Sl×Unit):=(asl (asl az))
def zq9:Ty (Sl×Bool):=(t2 ts tb)
def Z2r:zl:=mkE zpt zq9 λa=>F.z7j a.1 a.2.1
def Zby(n:Nat):Cfg:=(cgP 59 [(133,zby),(342,Z2p),(340,zlo),(343,Z2q),(310,mkE zpt zq9 (λa=>F.Vh n a.1 a.2.1)),(341,zlp),(309,zlq),(264,zh4)] [] [] [6])
theorem Z74:∃fn,prog.funcs[310]?=some fn/\fn.body.isNone=false/\(fn.name == "runtime.NumGoroutine")=false:=⟨_,func310,rfl,by decide⟩
set_option maxHeartbeats 4000000 in
theorem Z7f:∀n a K D w,Sub D w->F.Vh n a.1 a.2.1 K D->Calls prog 310 (zpt.up a).toArray w (z5w (λv h=>zq9.dn v λr=>K r h) D w)
 | 0,_,_,_,_,_,h=>h.elim
 | n+1,a,K,D,w,hs,h=>z1u (C:=Zby n) (F:=λa=>F.Vh (n+1) a.1 a.2.1) (fn:=f310) (c:=bd f310) (an:=(.seq .leaf (.seq (.seq .leaf (.cond (.seq (.draw [1,2,3,8,0,4,5,6,7,9,10]) (.seq .leaf .leaf)) .leaf)) (.seq .leaf (.seq .leaf (.seq (.seq .leaf (.cond (.seq .leaf .leaf) .leaf)) (.seq .leaf (.seq .leaf .leaf)))))))) ⟨zew,Zhj,ztl,Zhk,(Y8 Z74 (Z7f n)),ztm,ztn,zmq,trivial⟩ trivial func310 rfl rfl (λ_=>rfl) (by intro a K D;kernel_rfl) a K D w hs h
theorem Zhl:EnP 310 Z2r false:=Y8 Z74 (λa K D w hs h=>h.elim λm h=>Z7f m a K D w hs h)
def Z2s:zl:=mkE (asl (asl az)) (t2 ts ti) λa=>F.zex a.1 a.2.1
theorem Zhm:EnP 267 Z2s false:=eo (cgP 21 [(263,zea),(310,Z2r)]) (.q (.s (.q (.c .w .l)) (.q (.s (.q (.c .w .l)) .w)))) func267 ⟨zis,Zhl,trivial⟩
def Z2t:zl:=mkE (ac Zq (ac Zq az)) (t2 Zq ti) λa=>F.zc7 a.1 a.2.1
theorem Zhn:EnP 193 Z2t false:=eo (cgP 28 [(267,Z2s),(191,zrt)] [] [(9,3),(11,3),(21,3)] [2,3,4]) (.q (.q (.s (.q (.c .w .l)) .w))) func193 ⟨Zhm,Z6b,trivial⟩
def Z2u:zl:=mkE (ap (ac Zq (ac Zq az))) Zq λa=>F.y_matrix_calc_div a.1 a.2.1 a.2.2.1
theorem Zho:EnP 129 Z2u false:=eo (cgP 19 [(193,Z2t),(192,zlu)] [] [] [4,5,6,7]) (.q (.q .w)) func129 ⟨Zhn,ztr,trivial⟩
def Z2v:zl:=mkE (ac Zq (ac Zq (ArgT.fn 304 az))) (t2 Zq ti) λa=>F.W6 a.1 a.2.1
theorem Zhp:EnP 265 Z2v false:=eo (cgP 39 [(186,zls),(304,zrr)] [] [] [3,4,6]) (.q (.q (.s (.q (.c .w .l)) (.q (.s (.draw [0,1,2,3,4,5,6,7,8,9,10,11,12,13,14]) .l))))) func265 ⟨ztp,Z69,trivial⟩
def Z2w:zl:=mkE (ac Zq (ac Zq az)) (t2 Zq ti) λa=>F.z8o a.1 a.2.1
theorem Zhq:EnP 268 Z2w false:=eo (cgP 11 [(265,Z2v)] [] [] [2,3,4]) (.q .w) func268 ⟨Zhp,trivial⟩
def Z2x:zl:=mkE (ap (ac Zq (ac Zq az))) Zq λa=>F.y_matrix_calc_sub a.1 a.2.1 a.2.2.1
theorem Zhr:EnP 194 Z2x false:=eo (cgP 19 [(268,Z2w),(192,zlu)] [] [] [4,5,6,7]) (.q (.q .w)) func194 ⟨Zhq,ztr,trivial⟩
def Z2y:zl:=mkM (ap (asl (asl (ac Zq (ai az))))) tu λa=>F.y_matrix_calc_subtract a.1 a.2.1 a.2.2.1 a.2.2.2.1 a.2.2.2.2.1
theorem Zhs:EnP 130 Z2y true:=eoM (cgP 40 [(126,zlt),(128,zru),(194,Z2x)] [] [] [8]) (.q (.q (.b (.loop [(10,.i)] (.s (.q (.c .l .l)) (.join [] (.b (.q (.c (.draw [0,1,2,3,4,5,6,7,8,9,10,11,12,13,14,15,16]) .l))) .l)))))) func130 ⟨ztq,Z6c,Zhr,trivial⟩
def Z2z:zl:=mkE (asl (asl az)) ts λa=>F.zey a.1 a.2.1
theorem Zht:EnP 190 Z2z false:=eo (cgP 11 [(263,zea),(264,zh4)]) (.q (.s (.q (.c .w .l)) .w)) func190 ⟨zis,zmq,trivial⟩
def Z30:zl:=mkE (ac Zq az) Zq λa=>F.z8n a.1
theorem Zhu:EnP 127 Z30 false:=eo (cgP 12 [(189,zrq),(190,Z2z)] [] [(5,1),(7,1),(10,1)] [1,2]) (.q (.q (.q .w))) func127 ⟨Z68,Zht,trivial⟩
def Z31:zl:=mkE (asl az) (t2 zdl ti) λa=>F.z0v a.1
theorem Zhv:EnP 56 Z31 false:=eo (cgP 155 [(123,Z2g),(59,zlk),(122,zll),(124,Z2m),(128,zru),(129,Z2u),(126,zlt),(130,Z2y),(127,Z30)] [130] [(35,7),(65,7),(68,7),(77,7),(81,7),(137,7),(142,7)] [2,7,11,15,140]) (.q (.q (.s (.q (.c .w .l)) (.q (.q (.s (.q (.b (.loop [(7,.box [.sl,.sl,.sl,.sl]),(32,.i)] (.q (.s (.c .l .l) (.join [(7,.box [.sl,.sl,.sl,.sl])] (.b (.q (.q (.q (.s (.q (.c .l .l)) (.join [(7,.box [.sl,.sl,.sl,.sl])] (.q (.c (.s (.draw [0,1,2,3,4,5,6,7,8,9,10,11,12,13,14,15,16,17,18,19]) .l) .l)) (.s (.draw [0,1,2,3,4,5,6,7,8]) (.q (.s (.q (.b (.loop [(12,.i)] (.s (.q (.c .l .l)) (.s (.b (.draw [0,1,2,3,4,5,6,7,8,9,10,11,12,13,14,15,16])) .l))))) (.s (.q (.b (.loop [(110,.i)] (.q (.s (.c .l .l) (.join [] (.b (.q (.q (.q (.c (.draw [0,1,2,3,4,5,6,7,8]) .l))))) .l)))))) .l)))))))))) .l)))))) (.s (.q (.c (.s (.draw [0,1,2,3,4,5,6]) .l) .l)) .w))))))) func56 ⟨Zha,zth,zti,Zhg,Z6c,Zho,ztq,Zhs,Zhu,trivial⟩
def zrv:zl:=mkE (asl az) (t2 ts ti) λa=>F.z4n a.1
theorem Z6d:EnP 24 zrv false:=eo (cgP 18 [(55,zrh),(57,Z1w),(56,Z31)] [] [(15,4)] [4]) (.q (.s (.q (.c .w .l)) (.q .w))) func24 ⟨Z5z,Zgq,Zhv,trivial⟩
def zpu:ArgT (TTree×Unit):=(ac z3g az)
def zqa:Ty Sl:=ts
def zrw:zl:=mkE zpu zqa λa=>F.z1s a.1
def Zbz(n:Nat):Cfg:=(cgP 29 [(108,mkE zpu zqa (λa=>F.Wi n a.1))] [] [(6,1),(10,1),(12,1),(16,1)] [1,5])
theorem Z75:∃fn,prog.funcs[108]?=some fn/\fn.body.isNone=false/\(fn.name == "runtime.NumGoroutine")=false:=⟨_,func108,rfl,by decide⟩
set_option maxHeartbeats 4000000 in
theorem Z7g:∀n a K D w,Sub D w->F.Wi n a.1 K D->Calls prog 108 (zpu.up a).toArray w (z5w (λv h=>zqa.dn v λr=>K r h) D w)
 | 0,_,_,_,_,_,h=>h.elim
 | n+1,a,K,D,w,hs,h=>z1u (C:=Zbz n) (F:=λa=>F.Wi (n+1) a.1) (fn:=f108) (c:=bd f108) (an:=(.seq .leaf (.seq (.seq .leaf (.cond (.seq .leaf .leaf) .leaf)) (.seq .leaf (.seq (.seq .leaf (.block (.loop [(3,.s),(19,.i)] (.seq .leaf (.seq (.cond .leaf .leaf) (.seq (.block (.seq .leaf .leaf)) .leaf)))))) (.seq .leaf .leaf)))))) ⟨(Y8 Z75 (Z7g n)),trivial⟩ trivial func108 rfl rfl (λ_=>rfl) (by intro a K D;kernel_rfl) a K D w hs h
theorem Z6e:EnP 108 zrw false:=Y8 Z75 (λa K D w hs h=>h.elim λm h=>Z7g m a K D w hs h)
def z3j:zl:=mkM (asl az) tu λa=>F.z59 a.1
theorem z9e:EnP 109 z3j true:=z2g ⟨_,func109,rfl,by decide⟩ λa K D w hs hk=>zt3 (λp c w=>Any.slices_Sort_int_none Tryz.sortI p c w) (λb o c zs w h1 h2 h3=>Any.slices_Sort_int Tryz.sortI b o c zs w h1 h2 h3) a.1 K D w hs hk
def Z32:zl:=mkM (asl az) ts λa=>F.Xz a.1
theorem Zhw:EnP 110 Z32 true:=eoM (cgP 61 []) (.q (.s (.q (.c .w .l)) (.s (.q (.b (.loop [(3,.i)] (.s (.q (.c .l .l)) (.s (.b (.s (.draw [0,1,2,3,4,5,6,7,8,9]) (.c (.q (.s (.q (.b (.loop [(3,.i),(5,.i)] (.s (.q (.c .l .l)) (.join [(3,.i)] (.b (.s (.draw [0,1,2,3,4,5,6,7,8,9]) (.c .w .l))) .l))))) (.q .w))) .l))) .l))))) .w))) func110 trivial
def zlv:zl:=mkE (ac z3g az) ts λa=>F.Qx a.1
theorem zts:EnP 43 zlv false:=eo (cgP 25 [(108,zrw),(109,z3j),(110,Z32)] [109,110] [(14,5),(16,5)] [1,5,18]) (.q (.q (.s (.q (.b (.loop [(3,.s),(9,.i)] (.q (.s (.c .l .l) (.s (.b .w) .l)))))) (.q .w)))) func43 ⟨Z6e,z9e,Zhw,trivial⟩
end Den
end

noncomputable section
set_option maxRecDepth 100000
namespace Den
open Go Go.Proofs Go.Proofs.Tryz
def Z33:zl:=mkE (asl (asl az)) (t2 ti tb) λa=>F.Vc a.1 a.2.1
theorem Zhx:EnP 232 Z33 false:=eo (cgP 29 [(40,z9m)] [] [] [20]) (.q (.q (.s (.q (.b (.loop [(6,.s),(11,.i)] (.q (.s (.c .l .l) (.join [(6,.s)] (.b (.q (.q (.c .l .l)))) .l)))))) (.s (.q (.c .w .l)) .w)))) func232 ⟨zcd,trivial⟩
def Z34:zl:=mkE (asl az) tb λa=>F.z0m a.1
theorem Zhy:EnP 233 Z34 false:=eo (cgP 28 []) (.q (.s (.q (.b (.loop [(7,.i)] (.q (.s (.c .l .l) (.join [] (.b (.q (.q (.c .w .l)))) .l)))))) .w)) func233 trivial
def Z35:zl:=mkE (asl (asl (asl az))) (Ty.tup (.cons ti (.cons ti (.cons ti (.cons tb .nil)))) (λx=>(x.1,x.2.1,x.2.2.1,x.2.2.2,())) (λy=>(y.1,y.2.1,y.2.2.1,y.2.2.2.1)) (λ_=>rfl) (λ_=>rfl)) λa=>F.z47 a.1 a.2.1 a.2.2.1
theorem Zhz:EnP 180 Z35 false:=eo (cgP 77 [(232,Z33),(233,Z34)]) (.q (.q (.q (.q (.join [] (.q (.c .w .l)) .w))))) func180 ⟨Zhx,Zhy,trivial⟩
def zrx:zl:=mkE (ac z3g (ac z3g (ac z3g az))) (t2 z3g tb) λa=>F.z0j a.1 a.2.1 a.2.2.1
theorem Z6f:EnP 107 zrx false:=eo (cgP 33 [(43,zlv),(180,Z35)] [] [] [3,4,5,6]) (.q (.s (.draw [0,2,4,1,3,5,6,7,8,9,10,11,12,13,14,15]) .w)) func107 ⟨zts,Zhz,trivial⟩
def Z36:zl:=mkE (asl az) (t2 ts tb) λa=>F.z4f a.1
theorem Zi0:EnP 42 Z36 false:=eo (cgP 81 [(107,zrx)] [] [] [7,11,75]) (.q (.s (.q (.b (.loop [(14,.i)] (.q (.s (.c .l .l) (.s (.b (.q (.q (.b (.loop [(5,.i)] (.s (.q (.c .l .l)) (.s (.b (.q (.b (.loop [(6,.i)] (.s (.q (.c .l .l)) (.s (.b (.s (.draw [0,1,2,3,4,5,6,7,8,9,10,11,16,12,13,14,15,17,18]) (.s (.q (.c .l .l)) (.q (.s (.q (.b (.loop [(9,.s),(55,.i)] (.q (.s (.c .l .l) (.join [(9,.s)] (.b (.q (.q (.c .l .l)))) .l)))))) .w))))) .l)))))) .l))))))) .l)))))) .w)) func42 ⟨Z6f,trivial⟩
def Z37:zl:=mkE (ac Xs az) (t2 z3g ti) λa=>F.z3d a.1
theorem Zi1:EnP 18 Z37 false:=eo (cgP 57 [(37,z7e),(42,Z36),(43,zlv)] [] [(14,1),(18,1),(26,6),(28,6),(49,1)] [1,2,6,31]) (.q (.s (.b (.q (.c .w (.q (.c .w .l))))) (.q (.s (.q (.b (.loop [(4,.s),(21,.i)] (.q (.s (.c .l .l) (.s (.b .w) .l)))))) (.s (.q (.b (.loop [(4,.s),(7,.b)] (.s (.q (.c .l .l)) (.b .l))))) (.join [(2,.box [.int .i64,.int .i64,.int .i64,.sl])] (.s (.draw [0,1,2,3,4,5,6,9,10,7,8,11,12]) (.c .w .l)) .w)))))) func18 ⟨z91,Zi0,zts,trivial⟩
def Z38:zl:=mkE (ac Xs az) ti λa=>F.z69 a.1
theorem Zi2:EnP 47 Z38 false:=eo (cgP 13 [(37,z7e),(17,zrf)] [] [(6,1)] [1]) (.q (.s (.q (.c .w .l)) (.s (.draw [0,1,2,3,4,5,6,7]) .l))) func47 ⟨z91,Z5x,trivial⟩
def zry:zl:=mkE (ac Xs az) tb λa=>F.z31 a.1
theorem Z6g:EnP 21 zry false:=eo (cgP 15 [(37,z7e),(47,Z38)] [] [(6,1)] [1]) (.q .w) func21 ⟨z91,Zi2,trivial⟩
def Z39:zl:=mkE (asl (asl az)) ti λa=>F.V1 a.1 a.2.1
theorem Zi3:EnP 114 Z39 false:=eo (cgP 36 [(169,znu)]) (.q (.s (.q (.b (.loop [(11,.i)] (.q (.s (.c .l .l) (.s (.b (.q (.s (.q (.c .w .l)) (.q (.q (.q (.c .w .l))))))) .l)))))) (.s (.q (.c .w .l)) .w))) func114 ⟨zva,trivial⟩
def Zcy:zl:=mkE (ac z0k (ac z0k az)) ti λa=>F.z1a a.1 a.2.1
theorem Zi4:EnP 113 Zcy false:=eo (cgP 8 [(114,Z39)]) (.q (.s (.draw [0,1,2,3]) .l)) func113 ⟨Zi3,trivial⟩
def Y6:zl:=mkM (asl (ArgT.fn 113 az)) tu λa=>F.qp a.1
theorem Wk:EnP 112 Y6 true:=z2g ⟨_,func112,rfl,by decide⟩ λa K D w hs hk=>zft (g:=113) (C:=λb o n w=>CmpLays prog 113 #[] Q8 2 z1e b o n w) (lt:=λx y=>!(ltOf z1e) y x) (λp c fv w=>AnyF.slices_SortFunc_none Tryz.sortP p c fv w) (λb o c d w h1 h2 h3 h4=>AnyQ.slices_SortFunc_total Tryz.sortP 2 (λw=>by kernel_rfl) (λw=>by kernel_rfl) Q8 (λ_=>rfl) znx z1e Zjf 113 #[] b o c d w (enters_of func113 (by kernel_rfl) rfl) h1 h2 h3 h4 Zkh) (λxs=>rfl) (λb o n w=>zjt Zi4.fn λx y K hk=>(ArgT.cmp (ac z0k (ac z0k az)) ((⟨x.1,x.2⟩:A2_Int),(⟨y.1,y.2⟩:A2_Int),()) _).2 (zd (λr _=>r=z1e x y) (λK2 hk2=>z83 λh' hl=>hk2 _ _ hl rfl) (λr h' _ hr=>by subst hr;exact hk h'))) a.1 K D w hs hk
def Z3a:zl:=mkE (asl (asl az)) tb λa=>F.Xc a.1 a.2.1
theorem Zi5:EnP 115 Z3a false:=eo (cgP 26 []) (.q (.s (.q (.c .w .l)) (.s (.q (.b (.loop [(13,.i)] (.q (.s (.c .l .l) (.s (.b (.q (.s (.draw [0,1,2,3,4,5,6,7,8]) (.c .w .l)))) .l)))))) .w))) func115 trivial
def zdt:ArgT (TTree×Unit):=(ac z3g az)
def zdw:Ty Bool:=tb
def Zbb:ArgT (TTree×Unit):=(ac z3g az)
def Zbl:Ty Bool:=tb
def Z3b(Zlg:TTree->(Bool->Hp->Prop)->Hp->Prop):zl:=mkE Zbb Zbl λa=>F.z41 Zlg a.1
theorem Zi6(Zlg:TTree->(Bool->Hp->Prop)->Hp->Prop)(Zlj:EnP 116 (mkE zdt zdw (λa=>Zlg a.1)) false):EnP 185 (Z3b Zlg) false:=eo (cgP 6 [(116,mkE zdt zdw (λa=>Zlg a.1))] [] [] [1]) (.q .w) func185 ⟨Zlj,trivial⟩
def Zbc:ArgT (Sl×Unit):=(asl (ArgT.fn 185 az))
def Zbm:Ty Int:=ti
def Z3c(Zlg:TTree->(Bool->Hp->Prop)->Hp->Prop):zl:=mkE Zbc Zbm λa=>F.yn Zlg a.1
theorem Zi7(Zlg:TTree->(Bool->Hp->Prop)->Hp->Prop)(Zlj:EnP 116 (mkE zdt zdw (λa=>Zlg a.1)) false):EnP 253 (Z3c Zlg) false:=eo (cgP 19 [(185,(Z3b Zlg))]) (.q (.s (.q (.b (.loop [(8,.i)] (.q (.s (.c .l .l) (.s (.b (.q (.q (.c .w .l)))) .l)))))) .w)) func253 ⟨(Zi6 Zlg Zlj),trivial⟩
def Zbd:ArgT (Sl×Unit):=(asl (ArgT.fn 185 az))
def Zbn:Ty Bool:=tb
def Z3d(Zlg:TTree->(Bool->Hp->Prop)->Hp->Prop):zl:=mkE Zbd Zbn λa=>F.Z8 Zlg a.1
theorem Zi8(Zlg:TTree->(Bool->Hp->Prop)->Hp->Prop)(Zlj:EnP 116 (mkE zdt zdw (λa=>Zlg a.1)) false):EnP 184 (Z3d Zlg) false:=eo (cgP 9 [(253,(Z3c Zlg))]) (.q .w) func184 ⟨(Zi7 Zlg Zlj),trivial⟩
def Z3e:zl:=mkE zdt zdw λa=>F.z6n a.1
def Zc0(n:Nat):Cfg:=(cgP 56 [(107,zrx),(184,(Z3d (F.Qy n)))] [] [(5,1),(9,1),(14,1),(19,1),(23,1),(27,1),(36,3),(38,1),(43,3),(45,1),(50,3),(52,1)] [1,3])
theorem Z76:∃fn,prog.funcs[116]?=some fn/\fn.body.isNone=false/\(fn.name == "runtime.NumGoroutine")=false:=⟨_,func116,rfl,by decide⟩
set_option maxHeartbeats 4000000 in
theorem Z7h:∀n a K D w,Sub D w->F.Qy n a.1 K D->Calls prog 116 (zdt.up a).toArray w (z5w (λv h=>zdw.dn v λr=>K r h) D w)
 | 0,_,_,_,_,_,h=>h.elim
 | n+1,a,K,D,w,hs,h=>z1u (C:=Zc0 n) (F:=λa=>F.Qy (n+1) a.1) (fn:=f116) (c:=bd f116) (an:=(.seq .leaf (.seq (.seq .leaf (.cond (.seq .leaf .leaf) .leaf)) (.join [] (.seq .leaf (.cond (.seq .leaf .leaf) .leaf)) (.seq (.draw [0,1,2,3,4,5,6,7,8,9,10,11,16,12,13,14,15,17,18]) (.seq .leaf .leaf)))))) ⟨Z6f,(Zi8 (F.Qy n) (Y8 Z76 (Z7h n))),trivial⟩ trivial func116 rfl rfl (λ_=>rfl) (by intro a K D;kernel_rfl) a K D w hs h
theorem Zi9:EnP 116 Z3e false:=Y8 Z76 (λa K D w hs h=>h.elim λm h=>Z7h m a K D w hs h)
def Z3f:zl:=mkE (ac Xs (ac z3g az)) tb λa=>F.z3f a.1 a.2.1
theorem Zia:EnP 46 Z3f false:=eo (cgP 26 [(108,zrw),(112,Y6),(115,Z3a),(43,zlv),(116,Z3e)] [112] [(11,2),(18,2)] [2,3]) (.q (.q (.q (.s (.draw [0,1,2,3,4,5,8,9,6,7,10,11,12,13,14,15,16]) .l)))) func46 ⟨Z6e,Wk,Zi5,zts,Zi9,trivial⟩
def Z3g:zl:=mkE (ac Xs (ac z3g az)) tb λa=>F.z3e a.1 a.2.1
theorem Zib:EnP 20 Z3g false:=eo (cgP 17 [(37,z7e),(46,Z3f)] [] [(8,2)] [2,3]) (.q .w) func20 ⟨z91,Zia,trivial⟩
def zbe:zl:=mkE az tb λa=>F.z2l
theorem zjj:EnP 6 zbe false:=eo (cgP 57 [(26,z5x),(25,z4v),(24,zrv),(18,Z37),(21,zry),(20,Z3g),(9,z6y),(16,Z1j),(12,Z1i)] [] [] [1,5]) (.q (.q (.q (.q (.q .w))))) func6 ⟨zcc,z9a,Z6d,Zi1,Z6g,Zib,zdi,Zgd,Zgc,trivial⟩
def zrz:zl:=mkE (asl az) ts λa=>F.qx a.1
theorem Z6h:EnP 45 zrz false:=eo (cgP 8 []) (.q (.s (.q (.c .w .l)) .w)) func45 trivial
def Z3h:zl:=mkM (asl (ai (ai az))) ts λa=>F.Q1 a.1 a.2.1 a.2.2.1
theorem Zic:EnP 48 Z3h true:=eoM (cgP 33 []) (.q (.q (.s (.q (.c .w .l)) (.q (.s (.draw [0,1,2,3,4,5,6,7]) (.q .w)))))) func48 trivial
def Z3i:zl:=mkE (ac Xs az) ts λa=>F.z0z a.1
theorem Zid:EnP 22 Z3i false:=eo (cgP 45 [(37,z7e),(17,zrf),(45,zrz),(48,Z3h),(41,zre)] [48] [(15,1),(21,1),(29,1)] [1,41]) (.q (.s (.q (.c .w .l)) (.q (.q (.s (.q (.b (.loop [(4,.s),(18,.i)] (.q (.s (.c .l .l) (.join [(4,.s)] (.b (.q (.q (.q (.q (.c .l .l)))))) .l)))))) .w))))) func22 ⟨z91,Z5x,Z6h,Zic,Z5w,trivial⟩
def zlw:zl:=mkE (ai (ai az)) z0k λa=>F.z5z a.1 a.2.1
theorem ztt:EnP 53 zlw false:=eo (cgP 12 [] [] [] [4]) (.q .w) func53 trivial
def Ql:zl:=mkM (asl (ArgT.fn 94 az)) tu λa=>F.Ys a.1
theorem Vi:EnP 112 Ql true:=z2g ⟨_,func112,rfl,by decide⟩ λa K D w hs hk=>zft (g:=94) (C:=λb o n w=>CmpLays prog 94 #[] Q8 2 z1e b o n w) (lt:=λx y=>!(ltOf z1e) y x) (λp c fv w=>AnyF.slices_SortFunc_none Tryz.sortP p c fv w) (λb o c d w h1 h2 h3 h4=>AnyQ.slices_SortFunc_total Tryz.sortP 2 (λw=>by kernel_rfl) (λw=>by kernel_rfl) Q8 (λ_=>rfl) znx z1e Zjf 94 #[] b o c d w (enters_of func94 (by kernel_rfl) rfl) h1 h2 h3 h4 Zkh) (λxs=>rfl) (λb o n w=>zjt ztg.fn λx y K hk=>(ArgT.cmp (ac z0k (ac z0k az)) ((⟨x.1,x.2⟩:A2_Int),(⟨y.1,y.2⟩:A2_Int),()) _).2 (zd (λr _=>r=z1e x y) (λK2 hk2=>zcy λh' hl=>hk2 _ _ hl rfl) (λr h' _ hr=>by subst hr;exact hk h'))) a.1 K D w hs hk
def Z3j:zl:=mkM (asl az) ts λa=>F.Qr a.1
theorem Zie:EnP 119 Z3j true:=eoM (cgP 61 []) (.q (.s (.q (.c .w .l)) (.s (.q (.b (.loop [(3,.i)] (.s (.q (.c .l .l)) (.s (.b (.s (.draw [0,1,2,3,4,5,6,7,8,9]) (.c (.q (.s (.q (.b (.loop [(3,.i),(5,.i)] (.s (.q (.c .l .l)) (.join [(3,.i)] (.b (.s (.draw [0,1,2,3,4,5,6,7,8,9]) (.c .w .l))) .l))))) (.q .w))) .l))) .l))))) .w))) func119 trivial
def Z3k:zl:=mkE (ai (asl az)) (t2 Xs ti) λa=>F.z8h a.1 a.2.1
theorem Zif:EnP 54 Z3k false:=eo (cgP 63 [(53,zlw),(49,zlj),(112,Ql),(119,Z3j)] [112,119] [(25,8),(31,8),(37,8),(39,8),(44,6),(46,8),(48,8),(53,6),(55,6),(58,6),(61,6)] [4,6,8,51]) (.q (.join [(4,.box [.int .i64,.sl])] (.q (.c .w .l)) (.q (.s (.q (.b (.loop [(4,.box [.int .i64,.sl]),(6,.box [.int .i64,.sl]),(20,.i)] (.q (.s (.c .l .l) (.s (.b (.q (.join [(4,.box [.int .i64,.sl])] (.q (.c .w .l)) (.draw [0,1,2,3,4,5,6,7,8,9,10])))) .l)))))) (.q (.q .w)))))) func54 ⟨ztt,ztf,Vi,Zie,trivial⟩
def zs0:zl:=mkE (ac z0k (ap (ap az))) tb λa=>F.z2u a.1 a.2.1 a.2.2.1
theorem Z6i:EnP 52 zs0 false:=eo (cgP 10 [(53,zlw)] [] [] [3]) (.q (.s (.draw [0,1,2,3,4,5]) .l)) func52 ⟨ztt,trivial⟩
def Z3l:zl:=mkE (asl (ArgT.fnc 52 2 az)) ti λa=>F.qy a.1 a.2.1
theorem Zig:EnP 118 Z3l false:=eo (cgP 19 [(52,zs0)]) (.q (.s (.q (.b (.loop [(8,.i)] (.q (.s (.c .l .l) (.s (.b (.q (.q (.c .w .l)))) .l)))))) .w)) func118 ⟨Z6i,trivial⟩
def Z3m:zl:=mkM (asl (ArgT.fnc 52 2 az)) ts λa=>F.qo a.1 a.2.1
theorem Zih:EnP 51 Z3m true:=eoM (cgP 42 [(118,Z3l),(52,zs0)] [] [] [7]) (.q (.q (.s (.q (.c .w .l)) (.s (.q (.b (.loop [(5,.i),(6,.i)] (.s (.q (.c .l .l)) (.join [(5,.i)] (.b (.q (.q (.c .w .l)))) .l))))) (.q .w))))) func51 ⟨Zig,Z6i,trivial⟩
def Z3n:zl:=mkE (asl (ac z0k (ArgT.fn 94 az))) (t2 ti tb) λa=>F.Yr a.1 a.2.1
theorem Zii:EnP 117 Z3n false:=eo (cgP 49 [(94,zrc)] [] [] [4]) (.q (.q (.q (.s (.b (.loop [(9,.i),(10,.i)] (.s (.q (.c .l .l)) (.b (.q (.s (.draw [0,1,2,3,4,5,6,7]) (.c .l .l))))))) (.s (.draw [0,1,2,3,4,5,6,7,8,9,10,11,12,13,14,15]) .l))))) func117 ⟨ztg,trivial⟩
def Z3o:zl:=mkE (ac Xs (ai (ai az))) tb λa=>F.zk6 a.1 a.2.1 a.2.2.1
theorem Zij:EnP 50 Z3o false:=eo (cgP 22 [(37,z7e),(53,zlw),(117,Z3n)] [] [(13,3)] [3]) (.q (.s (.q (.c .w .l)) (.s (.draw [0,1,2,3,4,5,6,7,8,9,10]) .w))) func50 ⟨z91,ztt,Zii,trivial⟩
def Z3p:zl:=mkE (ac Xs (ai (ai (ai az)))) (t2 Xs ti) λa=>F.z1w a.1 a.2.1 a.2.2.1 a.2.2.2.1
theorem Zik:EnP 23 Z3p false:=eo (cgP 90 [(45,zrz),(54,Z3k),(51,Z3m),(49,zlj),(50,Z3o),(37,z7e)] [51] [(16,4),(23,4),(35,4),(37,4)] [4,8,46,79]) (.q (.join [(8,.box [.int .i64,.sl])] (.q (.c .w .l)) (.q (.s (.draw [0,1,3,4,5,6,7,8,9,2,10,11]) (.join [(8,.box [.int .i64,.sl]),(11,.s)] (.q (.c (.join [(8,.box [.int .i64,.sl])] (.q (.c .w .l)) .w) .l)) (.s (.q (.c .w .l)) .w)))))) func23 ⟨Z6h,Zif,Zih,ztf,Zij,z91,trivial⟩
end Den
end

noncomputable section
set_option maxRecDepth 100000
namespace Den
open Go Go.Proofs.Tryz
def zbx:zl:=mkE (asl az) tb λa=>F.z3z a.1
theorem ztb:EnP 5 zbx false:=eo (cgP 167 [(23,Z3p),(25,z4v),(24,zrv),(21,zry),(22,Z3i),(6,zbe)] [] [(35,6),(39,3),(44,6),(48,3),(53,3),(56,6),(59,6),(76,9),(100,9),(141,3),(148,3),(151,3)] [3,6,9,11,126]) (.q (.join [] (.q (.c .w .l)) (.q (.q (.s (.q (.b (.loop [(3,.box [.int .i64,.sl]),(4,.s),(31,.i)] (.q (.s (.c .l .l) (.join [(3,.box [.int .i64,.sl]),(4,.s)] (.b (.q (.q (.s (.draw [0,1,2,3,4,5,6,7,8,9,10,11,12,13,14]) (.q (.s (.draw [0,1,2,3,4,5,6,7,8,9,10,11,12,13,14,15,16,17,18,19,20,21,22,23,24,25,26,27,28,29,30,31,32,33,34,35,36,37,38,39,40,41,42,43,44,45,46,47,48,49]) (.s (.q (.c .l .l)) (.q (.s (.q (.c .w .l)) (.draw [0,1,2,3,4,5,6])))))))))) .l)))))) (.q .w)))))) func5 ⟨Zik,z9a,Z6d,Z6g,Zid,zjj,trivial⟩
end Den
end
