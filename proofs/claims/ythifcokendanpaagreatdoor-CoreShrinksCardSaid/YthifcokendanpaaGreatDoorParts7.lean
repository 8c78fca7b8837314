/-
  Part 7 of the tools and contracts from which the statement is proved.
-/
import Derived.Test.YthifcokendanpaaGreatDoorParts6
set_option linter.all false
section
namespace Den
open Go Iv Lx
section
variable {h : Hp} {g : TGraph} {es : List (Int × Int)} {S : PSk} {Kb : Bool → Hp → Prop}
theorem zsg {K:TExpr→Hp→Prop} (H:∀r h',h.le h'→NR h' r ((1:Int):Rat)→K ⟨1,r,emptyS,nilS⟩ h'):callP F.zi2 K h:=by
 refine za1 (fun e h'=>∃r,NR h' r ((1:Int):Rat)∧e=⟨1,r,emptyS,nilS⟩) (fun K' hk=>?_) fun e h' hl ⟨r,h1,h2⟩=>by subst h2; exact H r h' hl h1
 unfold F.zi2
 exact zhx (by decide) (by decide) fun z h' hl hz=>hk _ _ hl ⟨z,hz,rfl⟩
theorem zt3 {r:TRat} {K:TSketch→Hp→Prop} {N:Nat} (hN:g.n=N) (hN2:N≤10) (hg:LR a2c 2 A2P h g.edges es) (hlen:es.length≤20) (hr:NR h r ((1:Int):Rat)) (H:∀s S h',h.le h'→SK h' s S→DSK 1 S N es→K s h'):callP (F.zjf g ⟨1,r,emptyS,nilS⟩) K h:=by
 refine za1 (fun s h'=>∃S,SK h' s S∧DSK 1 S N es) (fun K' hk=>?_) fun s h' hl ⟨S,h1,h2⟩=>H s S h' hl h1 h2
 unfold F.zjf
 dsimp only
 have hgl:=hg.len zf0
 rw [hN]
 have hor:OR h r (some ((1:Int):Rat)):=hr.or (zql (by decide)) (by decide)
 refine zak (fun st h'=>∃(i:Nat) (pl:Sl),st=((pl,nilS,nilS,nilS,nilS,nilS,()),(i:Int),())∧i≤N∧LO ptc 8 PTT h h' pl (List.replicate i (some ((1:Int):Rat),some ((1:Int):Rat))))
  (fun st=>(N-st.2.1).toNat) ⟨0,nilS,rfl,by omega,LO.nil⟩ ?_
 rintro _ h1 ⟨i,pl,rfl,hi,hp⟩
 refine za0 (fun h2=>?_) (fun h2=>?_)
 · have hi':i<N:=by simp only at h2; omega
   refine hp.app (x:=(⟨r,r⟩:TPoint)) (b:=(some ((1:Int):Rat),some ((1:Int):Rat))) zdq rfl (by simp; omega) (by simp; omega) ⟨hor,hor⟩ fun w h3 hp3=>⟨⟨i+1,w,by (try simp only); rw [w64 (by omega)]; rfl,by omega,?_⟩,by (try simp only); rw [w64 (by omega)]; omega⟩
   rw [List.replicate_succ']
   exact hp3
 have:i=N:=by simp only at h2; omega
 subst this
 have hle1:=hp.dle
 refine zak (fun st h'=>∃(q:Nat) (cl:Sl) (con:List PCon) (D:Hp),st=((pl,nilS,nilS,nilS,nilS,cl,()),(q:Int),())∧q≤es.length∧h1.le D∧LO cc 5 CO D h' cl con∧DCL 1 con (es.take q))
  (fun st=>(es.length-st.2.1).toNat) ⟨0,nilS,[],h1,rfl,by omega,Hp.le_refl _,LO.nil,trivial⟩ ?_
 rintro _ h3 ⟨q,cl,con,D,rfl,hq,hD,hc,hdc⟩
 have hcl:=hdc.len
 rw [List.length_take] at hcl
 refine za0 (fun h4=>?_) (fun h4=>?_)
 · have hq':q<es.length:=by simp only at h4; omega
   have hle3:=Hp.le_trans hle1 (Hp.le_trans hD hc.dle)
   refine (hg.le zf0 hle3).get zf0 q rfl hq' fun a x hxx hcx=>⟨_,hcx 0 _ rfl,?_⟩
   refine (hg.le zf0 hle3).get zf0 q rfl hq' fun a x2 hxx2 hcx2=>⟨_,hcx2 1 _ rfl,?_⟩
   rw [hxx.1,hxx2.2]
   refine hc.newb zai fun p10 D4 h5 d4 l5 hc c10=>hc.newb zai fun p11 D5 h6 d5 l6 hc c11=>?_
   refine hc.app (x:=(⟨2,⟨some p10,2,2⟩,nilS,⟨some p11,1,1⟩,0⟩:TConstraint)) (b:=⟨2,[es[q].1,es[q].2],[],[numE r 1],0⟩) zai rfl (by omega) (by omega) (za9c (fun i v hv=>Hp.cell_le d5 (c10 i v hv)) c11 (by decide) (hr.le (Hp.le_trans hle1 (Hp.le_trans hD (Hp.le_trans d4 d5))))) fun w h7 hc7=>?_
   refine ⟨⟨q+1,w,_,D5,by (try simp only); rw [w64 (by omega)]; rfl,by omega,Hp.le_trans hD (Hp.le_trans d4 d5),hc7,?_⟩,by (try simp only); rw [w64 (by omega)]; omega⟩
   rw [←List.take_append_getElem hq']
   exact DCL.snoc (e:=es[q]) ⟨r,za81 (by decide) hr,rfl⟩ hdc
 · have:q=es.length:=by simp only at h4; omega
   subst this
   rw [List.take_length] at hdc
   refine hk _ _ (Hp.le_trans hle1 (Hp.le_trans hD hc.dle)) ⟨⟨List.replicate i (some ((1:Int):Rat),some ((1:Int):Rat)),[],[],[],[],con⟩,⟨(hp.lr zdq).le zdq (Hp.le_trans hD hc.dle),LR.nil,LR.nil,LR.nil,LR.nil,hc.lr zai⟩,by simp,fun p hp=>?_,rfl,rfl,rfl,rfl,hdc⟩
   rw [List.eq_of_mem_replicate hp]
   exact ⟨rfl,rfl⟩
end
theorem DCL.get {z:Int}:∀{l:List PCon} {q:List (Int×Int)},DCL z l q→∀{k:Nat} (h1:k<l.length) (h2:k<q.length),DC z l[k] q[k]
 | [],_,_,k,h1,_=>by simp at h1
 | a :: r,b :: q,h,0,_,_=>h.1
 | a :: r,b :: q,h,k+1,h1,h2=>DCL.get h.2 (by simpa using h1) (by simpa using h2)
 | a :: r,[],h,_,_,_=>h.elim
theorem DSK.allC {z:Int} {S:PSk} {n:Nat} {es:List (Int×Int)} (h:DSK z S n es):Den.allC S=S.con:=by
 unfold Den.allC imp impL
 rw [h.2.2.2.2.1]; simp
theorem DSK.its {z:Int} {S:PSk} {n:Nat} {es:List (Int×Int)} (h:DSK z S n es):Den.its S=es.map fun e=>[e.1,e.2]:=by
 have hl:=h.2.2.2.2.2.2.len
 unfold Den.its
 rw [h.allC]
 refine List.ext_getElem (by simp [hl]) fun k h1 h2=>?_
 rw [List.getElem_map,List.getElem_map]
 obtain ⟨x,_,e⟩:=h.2.2.2.2.2.2.get (k:=k) (by simpa using h1) (by simpa using h2)
 rw [e]
 simp [itemsC]
theorem DSK.all {z:Int} {S:PSk} {n:Nat} {es:List (Int×Int)} (h:DSK z S n es):allS S=rngI n:=by
 unfold allS allI rngI
 rw [h.1,h.2.2.1]
 simp
theorem DSK.kind {z:Int} {S:PSk} {n:Nat} {es:List (Int×Int)} (h:DSK z S n es) {k:Nat} (hk:k<es.length):(Den.allC S).getD k dC=⟨2,[es[k].1,es[k].2],[],((Den.allC S).getD k dC).vals,0⟩:=by
 have hl:=h.2.2.2.2.2.2.len
 rw [h.allC,zb9 (by omega)]
 obtain ⟨x,_,e⟩:=h.2.2.2.2.2.2.get (k:=k) (by omega) hk
 rw [e]
theorem za75 {z:Int} {S:PSk} {n:Nat} {es:List (Int×Int)} (h:DSK z S n es) {T R:List Int} (hT:∀e∈es,(e.1∈T↔e.1∉R)∧(e.2∈T↔e.2∉R)) {i:Int}:∀k,k≤es.length→wtL (Den.allC S) (remN (Den.its S) i R k)=degL (es.take k) T i
 | 0,_=>by simp [remN,wtL,degL]
 | k+1,hk=>by
   have hk':k<es.length:=by omega
   have ih:=za75 h hT (i:=i) k (by omega)
   have hg:(Den.its S).getD k []=[es[k].1,es[k].2]:=by
    rw [h.its,zb9 (by simpa using hk'),List.getElem_map]
   have hstep:remN (Den.its S) i R (k+1)=remN (Den.its S) i R k++(if keepP ((Den.its S).getD k []) i R then [(k:Int)] else []):=rfl
   rw [←List.take_append_getElem hk',zoy,←ih,hstep,hg]
   have ht:=hT _ (List.getElem_mem hk')
   have e:keepP [es[k].1,es[k].2] i R↔(es[k].1∈T∧es[k].2∈T∧(es[k].1=i∨es[k].2=i)):=by
    unfold keepP
    simp only [List.mem_cons,List.not_mem_nil,or_false,forall_eq_or_imp,forall_eq]
    rw [ht.1,ht.2]
    constructor
    · rintro ⟨h1,h2,h3⟩
      exact ⟨h2,h3,h1.imp Eq.symm Eq.symm⟩
    · rintro ⟨h2,h3,h1⟩
      exact ⟨h1.imp Eq.symm Eq.symm,h2,h3⟩
   by_cases hh:es[k].1∈T∧es[k].2∈T∧(es[k].1=i∨es[k].2=i)
   · rw [if_pos (e.2 hh),if_pos hh,zr2,show ((k:Nat):Int).toNat=k from rfl,h.kind hk']
     rfl
   · rw [if_neg (fun h=>hh (e.1 h)),if_neg hh,List.append_nil]; rfl
theorem zz0 {z:Int} {S:PSk} {n:Nat} {es:List (Int×Int)} (h:DSK z S n es) {T R:List Int} (hT:∀e∈es,(e.1∈T↔e.1∉R)∧(e.2∈T↔e.2∉R)) {i:Int} (hi:0≤i):canP (Den.allC S) (cens S) R i↔i∉R∧degL es T i≤2:=by
 have e0:(Den.allC S).map (fun c=>itemsC c (cens S))=Den.its S:=rfl
 have hlen:(Den.its S).length=es.length:=by rw [h.its]; simp
 have hw:=za75 h hT (i:=i) es.length (Nat.le_refl _)
 rw [List.take_length] at hw
 unfold canP
 rw [e0]
 have hm:most i=2:=by unfold most; rw [if_neg (by omega)]
 have hr:remL (Den.its S) i R=remN (Den.its S) i R es.length:=by unfold remL; rw [hlen]
 rw [hm,hr,hw]
 constructor
 · exact fun hh=>⟨hh.1,hh.2.1⟩
 · rintro ⟨h1,h2⟩
   refine ⟨h1,h2,fun j hj=>?_⟩
   obtain ⟨k,hk,rfl,hkp⟩:=zm4.1 hj
   rw [show ((k:Nat):Int).toNat=k from rfl,h.kind hk]
   have hg:(Den.its S).getD k []=[es[k].1,es[k].2]:=by
    rw [h.its,zb9 (by simpa using hk),List.getElem_map]
   have hmem:i∈[es[k].1,es[k].2]:=by rw [←hg]; exact hkp.1
   unfold suitP
   rw [if_neg (by omega),if_neg (by show ¬eqK 2=2; decide)]
   right
   unfold kindP
   simp only
   rw [if_neg (by decide),if_neg (by decide),if_neg (by decide),if_neg (fun hn=>hn hmem),if_neg (by decide),if_pos trivial]
theorem zz7 {z:Int} {S:PSk} {n:Nat} {es:List (Int×Int)} (h:DSK z S n es) (hes:∀e∈es,0≤e.1∧e.1<e.2∧e.2<n):IsCore n es (coreS S):=by
 have hmem:∀{R:List Int} {x:Int},x∈leftL (allS S) R↔(0≤x∧x<n)∧x∉R:=fun {R x}=>by
  unfold leftL
  rw [List.mem_filter,h.all,zlz]
  simp
 have hT:∀R:List Int,∀e∈es,(e.1∈leftL (allS S) R↔e.1∉R)∧(e.2∈leftL (allS S) R↔e.2∉R):=fun R e he=>by
  have:=hes e he
  rw [hmem,hmem]
  exact ⟨⟨fun h=>h.2,fun h=>⟨by omega,h⟩⟩,⟨fun h=>h.2,fun h=>⟨by omega,h⟩⟩⟩
 refine ⟨?_,fun i hi=>?_,fun C hC hC3 i hi=>?_⟩
 · have e0:coreS S=(rngI n).filter fun x=>decide (x∉peelS S (allS S)):=by
    rw [←h.all]; rfl
   refine e0.trans (List.filter_congr fun x hx=>?_)
   have:x∈coreS S↔x∉peelS S (allS S):=by
    unfold coreS
    rw [hmem]
    exact ⟨fun h=>h.2,fun h=>⟨zlz.1 hx,h⟩⟩
   simp only [this]
 · have hi2:=hmem.1 hi
   have he:=ztr (S:=S) (pref:=allS S) (x:=i) (by rw [h.all,zlz]; exact hi2.1)
   rw [zz0 h (hT _) (by omega)] at he
   have:degL es (coreS S) i=degL es (leftL (allS S) (peelS S (allS S))) i:=rfl
   rw [this]
   exact Nat.lt_of_not_le fun hh=>he ⟨hi2.2,hh⟩
 · suffices H:∀k,k≤(peelS S (allS S)).length→∀x∈(peelS S (allS S)).take k,x∉C by
    have:=H _ (Nat.le_refl _)
    rw [List.take_length] at this
    exact hmem.2 ⟨hC i hi,fun hp=>this i hp hi⟩
   intro k
   induction k with
   | zero=>intro _ x hx; simp at hx
   | succ k ih=>
     intro hk x hx
     have hk':k<(peelS S (allS S)).length:=by omega
     rw [←List.take_append_getElem hk',List.mem_append] at hx
     rcases hx with hx | hx
     · exact ih (by omega) x hx
     · rw [List.mem_singleton] at hx
       obtain ⟨h1,h2⟩:=zwe (S:=S) (pref:=allS S) hk'
       rw [zb9 hk',←hx] at h1 h2
       rw [h.all,zlz] at h2
       rw [zz0 h (hT _) h2.1] at h1
       exact ztf hC3 (fun y hy=>hmem.2 ⟨hC y hy,fun hp=>ih (by omega) y hp hy⟩) h1.2
def es4:List (Int×Int):=[(0,1),(0,2),(0,3),(1,2),(1,3),(2,3)]
def es3:List (Int×Int):=[(0,1),(0,2),(1,2)]
theorem core4:IsCore 4 es4 [0,1,2,3]:=by
 refine ⟨by decide,by decide,fun C hC _ i hi=>?_⟩
 have:=hC i hi
 simp only [List.mem_cons,List.not_mem_nil,or_false]
 omega
theorem core3:IsCore 3 es3 []:=by
 refine ⟨by decide,fun i hi=>(by cases hi),fun C hC hC3 i hi=>?_⟩
 have h1:=hC i hi
 have h2:=hC3 i hi
 have h3:degL es3 C i≤degL es3 [0,1,2] i:=zta fun x hx=>by
  have:=hC x hx
  simp only [List.mem_cons,List.not_mem_nil,or_false]
  omega
 have h4:∀j:Fin 3,degL es3 [0,1,2] ((j:Nat):Int)≤2:=by decide
 have h5:=h4 ⟨i.toNat,by omega⟩
 have e:(((⟨i.toNat,by omega⟩:Fin 3):Nat):Int)=i:=by simp; omega
 rw [e] at h5
 omega
theorem gv4:GV 4 es4:=by
 refine ⟨by decide,by decide,fun j hj=>?_⟩
 have:∀j:Fin 5,befE (es4[(j:Nat)]'(by simp [es4]; omega)) (es4[(j:Nat)+1]'(by simp [es4]; omega)):=by
  intro j
  match j with
  | ⟨0,_⟩=>exact .inr ⟨rfl,by show (1:Int)<2; decide⟩
  | ⟨1,_⟩=>exact .inr ⟨rfl,by show (2:Int)<3; decide⟩
  | ⟨2,_⟩=>exact .inl (by show (0:Int)<1; decide)
  | ⟨3,_⟩=>exact .inr ⟨rfl,by show (2:Int)<3; decide⟩
  | ⟨4,_⟩=>exact .inl (by show (1:Int)<2; decide)
 exact this ⟨j,by simp [es4] at hj; omega⟩
theorem gv3:GV 3 es3:=by
 refine ⟨by decide,by decide,fun j hj=>?_⟩
 have:∀j:Fin 2,befE (es3[(j:Nat)]'(by simp [es3]; omega)) (es3[(j:Nat)+1]'(by simp [es3]; omega)):=by
  intro j
  match j with
  | ⟨0,_⟩=>exact .inr ⟨rfl,by show (1:Int)<2; decide⟩
  | ⟨1,_⟩=>exact .inl (by show (0:Int)<1; decide)
 exact this ⟨j,by simp [es3] at hj; omega⟩
theorem bars4 {S:PSk} (h:DSK 1 S 4 es4):wiS S [0,1,2,3]=[0,1,2,3,4,5]:=by
 unfold wiS
 rw [h.its]
 decide
section
variable {h : Hp} {s : TSketch} {S : PSk} {Kb : Bool → Hp → Prop}
theorem zlu (ht:GT h) (H:∀h',h.le h'→Kb true h'):callP F.zd7 Kb h:=by
 refine za1 (fun b _=>b=true) (fun K' hk=>?_) fun b h' hl hb=>by subst hb; exact H h' hl
 unfold F.zd7
 refine zh9 fun p1 h1 hl1 c1=>zh9 fun p2 h2 hl2 c2=>?_
 have hle2:=Hp.le_trans hl1 hl2
 have g4:∀{h'},h2.le h'→LR a2c 2 A2P h' ⟨some p1,6,6⟩ es4:=fun hl=>LR.le zf0 (h:=h1) ⟨[⟨0,1⟩,⟨0,2⟩,⟨0,3⟩,⟨1,2⟩,⟨1,3⟩,⟨2,3⟩],zeo (size:=2) (n:=6) c1 rfl,Nat.le_refl _,rfl,fun k k1 k2=>by
  match k,k1 with
  | 0,_=>exact ⟨rfl,rfl⟩
  | 1,_=>exact ⟨rfl,rfl⟩
  | 2,_=>exact ⟨rfl,rfl⟩
  | 3,_=>exact ⟨rfl,rfl⟩
  | 4,_=>exact ⟨rfl,rfl⟩
  | 5,_=>exact ⟨rfl,rfl⟩⟩ (Hp.le_trans hl2 hl)
 have g3:∀{h'},h2.le h'→LR a2c 2 A2P h' ⟨some p2,3,3⟩ es3:=fun hl=>LR.le zf0 (h:=h2) ⟨[⟨0,1⟩,⟨0,2⟩,⟨1,2⟩],zeo (size:=2) (n:=3) c2 rfl,Nat.le_refl _,rfl,fun k k1 k2=>by
  match k,k1 with
  | 0,_=>exact ⟨rfl,rfl⟩
  | 1,_=>exact ⟨rfl,rfl⟩
  | 2,_=>exact ⟨rfl,rfl⟩⟩ hl
 refine zsg fun r3 h3 hl3 hr3=>?_
 refine zt3 (g:=⟨4,⟨some p1,6,6⟩⟩) (es:=es4) (N:=4) rfl (by decide) (g4 hl3) (by decide) hr3 fun s4 S4 h4 hl4 hx4 hd4=>?_
 have l4:=Hp.le_trans hl3 hl4
 have hle4:=Hp.le_trans hle2 l4
 have v4:VS S4:=hd4.vs dec1 (by decide)
 have ss4:sSk S4:=hd4.ss (by decide) (by decide)
 have k4:coreS S4=[0,1,2,3]:=(zz7 hd4 (by decide)).unique core4
 refine zoo hx4 ss4 (ht.le hle4) fun r5 h5 hl5 hr5=>?_
 obtain ⟨i1,i2⟩:IL h5 r5.1 [0,1,2,3]∧IL h5 r5.2 [0,1,2,3,4,5]:=by
  rcases hr5 with ⟨_,_,h6,h7⟩ | ⟨h6,_⟩
  · rw [k4] at h6 h7
    rw [bars4 hd4] at h7
    exact ⟨h6,h7⟩
  · rcases h6 with h6 | h6
    · exact absurd v4 h6
    · rw [k4] at h6; cases h6
 have l5:=Hp.le_trans l4 hl5
 refine zh9 fun p6 h6 hl6 c6=>?_
 refine zly (xs:=[0,1,2,3]) (ys:=[0,1,2,3]) (i1.le hl6) ⟨zeo (size:=1) (n:=4) c6 rfl,Nat.le_refl _⟩ (by decide) fun h7 hl7=>?_
 refine zbu (decide_eq_true rfl) ?_
 refine zh9 fun p8 h8 hl8 c8=>?_
 have l58:=Hp.le_trans hl6 (Hp.le_trans hl7 hl8)
 refine zly (xs:=[0,1,2,3,4,5]) (ys:=[0,1,2,3,4,5]) (i2.le l58) ⟨zeo (size:=1) (n:=6) c8 rfl,Nat.le_refl _⟩ (by decide) fun h9 hl9=>?_
 refine zbu (decide_eq_true rfl) ?_
 have l9:=Hp.le_trans l5 (Hp.le_trans l58 hl9)
 refine zsg fun r10 h10 hl10 hr10=>?_
 have l10:=Hp.le_trans l9 hl10
 refine zt3 (g:=⟨3,⟨some p2,3,3⟩⟩) (es:=es3) (N:=3) rfl (by decide) (g3 l10) (by decide) hr10 fun s11 S11 h11 hl11 hx11 hd11=>?_
 have l11:=Hp.le_trans l10 hl11
 have v11:VS S11:=hd11.vs dec1 (by decide)
 have ss11:sSk S11:=hd11.ss (by decide) (by decide)
 have k11:coreS S11=[]:=(zz7 hd11 (by decide)).unique core3
 refine zon hx11 ss11 (ht.le (Hp.le_trans hle2 l11)) fun b12 h12 hl12 hb12=>?_
 rw [hb12.2 ⟨v11,k11⟩]
 refine zbu rfl ?_
 have l12:=Hp.le_trans l11 hl12
 refine zr5 (g:=⟨3,⟨some p2,3,3⟩⟩) (es:=es3) (g3 l12) (by decide) (fun _ _ hn=>absurd gv3 hn) fun y13 T13 h13 hl13 _ hi13 hc13=>?_
 have e13:T13=[]:=hc13.unique core3
 rw [e13] at hi13
 have n13:=hi13.len
 have n13:y13.len=0:=n13
 refine zab (fun _=>?_) (fun hh=>absurd (by rw [n13]; rfl) hh)
 have l13:=Hp.le_trans l12 hl13
 refine zr5 (g:=⟨4,⟨some p1,6,6⟩⟩) (es:=es4) (g4 l13) (by decide) (fun _ _ hn=>absurd gv4 hn) fun y14 T14 h14 hl14 _ hi14 hc14=>?_
 have e14:T14=[0,1,2,3]:=hc14.unique core4
 rw [e14] at hi14
 refine zh9 fun p15 h15 hl15 c15=>?_
 refine zly (xs:=[0,1,2,3]) (ys:=[0,1,2,3]) (hi14.le hl15) ⟨zeo (size:=1) (n:=4) c15 rfl,Nat.le_refl _⟩ (by decide) fun h16 hl16=>?_
 exact hk _ _ (Hp.le_trans hle2 (Hp.le_trans l13 (Hp.le_trans hl14 (Hp.le_trans hl15 hl16)))) (decide_eq_true rfl)
theorem zx0 (hx:SK h s S) (H:∀b h',h.le h'→(b=true→sSk S)→Kb b h'):callP (F.zk8 s) Kb h:=by
 refine za1 (fun b _=>b=true→sSk S) (fun K' hk=>?_) fun b h' hl hb=>H b h' hl hb
 unfold F.zk8
 refine za01 hx fun b h1 hl1 hb=>za2 (fun h2=>?_) (fun h2=>hk _ _ hl1 fun h3=>by cases h3)
 refine za0 (fun _=>za0 (fun _=>hk _ _ hl1 fun _=>hb h2) (fun _=>hk _ _ hl1 fun h3=>by cases h3)) (fun _=>hk _ _ hl1 fun h3=>by cases h3)
end
end Den
end

section
namespace Den
open Go Iv Lx
theorem za7n {S:PSk} {x:Int}:x∈coreS S↔x∈allS S∧x∉peelS S (allS S):=by
 unfold coreS leftL
 rw [List.mem_filter,decide_eq_true_iff]
section
variable {h : Hp} {s : TSketch} {S : PSk} {g : TGraph} {es : List (Int × Int)} {l : Sl} {xs : List Int} {K : Bool → Hp → Prop}
theorem za1s {r q:Sl×Sl} {h1 h2:Hp} (hl:h1.le h2) (hr:CORE h1 S r) (hq:CORE h2 S q):∃az bs,IL h2 r.1 az∧IL h2 q.1 az∧IL h2 r.2 bs∧IL h2 q.2 bs∧(VS S→az=coreS S)∧(¬VS S→az=[]):=by
 rcases hr with ⟨v,n,i1,i2⟩ | ⟨n,e⟩
 · rcases hq with ⟨_,_,j1,j2⟩ | ⟨m,_⟩
   · exact ⟨_,_,i1.le hl,j1,i2.le hl,j2,fun _=>rfl,fun hn=>absurd v hn⟩
   · rcases m with m | m
     · exact absurd v m
     · exact absurd m n
 · rcases hq with ⟨v,m,_,_⟩ | ⟨m,e2⟩
   · rcases n with n | n
     · exact absurd v n
     · exact absurd n m
   · subst e e2
     refine ⟨[],[],IL.nil,IL.nil,IL.nil,IL.nil,fun hv=>?_,fun _=>rfl⟩
     rcases n with n | n
     · exact absurd hv n
     · exact n.symm
end
end Den
end

section
namespace Den
open Go Iv Lx
theorem za5v {L:List PCon} {cs:List Int} {item:Int} {R:List Int}:∀k,k≤L.length→wtL L (remN (L.map fun c=>itemsC c cs) item R k)=(((L.take k).filter fun c=>decide (keepP (itemsC c cs) item R)).map fun c=>eqK c.kind).sum
 | 0,_=>by simp [remN,wtL]
 | k+1,hk=>by
   have hk':k<L.length:=by omega
   have ih:=za5v (L:=L) (cs:=cs) (item:=item) (R:=R) k (by omega)
   have hg:(L.map fun c=>itemsC c cs).getD k []=itemsC L[k] cs:=by
    rw [zb9 (by simpa using hk'),List.getElem_map]
   have hstep:remN (L.map fun c=>itemsC c cs) item R (k+1)=remN (L.map fun c=>itemsC c cs) item R k++(if keepP ((L.map fun c=>itemsC c cs).getD k []) item R then [(k:Int)] else []):=rfl
   rw [hstep,hg,←List.take_append_getElem hk',List.filter_append,List.map_append,List.sum_append,←ih,zrn]
   by_cases hh:keepP (itemsC L[k] cs) item R
   · rw [if_pos hh,if_pos (decide_eq_true hh),zr2,show ((k:Nat):Int).toNat=k from rfl,zb9 hk']
     simp
   · rw [if_neg hh,if_neg (by simpa using hh),List.append_nil]
     simp
theorem za7e {L:List PCon} {cs:List Int} {item:Int} {R:List Int}:canP L cs R item↔item∉R∧((L.filter fun c=>decide (keepP (itemsC c cs) item R)).map fun c=>eqK c.kind).sum≤most item∧∀c∈L,keepP (itemsC c cs) item R→suitP c cs item:=by
 unfold canP
 have hw:=za5v (L:=L) (cs:=cs) (item:=item) (R:=R) L.length (Nat.le_refl _)
 rw [List.take_length] at hw
 have hr:remL (L.map fun c=>itemsC c cs) item R=remN (L.map fun c=>itemsC c cs) item R L.length:=by unfold remL; simp
 rw [hr,hw]
 refine and_congr_right fun _=>and_congr_right fun _=>⟨fun h c hc hkp=>?_,fun h i hi=>?_⟩
 · obtain ⟨k,hk,rfl⟩:=List.mem_iff_getElem.1 hc
   have:=h (k:Int) (zm4.2 ⟨k,hk,rfl,by rw [zb9 (by simpa using hk),List.getElem_map]; exact hkp⟩)
   rwa [show ((k:Nat):Int).toNat=k from rfl,zb9 hk] at this
 · obtain ⟨k,hk,rfl,hkp⟩:=zm4.1 hi
   rw [show ((k:Nat):Int).toNat=k from rfl,zb9 hk]
   rw [zb9 (by simpa using hk),List.getElem_map] at hkp
   exact h _ (List.getElem_mem hk) hkp
theorem zaa9 {l m:List Nat} (h:l.Sublist m):l.sum≤m.sum:=by
 induction h with
 | slnil=>exact Nat.le_refl _
 | cons a _ ih=>simp only [List.sum_cons]; omega
 | cons_cons a _ ih=>simp only [List.sum_cons]; omega
theorem za9a {L M:List PCon} {cs:List Int} {item:Int} {R:List Int} (hs:M.Sublist L) (h:canP L cs R item):canP M cs R item:=by
 rw [za7e] at h ⊢
 exact ⟨h.1,Nat.le_trans (zaa9 ((hs.filter _).map _)) h.2.1,fun c hc hkp=>h.2.2 c (hs.subset hc) hkp⟩
def lessS (S:PSk) (k:Nat):PSk:={ S with con:=S.con.take k++S.con.drop (k+1) }
theorem zvx {S:PSk} {k:Nat}:(lessS S k).con.Sublist S.con:=by
 have h:(S.con.take k++S.con.drop (k+1)).Sublist (S.con.take k++S.con.drop k):=List.Sublist.append (List.Sublist.refl _) (by rw [←List.drop_drop]; exact List.drop_sublist _ _)
 rw [List.take_append_drop] at h
 exact h
theorem za9p {S:PSk} {k:Nat} (hs:sSk S) (hv:VS S):sSk (lessS S k)∧VS (lessS S k):=by
 have h:=zvx (S:=S) (k:=k)
 obtain ⟨s1,s2,s3,s4,s5,s6,s7,s8⟩:=hs
 obtain ⟨v1,v2,v3,v4,v5,v6⟩:=hv
 exact ⟨⟨s1,s2,s3,s4,s5,Nat.le_trans h.length_le s6,s7,fun c hc=>s8 c (h.subset hc)⟩,v1,v2,v3,v4,v5,fun c hc=>v6 c (h.subset hc)⟩
theorem ztn {S:PSk} (h:S.arc=[]):allC S=S.con:=by
 unfold allC imp impL
 rw [h]; simp
theorem za53 {S:PSk} {k:Nat} (ha:S.arc=[]):∀x∈coreS (lessS S k),x∈coreS S:=by
 have ha2:(lessS S k).arc=[]:=ha
 have e1:=ztn ha
 have e2:=ztn ha2
 have e3:cens (lessS S k)=cens S:=rfl
 have e4:allS (lessS S k)=allS S:=rfl
 intro x hx
 rw [za7n] at hx ⊢
 rw [e4] at hx
 refine ⟨hx.1,fun hp=>hx.2 ?_⟩
 have hsq:SeqR (lessS S k) (peelS S (allS S)):=fun j hj=>by
  obtain ⟨g1,g2⟩:=zwe (S:=S) (pref:=allS S) hj
  rw [e2,e3,e4]
  rw [e1] at g1
  exact ⟨za9a zvx g1,g2⟩
 exact zaa4 hsq (fun y hy=>ztr (S:=lessS S k) (by rw [e4] at hy; exact hy)) x hp
section
variable {h : Hp} {s : TSketch} {S : PSk} {K : Bool → Hp → Prop}
theorem zz6 {r:Sl×Sl} (hr:CORE h S r) (hv:VS S):IL h r.1 (coreS S):=by
 obtain ⟨az,bs,i1,_,_,_,e1,_⟩:=za1s (Hp.le_refl _) hr hr
 rw [←e1 hv]; exact i1
theorem za8x {z:Int} (hx:SK h s S) (ht:GT h) (hz:0≤z∧z≤255) (hk:∀h',h.le h'→K true h'):F.zi1 s z K h:=by
 unfold F.zi1
 have hcl:=hx.2.2.2.2.2.len zai
 have hcc:=LR.cap hx.2.2.2.2.2
 refine za3 (fun _ h'=>h.le h'∧sSk S∧VS S∧S.con≠[]∧S.arc=[]) ?_ ?_
 · rintro _ h1 ⟨hl1,hs,hv,hne,ha⟩
   have hpos:=List.length_pos_iff.2 hne
   refine ⟨by omega,?_⟩
   rw [w64 (show -9223372036854775808≤z∧z≤9223372036854775807 by omega)]
   obtain ⟨k,hk0⟩:∃k:Nat,z.tmod (s.constraints.len:Int)=k:=⟨(z.tmod (s.constraints.len:Int)).toNat,by rw [Int.toNat_of_nonneg (Int.tmod_nonneg _ hz.1)]⟩
   have hk2:k<S.con.length:=by
    have:=Int.tmod_lt_of_pos z (show (0:Int)<s.constraints.len by omega)
    omega
   have s6:=hs.2.2.2.2.2.1
   rw [hk0]
   refine ⟨Int.le_refl _,by omega,by omega,?_⟩
   rw [show IntKind.i64.wrap ((k:Int)+1)=((k+1:Nat):Int) from by rw [w64 (by omega)]; rfl]
   refine ⟨by omega,by omega,by omega,?_⟩
   rw [show (0:Int).toNat=0 from rfl,show ((k:Nat):Int).toNat=k from rfl,show ((k+1:Nat):Int).toNat=k+1 from rfl,show ((s.constraints.len:Nat):Int).toNat=s.constraints.len from rfl]
   have hL:=hx.2.2.2.2.2.le zai hl1
   refine za5f (c:=cc) (n:=5) (P:=CO) fun p5 h2 ho2=>?_
   refine ho2.appAll zai (bytes:=88) (zero:=zC) (hL.cut zai (k:=k) (by omega)) rfl (by simp; omega) (by simp; omega) fun w7 h3 ho3=>?_
   rw [List.nil_append] at ho3
   refine ho3.appAll zai (bytes:=88) (zero:=zC) (hL.drop zai (k:=k+1) (m:=s.constraints.len) (by omega) hcl) rfl (by simp; omega) (by simp; omega) fun w9 h4 ho4=>?_
   have hle4:=Hp.le_trans hl1 ho4.dle
   have hx4:=hx.le hle4
   have hx':SK h4 ⟨s.points,s.circles,s.segments,s.arcs,s.chains,w9⟩ (lessS S k):=⟨hx4.1,hx4.2.1,hx4.2.2.1,hx4.2.2.2.1,hx4.2.2.2.2.1,ho4.lr zai⟩
   obtain ⟨hs',hv'⟩:=za9p (k:=k) hs hv
   refine zoo hx4 hs (ht.le hle4) fun r10 h5 hl5 hr10=>?_
   have hle5:=Hp.le_trans hle4 hl5
   refine zoo (hx'.le hl5) hs' (ht.le hle5) fun r11 h6 hl6 hr11=>?_
   have hle6:=Hp.le_trans hle5 hl6
   have i10:=(zz6 hr10 hv).le hl6
   have i11:=zz6 hr11 hv'
   have c10:=zox hs
   have c11:=zox hs'
   have n11:=i11.len
   refine zbr (n:=(coreS (lessS S k)).length) (by omega) (fun i h'=>h'=h6) rfl ?_
   rintro i h7 hi rfl kk hkk
   refine za0 (fun h8=>?_) (fun h8=>hk _ hle6)
   have hi':i<(coreS (lessS S k)).length:=by simp only at h8; omega
   refine i11.get i rfl hi' ?_
   refine za9t i10 (by omega) fun st hst=>?_
   rw [hst]
   refine zaq ?_ (hkk _ hi' rfl)
   rw [decide_eq_true (za53 ha _ (List.getElem_mem hi'))]; rfl
 · refine zlu ht fun h1 hl1=>zaq rfl ?_
   refine zx0 (hx.le hl1) fun b h2 hl2 hb=>?_
   have hle2:=Hp.le_trans hl1 hl2
   refine za2 (fun h3=>zlu (ht.le hle2) fun h3 hl3=>hk _ (Hp.le_trans hle2 hl3)) (fun h3=>?_)
   have hs:=hb (by simpa using h3)
   refine zwu (hx.le hle2) hs fun r h4 hl4 hr=>?_
   have hle4:=Hp.le_trans hle2 hl4
   have aw:callP F.zd7 (fun r13 h12=>K r13 h12) h4:=zlu (ht.le hle4) fun h3 hl3=>hk _ (Hp.le_trans hle4 hl3)
   refine zbq (fun _=>aw) (fun h5=>zab (fun _=>aw) (fun h6=>za0 (fun _=>aw) (fun h7=>⟨hle4,hs,hr.1 h5,fun hh=>h6 ?_,?_⟩)))
   · rw [hh] at hcl; rw [hcl]; rfl
   · have:=hx.2.2.2.1.len zdj
     exact List.eq_nil_of_length_eq_zero (by omega)
end
end Den
end
