/-
  Part 6 of the tools and contracts from which the statement is proved.
-/
import Derived.Test.YthifcokendanpaaGreatDoorPartu5
import Derived.Test.YthifcokendanpaaGreatDoorProg
import Derived.RangeFuncBox
import Derived.RangeFuncLeaves
import Derived.Shelf.Abstract
import Derived.WalkKit
import Derived.OwnWalkIn
import Derived.TacticsInMore
import Derived.LoopNIn
import Derived.LoopIn
import Derived.Laws.Externs
import Derived.Lib.Builder
import Derived.Lib.UnsafeStr
import Derived.ProofKit
set_option linter.all false
section
namespace Den
open Go Iv Lx
section
variable {α β γ δ : Type} {c : α → List Value} {n : Nat} {P : Hp → α → β → Prop} {c2 : γ → List Value} {n2 : Nat} {P2 : Hp → γ → δ → Prop} {D h h' : Hp} {l m : Sl} {ps : List β} {qs : List δ}
theorem zq0 {ε:Type} {G:(ε→Hp→Prop)→Hp→Prop} {K1 K:ε→Hp→Prop} (hR:Rec c n P) (hR2:Rec c2 n2 P2) (hx:LO c n P D h l ps) (hy:LO c2 n2 P2 D h m qs) (H:callP G K1 D)
 (k:∀v D' h',D.le D'→LO c n P D' h' l ps→LO c2 n2 P2 D' h' m qs→K1 v D'→K v h'):callP G K h:=by
 obtain ⟨xs,h1,h3,h4⟩:=hx
 obtain ⟨ys,g1,g3,g4⟩:=hy
 exact znr h1.1 H fun v D' h' a1 a2 a3 a4=>k v D' h' a1 ⟨xs,h1.move a2 a3,h3,fun k k1 k2=>hR.mono (h4 k k1 k2) a1⟩ ⟨ys,g1.move a2 a3,g3,fun k k1 k2=>hR2.mono (g4 k k1 k2) a1⟩ a4
theorem zup {k:Nat} {cs:List Value} {b:Nat} {bl:Blk} (ho:Own D h k l cs) (hb:h b=none):Own (D.ins b bl) (h.ins b bl) k l cs:=by
 obtain ⟨g1,g2,g3,g4⟩:=ho
 refine ⟨?_,g2,g3,?_⟩
 · intro k x hk
   by_cases hkb:k=b
   · subst hkb; rw [Hp.ins_same] at hk ⊢; exact hk
   · rw [Hp.ins_ne hkb] at hk ⊢; exact g1 _ _ hk
 · cases ha:l.a with
   | none=>rw [ha] at g4; exact g4
   | some a=>
     rw [ha] at g4
     obtain ⟨k1,k2,k3,x,k4,k5⟩:=g4
     have hne:a.block≠b:=fun hh=>by rw [hh,hb] at k4; cases k4
     exact ⟨k1,k2,by rw [Hp.ins_ne hne]; exact k3,x,by rw [Hp.ins_ne hne]; exact k4,k5⟩
theorem zvj {K:Addr→Hp→Prop} {cells:List Value} (hR:Rec c n P) (hR2:Rec c2 n2 P2) (hx:LO c n P D h l ps) (hy:LO c2 n2 P2 D h m qs)
 (H:∀a D' h',D.le D'→LO c n P D' h' l ps→LO c2 n2 P2 D' h' m qs→(∀i v,cells[i]?=Option.some v→D'.cell (a.add i)=Option.some v)→K a h'):newP cells K h:=by
 intro b e hb
 obtain ⟨xs,h1,h3,h4⟩:=hx
 obtain ⟨ys,g1,g3,g4⟩:=hy
 have hDb:D b=none:=by
  cases hd:D b with
  | none=>rfl
  | some x=>rw [h1.1 _ _ hd] at hb; cases hb
 have hl:D.le (D.ins b ⟨cells,e,(0,0)⟩):=Hp.le_ins hDb
 refine H _ (D.ins b ⟨cells,e,(0,0)⟩) _ hl ⟨xs,zup h1 hb,h3,fun k k1 k2=>hR.mono (h4 k k1 k2) hl⟩ ⟨ys,zup g1 hb,g3,fun k k1 k2=>hR2.mono (g4 k k1 k2) hl⟩ fun i v hv=>?_
 unfold Hp.cell
 rw [zbf,zdd rfl,zcl]
 simpa [Hp.ins_same] using hv
theorem zxu {Ks:Sl→Hp→Prop} {x:α} {b:β} {bytes:Nat} {zero:List Value} (hR:Rec c n P) (hx:LO c n P D h l ps) (hy:LO c2 n2 P2 D h m qs) (hap:Apt l m) (hz:zero.length=n) (hlen:(ps.length+1)*bytes≤140737488355328) (hlen2:ps.length+1≤140737488355328)
 (hp:P D x b) (H:∀y h',LO c n P D h' y (ps++[b])→LO c2 n2 P2 D h' m qs→Apt y m→Ks y h'):appP n bytes zero l 1 (c x) Ks h:=by
 have hl:=hx.len hR
 obtain ⟨xs,h1,h3,h4⟩:=hx
 obtain ⟨ys,g1,g3,g4⟩:=hy
 refine zko h1 (n:=1) (new:=c x) (by rw [hR.len]; omega) hz (hR.leaf x) (by rw [hl]; exact hlen) (by rw [hl]; exact hlen2) fun y h' hy' _ hs hbl=>H y h' ⟨xs++[x],?_,by simp [h3],fun k k1 k2=>?_⟩ ⟨ys,zpt g1 hap hs hy'.1,g3,g4⟩ fun a b' ha hb'=>?_
 · rw [List.flatMap_append]
   simp only [List.flatMap_cons,List.flatMap_nil,List.append_nil]
   exact hy'
 · rcases Nat.lt_or_ge k xs.length with h5 | h5
   · rw [List.getElem_append_left h5,List.getElem_append_left (by omega)]
     exact h4 k h5 (by omega)
   · have h6:k=xs.length:=by simp at k1; omega
     subst h6
     rw [List.getElem_append_right (Nat.le_refl _),List.getElem_append_right (by omega)]
     simp only [Nat.sub_self,List.getElem_cons_zero]
     have:xs.length-ps.length=0:=by omega
     simp only [this,List.getElem_cons_zero]
     exact hp
 · rcases hbl a ha with ⟨a',h5,h6⟩ | h5
   · rw [←h6]; exact hap a' b' h5 hb'
   · intro hh
     obtain ⟨_,_,_,k4⟩:=g1
     rw [hb'] at k4
     obtain ⟨_,_,_,x,k5,_⟩:=k4
     rw [hh,k5] at h5; cases h5
end
theorem zmn {z:Int} (h:z.natAbs<4294967296):BR 1 ((z:Int):Rat):=⟨by rw [Rat.num_intCast]; unfold Lt; rw [Nat.pow_one]; exact h,by rw [Rat.den_intCast]; unfold Lt; decide⟩
def numE (x:TRat) (z:Int):PEx:=.mk 1 x (some ((z:Int):Rat)) emptyS []
def shortX (x:TRat):Prop:=x.num.mag.len≤4∧x.den.mag.len≤4
theorem za5a {h:Hp} {x:TRat} {z:Int} (hz:z.natAbs<4294967296) (hx:NR h x ((z:Int):Rat)):shortX x:=by
 have hb:=zmn hz
 have h1:=zbn.2 hb.1
 have h2:=zbn.2 hb.2
 have e1:=hx.1.len
 have e2:=hx.2.len
 exact ⟨by omega,by omega⟩
theorem za8m {x:TRat} {z:Int} (hx:shortX x):sE (numE x z):=by
 refine ⟨?_,?_⟩
 · unfold numE smE smEL
   exact ⟨by simp,by decide,hx.1,hx.2,trivial⟩
 · unfold numE dep depL; decide
theorem dec5:decOk (some ((5:Int):Rat))=true:=by decide +kernel
theorem za4q:BS emptyS=[]:=rfl
theorem za8n {x:TRat} {z:Int} (hz:decOk (some ((z:Int):Rat))=true):vE (numE x z)=true:=by
 unfold vE numE
 simp [fmd,fmdL,dep,depL,shp,hz,za4q]
def DC (z:Int) (c:PCon) (e:Int×Int):Prop:=∃x:TRat,shortX x∧c=⟨2,[e.1,e.2],[],[numE x z],0⟩
def DCL (z:Int):List PCon→List (Int×Int)→Prop
 | [],[]=>True
 | c :: r,e :: q=>DC z c e∧DCL z r q
 | _,_=>False
theorem DCL.snoc {z:Int} {c:PCon} {e:Int×Int} (hc:DC z c e):∀{l:List PCon} {q:List (Int×Int)},DCL z l q→DCL z (l++[c]) (q++[e])
 | [],[],_=>⟨hc,trivial⟩
 | a :: r,b :: q,h=>⟨h.1,DCL.snoc hc h.2⟩
 | [],_ :: _,h=>h.elim
 | _ :: _,[],h=>h.elim
theorem DCL.len {z:Int}:∀{l:List PCon} {q:List (Int×Int)},DCL z l q→l.length=q.length
 | [],[],_=>rfl
 | a :: r,b :: q,h=>by rw [List.length_cons,List.length_cons,DCL.len h.2]
 | [],_ :: _,h=>h.elim
 | _ :: _,[],h=>h.elim
theorem DCL.all {z:Int} {Q:PCon→Prop}:∀{l:List PCon} {q:List (Int×Int)},DCL z l q→(∀c e,e∈q→DC z c e→Q c)→∀c∈l,Q c
 | [],[],_,_,c,hc=>by simp at hc
 | a :: r,b :: q,h,H,c,hc=>by
   rcases List.mem_cons.1 hc with rfl | hc
   · exact H _ b (by simp) h.1
   · exact DCL.all h.2 (fun c e he=>H c e (List.mem_cons_of_mem _ he)) c hc
 | [],_ :: _,h,_,_,_=>h.elim
 | _ :: _,[],h,_,_,_=>h.elim
theorem DC.sc {z:Int} {c:PCon} {e:Int×Int} (h:DC z c e):sC c:=by
 obtain ⟨x,hx,rfl⟩:=h
 refine ⟨by simp,by simp,by simp,fun v hv=>?_⟩
 simp only [List.mem_singleton] at hv
 subst hv
 exact za8m hx
theorem DC.vc {z:Int} (hz:decOk (some ((z:Int):Rat))=true) {c:PCon} {e:Int×Int} {n m:Int} (h:DC z c e) (h1:0≤e.1∧e.1<n) (h2:0≤e.2∧e.2<n) (h3:e.1≠e.2):VC c n m:=by
 obtain ⟨x,hx,rfl⟩:=h
 refine ⟨⟨by show (1:Int)≤2; decide,by show (2:Int)≤17; decide⟩,⟨rfl,fun y hy=>?_⟩,⟨rfl,fun y hy=>by simp at hy⟩,rfl,fun v hv=>?_,rfl,?_⟩
 · simp only [List.mem_cons,List.not_mem_nil,or_false] at hy
   rcases hy with rfl | rfl
   · exact h1
   · exact h2
 · simp only [List.mem_singleton] at hv
   subst hv
   exact za8n hz
 · rw [if_neg (by simp [fourK])]
   exact ⟨by simp [h3],by simp⟩
def DSK (z:Int) (S:PSk) (n:Nat) (prs:List (Int×Int)):Prop:=S.pts.length=n∧(∀p∈S.pts,VP p)∧S.cir=[]∧S.seg=[]∧S.arc=[]∧S.chn=[]∧DCL z S.con prs
theorem DSK.vs {z:Int} (hz:decOk (some ((z:Int):Rat))=true) {S:PSk} {n:Nat} {prs:List (Int×Int)} (h:DSK z S n prs) (hp:∀e∈prs,0≤e.1∧e.1<e.2∧e.2<n):VS S:=by
 obtain ⟨h1,h2,h3,h4,h5,h6,h7⟩:=h
 refine ⟨h2,by simp [h3],by simp [h4],by simp [h5],by simp [h6],?_⟩
 exact h7.all fun c e he hd=>by
  have:=hp e he
  exact hd.vc hz (by omega) (by omega) (by omega)
theorem DSK.ss {z:Int} {S:PSk} {n:Nat} {prs:List (Int×Int)} (h:DSK z S n prs) (hn:n≤10) (hp:prs.length≤20):sSk S:=by
 obtain ⟨h1,h2,h3,h4,h5,h6,h7⟩:=h
 exact ⟨by omega,by simp [h3],by simp [h4],by simp [h5],by simp [h6],by rw [h7.len]; exact hp,by simp [h6],h7.all fun c e _ hd=>hd.sc⟩
def prs:Nat→List (Int×Int)
 | 0=>[]
 | i+1=>prs i++(List.range i).map fun k:Nat=>((k:Int),(i:Int))
theorem zxp:∀{n:Nat},n≤10→(prs n).length≤10*n
 | 0,_=>by simp [prs]
 | n+1,h=>by
   have:=zxp (n:=n) (by omega)
   unfold prs
   rw [List.length_append,List.length_map,List.length_range]
   omega
def dPt (i:Nat):Option Rat×Option Rat:=(some ((i:Int):Rat),some ((i*i:Int):Rat))
section
variable {h : Hp} {K : TSketch → Hp → Prop}
theorem za6k {h:Hp} {a b:Addr} {p q z:Int} {x:TRat} (ha:∀i v,([.int .i64 p,.int .i64 q]:List Value)[i]?=some v→h.cell (a.add i)=some v)
 (hb:∀i v,([.int .i64 1,.bool x.num.neg,.slice x.num.mag.a x.num.mag.len x.num.mag.cap,.bool x.den.neg,.slice x.den.mag.a x.den.mag.len x.den.mag.cap,.string emptyS,.slice nilS.a nilS.len nilS.cap]:List Value)[i]?=some v→h.cell (b.add i)=some v)
 (hz:z.natAbs<4294967296) (hx:NR h x ((z:Int):Rat)):CO h ⟨2,⟨some a,2,2⟩,nilS,⟨some b,1,1⟩,0⟩ ⟨2,[p,q],[],[numE x z],0⟩:=by
 refine ⟨rfl,⟨zeg (size:=1) (n:=2) ha rfl,Nat.le_refl _⟩,IL.nil,⟨[⟨1,x,emptyS,nilS⟩],zeg (size:=7) (n:=1) hb rfl,Nat.le_refl _,rfl,fun k k1 k2=>?_⟩,rfl⟩
 have:k=0:=by simp at k1; omega
 subst this
 exact EX.mk ⟨1,x,emptyS,nilS⟩ (some ((z:Int):Rat)) [] [] (hx.or (zmn hz) (by decide)) Rd.nil (Nat.le_refl _) rfl (fun k h1 _=>by simp at h1)
theorem zit {n:Nat} (hn:n≤10) (H:∀s S h',h.le h'→SK h' s S→DSK 5 S n (prs n)→K s h'):callP (F.ze1 (n:Int)) K h:=by
 refine za1 (fun s h'=>∃S,SK h' s S∧DSK 5 S n (prs n)) (fun K' hk=>?_) fun s h' hl ⟨S,h1,h2⟩=>H s S h' hl h1 h2
 unfold F.ze1
 refine zau (fun st h'=>∃(i:Nat) (pl cl:Sl) (con:List PCon) (D:Hp),st=((pl,nilS,nilS,nilS,nilS,cl,()),(i:Int),())∧i≤n∧h.le D∧LO ptc 8 PTT D h' pl ((List.range i).map dPt)∧LO cc 5 CO D h' cl con∧Apt pl cl∧DCL 5 con (prs i))
  (fun st=>(n-st.2.1).toNat) ⟨0,nilS,nilS,[],h,rfl,by omega,Hp.le_refl _,LO.nil,LO.nil,fun a b ha=>(by cases ha),trivial⟩ ?_
 rintro _ h1 ⟨i,pl,cl,con,D,rfl,hi,hD,hp,hc,hap,hdc⟩
 have hconl:=hdc.len
 refine za0 (fun h2=>?_) (fun h2=>?_)
 · have hi':i<n:=by simp only at h2; omega
   have hpl:=zxp (n:=i) (by omega)
   have hii:i*i≤10*10:=Nat.mul_le_mul (by omega) (by omega)
   simp only
   rw [show IntKind.i64.wrap ((i:Int)*(i:Int))=((i*i:Nat):Int) from by rw [w64 (by rw [←Int.natCast_mul]; omega),Int.natCast_mul]]
   refine zq0 (K1:=fun v h'=>NR h' v (((i:Int):Int):Rat)) zcs zad hp hc (zj3 (by omega) (by omega) fun z h' _ hz=>hz) fun r3 D1 h3 hl1 hp hc hr3=>?_
   refine zq0 (K1:=fun v h'=>NR h' v ((((i*i:Nat):Int):Int):Rat)) zcs zad hp hc (zj3 (by omega) (by omega) fun z h' _ hz=>hz) fun r4 D2 h4 hl2 hp hc hr4=>?_
   have hle2:=Hp.le_trans hD (Hp.le_trans hl1 hl2)
   refine zxu (x:=(⟨r3,r4⟩:TPoint)) (b:=dPt i) zcs hp hc hap rfl (by simp; omega) (by simp; omega) ⟨(hr3.le hl2).or (zmn (by omega)) (by decide),hr4.or (zmn (by omega)) (by decide)⟩ fun w5 h5 hp hc hap=>?_
   rw [←List.map_singleton,←List.map_append,←List.range_succ] at hp
   refine zau (fun st h'=>∃(k:Nat) (cl':Sl) (con':List PCon) (D':Hp),st=((w5,nilS,nilS,nilS,nilS,cl',()),(k:Int),())∧k≤i∧D2.le D'∧LO ptc 8 PTT D' h' w5 ((List.range (i+1)).map dPt)∧LO cc 5 CO D' h' cl' con'∧Apt w5 cl'∧DCL 5 con' (prs i++(List.range k).map fun k:Nat=>((k:Int),(i:Int))))
    (fun st=>(i-st.2.1).toNat) ⟨0,cl,con,D2,rfl,by omega,Hp.le_refl _,hp,hc,hap,by simpa using hdc⟩ ?_
   clear hp hc hap
   rintro _ h6 ⟨k,cl',con',D',rfl,hk1,hD',hp,hc,hap,hdc'⟩
   have hcl:=hdc'.len
   rw [List.length_append,List.length_map,List.length_range] at hcl
   refine za0 (fun h7=>?_) (fun h7=>?_)
   · have hk':k<i:=by simp only at h7; omega
     refine zq0 (K1:=fun v h'=>NR h' v ((5:Int):Rat)) zcs zad hp hc (zj3 (by omega) (by omega) fun z h' _ hz=>hz) fun r8 D3 h8 hl3 hp hc hr8=>?_
     refine zvj zcs zad hp hc fun p9 D4 h9 hl4 hp hc c9=>?_
     refine zvj zcs zad hp hc fun p10 D5 h10 hl5 hp hc c10=>?_
     refine zxu (x:=(⟨2,⟨some p9,2,2⟩,nilS,⟨some p10,1,1⟩,0⟩:TConstraint)) (b:=⟨2,[(k:Int),(i:Int)],[],[numE r8 5],0⟩) zad hc hp hap.symm rfl (by omega) (by omega) (za6k (fun i v hv=>Hp.cell_le hl5 (c9 i v hv)) c10 (by decide) (hr8.le (Hp.le_trans hl4 hl5))) fun w11 h11 hc hp hap=>?_
     refine ⟨⟨k+1,w11,_,D5,by (try simp only); rw [w64 (by omega)]; rfl,by omega,Hp.le_trans hD' (Hp.le_trans hl3 (Hp.le_trans hl4 hl5)),hp,hc,hap.symm,?_⟩,by (try simp only); rw [w64 (by omega)]; omega⟩
     rw [List.range_succ,List.map_append,←List.append_assoc]
     exact DCL.snoc (e:=((k:Int),(i:Int))) ⟨r8,za5a (by decide) hr8,rfl⟩ hdc'
   · have:k=i:=by simp only at h7; omega
     subst this
     exact ⟨⟨k+1,w5,cl',con',D',by (try simp only); rw [w64 (by omega)]; rfl,by omega,Hp.le_trans hle2 hD',hp,hc,hap,hdc'⟩,by (try simp only); rw [w64 (by omega)]; omega⟩
 · have:i=n:=by simp only at h2; omega
   subst this
   refine hk _ _ (Hp.le_trans hD hp.dle) ⟨⟨(List.range i).map dPt,[],[],[],[],con⟩,⟨hp.lr zcs,LR.nil,LR.nil,LR.nil,LR.nil,hc.lr zad⟩,by simp,fun p hp=>?_,rfl,rfl,rfl,rfl,hdc⟩
   simp only [List.mem_map] at hp
   obtain ⟨j,_,rfl⟩:=hp
   exact ⟨rfl,rfl⟩
end
theorem zze {z:Int} {S:PSk} (h:DSK z S 3 (prs 3)):leftL (allS S) (peelS S (allS S))=[]∧planS S=[(1,2,[],0),(2,1,[2],0),(3,0,[0,1],1)]:=by
 obtain ⟨pts,cir,seg,arc,chn,con⟩:=S
 obtain ⟨h1,h2,rfl,rfl,rfl,rfl,h7⟩:=h
 obtain ⟨a,b,c,rfl⟩:∃a b c,pts=[a,b,c]:=by
  rcases pts with _ | ⟨a,_ | ⟨b,_ | ⟨c,_ | ⟨d,r⟩⟩⟩⟩<;>simp at h1
  exact ⟨a,b,c,rfl⟩
 have e:prs 3=[(0,1),(0,2),(1,2)]:=by decide
 rw [e] at h7
 rcases con with _ | ⟨c1,_ | ⟨c2,_ | ⟨c3,_ | ⟨c4,r⟩⟩⟩⟩
 · exact h7.elim
 · exact h7.2.elim
 · exact h7.2.2.elim
 · obtain ⟨⟨x1,_,rfl⟩,⟨x2,_,rfl⟩,⟨x3,_,rfl⟩,_⟩:=h7
   exact ⟨by kernel_rfl,by kernel_rfl⟩
 · exact h7.2.2.2.elim
theorem zs4 {z:Int} {S:PSk} (h:DSK z S 4 (prs 4)):peelS S (allS S)=[]∧leftL (allS S) (peelS S (allS S))=[0,1,2,3]:=by
 obtain ⟨pts,cir,seg,arc,chn,con⟩:=S
 obtain ⟨h1,h2,rfl,rfl,rfl,rfl,h7⟩:=h
 obtain ⟨a,b,c,d,rfl⟩:∃a b c d,pts=[a,b,c,d]:=by
  rcases pts with _ | ⟨a,_ | ⟨b,_ | ⟨c,_ | ⟨d,_ | ⟨d',r⟩⟩⟩⟩⟩<;>simp at h1
  exact ⟨a,b,c,d,rfl⟩
 have e:prs 4=[(0,1),(0,2),(1,2),(0,3),(1,3),(2,3)]:=by decide
 rw [e] at h7
 rcases con with _ | ⟨c1,_ | ⟨c2,_ | ⟨c3,_ | ⟨c4,_ | ⟨c5,_ | ⟨c6,_ | ⟨c7,r⟩⟩⟩⟩⟩⟩⟩
 · exact h7.elim
 · exact h7.2.elim
 · exact h7.2.2.elim
 · exact h7.2.2.2.elim
 · exact h7.2.2.2.2.elim
 · exact h7.2.2.2.2.2.elim
 · obtain ⟨⟨x1,_,rfl⟩,⟨x2,_,rfl⟩,⟨x3,_,rfl⟩,⟨x4,_,rfl⟩,⟨x5,_,rfl⟩,⟨x6,_,rfl⟩,_⟩:=h7
   exact ⟨by kernel_rfl,by kernel_rfl⟩
 · exact h7.2.2.2.2.2.2.elim
section
variable {h : Hp} {s : TSketch} {S : PSk} {Kb : Bool → Hp → Prop}
theorem znp (ht:GT h) (H:∀h',h.le h'→Kb true h'):callP F.zg4 Kb h:=by
 refine za1 (fun b _=>b=true) (fun K' hk=>?_) fun b h' hl hb=>by subst hb; exact H h' hl
 unfold F.zg4
 have v3:∀e∈prs 3,0≤e.1∧e.1<e.2∧e.2<(3:Nat):=by decide
 have v4:∀e∈prs 4,0≤e.1∧e.1<e.2∧e.2<(4:Nat):=by decide
 refine zit (n:=3) (by decide) fun s1 S1 h1 hl1 hx1 hd1=>?_
 refine znm hx1 (hd1.ss (by decide) (by decide)) (ht.le hl1) fun r2 h2 hl2 hr2=>?_
 have hle2:=Hp.le_trans hl1 hl2
 refine zit (n:=4) (by decide) fun s3 S3 h3 hl3 hx3 hd3=>?_
 have hle3:=Hp.le_trans hle2 hl3
 refine znm hx3 (hd3.ss (by decide) (by decide)) (ht.le hle3) fun r4 h4 hl4 hr4=>?_
 have hle4:=Hp.le_trans hle3 hl4
 refine zit (n:=4) (by decide) fun s5 S5 h5 hl5 hx5 hd5=>?_
 have hle5:=Hp.le_trans hle4 hl5
 have vs1:=hd1.vs dec5 v3
 have vs3:=hd3.vs dec5 v4
 have vs5:=hd5.vs dec5 v4
 have p1:=zze hd1
 have p3:=zs4 hd3
 have p5:=zs4 hd5
 refine zzm hx5 (hd5.ss (by decide) (by decide)) (ht.le hle5) (fun _ _ hn=>absurd vs5 hn) fun a b h6 hl6 _ ha hb=>?_
 have hle6:=Hp.le_trans hle5 hl6
 rw [p5.1] at ha
 rw [p5.2] at hb
 obtain ⟨q1,q2,q3⟩:r2.2=0∧r2.1.checks=nilS∧LR stc 4 STP h2 r2.1.steps (planS S1):=by
  rcases hr2 with ⟨hn,_⟩ | ⟨_,hn,_⟩ | ⟨_,_,h7,h8,h9⟩
  · exact absurd vs1 hn
  · exact absurd p1.1 hn
  · exact ⟨h7,h8,h9⟩
 have q4:r4.2=13:=by
  rcases hr4 with ⟨hn,_⟩ | ⟨_,_,h7⟩ | ⟨_,hn,_⟩
  · exact absurd vs3 hn
  · rw [h7]
  · rw [p3.2] at hn; cases hn
 rw [p1.2] at q3
 refine zid fun p7 h7 hl7 c7=>zid fun p8 h8 hl8 c8=>zid fun p9 h9 hl9 c9=>?_
 have l69:=Hp.le_trans hl7 (Hp.le_trans hl8 hl9)
 have hle9:=Hp.le_trans hle6 l69
 have l29:=Hp.le_trans hl3 (Hp.le_trans hl4 (Hp.le_trans hl5 (Hp.le_trans hl6 l69)))
 refine zaa (fun _=>?_) (fun hh=>absurd q1 hh)
 have hw:LR stc 4 STP h9 ⟨some p9,3,3⟩ [(1,2,[],0),(2,1,[2],0),(3,0,[0,1],1)]:=by
  refine ⟨[⟨1,2,nilS,0⟩,⟨2,1,⟨some p7,1,1⟩,0⟩,⟨3,0,⟨some p8,2,2⟩,1⟩],zeg (size:=4) (n:=3) c9 rfl,Nat.le_refl _,rfl,fun k k1 k2=>?_⟩
  have hi7:IL h9 ⟨some p7,1,1⟩ [2]:=⟨(zeg (size:=1) (n:=1) c7 rfl).le (Hp.le_trans hl8 hl9),Nat.le_refl _⟩
  have hi8:IL h9 ⟨some p8,2,2⟩ [0,1]:=⟨(zeg (size:=1) (n:=2) c8 rfl).le hl9,Nat.le_refl _⟩
  match k,k1 with
  | 0,_=>exact ⟨rfl,rfl,IL.nil,rfl⟩
  | 1,_=>exact ⟨rfl,rfl,hi7,rfl⟩
  | 2,_=>exact ⟨rfl,rfl,hi8,rfl⟩
 refine zn3 (p:=⟨r2.1.steps,r2.1.checks⟩) (q:=⟨⟨some p9,3,3⟩,nilS⟩) (q3.le zcf l29) hw q2 rfl (by decide) (by decide) fun h10 hl10=>?_
 rw [decide_eq_true rfl]
 refine zcd rfl ?_
 have hle10:=Hp.le_trans hle9 hl10
 refine zaa (fun _=>?_) (fun hh=>absurd q4 hh)
 have hal:=ha.len
 have hal:a.len=0:=hal
 refine zaa (fun _=>?_) (fun hh=>absurd (by simp only [hal]; rfl) hh)
 refine zid fun p11 h11 hl11 c11=>?_
 refine zlw (xs:=[0,1,2,3]) (ys:=[0,1,2,3]) (hb.le (Hp.le_trans l69 (Hp.le_trans hl10 hl11))) ⟨zeg (size:=1) (n:=4) c11 rfl,Nat.le_refl _⟩ (by decide) fun h12 hl12=>?_
 exact hk _ _ (Hp.le_trans hle10 (Hp.le_trans hl11 hl12)) (decide_eq_true rfl)
theorem zva {l:Sl} (hx:SK h s S) (H:∀b h',h.le h'→(b=true→sSk S∧l.len≤20)→Kb b h'):callP (F.zjg s l) Kb h:=by
 refine za1 (fun b _=>b=true→sSk S∧l.len≤20) (fun K' hk=>?_) fun b h' hl hb=>H b h' hl hb
 unfold F.zjg
 refine zy3 hx fun b h1 hl1 hb=>za7 (fun h2=>hk _ _ hl1 fun h3=>⟨hb h2,?_⟩) (fun h2=>hk _ _ hl1 fun h3=>by cases h3)
 have:=of_decide_eq_true h3
 omega
end
end Den
end

section
namespace Den
open Go Iv Lx
end Den
end

section
namespace Den
open Go Iv Lx
section
variable {h : Hp} {s : TSketch} {S : PSk} {K : Bool → Hp → Prop}
end
end Den
end

section
namespace Den
open Go Iv Lx Go.Proofs
open Go.ChangeShapes Go.WideShapes Go.ChangeAt Go.RowKit
section
variable {H : Type} {enc : TypeId × Value → H} {w : World} {cs : List Value}
end
end Den
end

section
namespace Den
open Go Iv Lx
def keepT (l:List Int) (item:Int) (T:List Int):Prop:=item∈l∧∀x∈l,x∈T
instance (l:List Int) (item:Int) (T:List Int):Decidable (keepT l item T):=by unfold keepT; infer_instance
theorem zxf {S:PSk} (hs:sSk S) (hv:VS S) {k:Nat} (hk:k<(its S).length) {x:Int} (hx:x∈(its S)[k]):x∈allS S:=by
 rw [ze0] at hk
 have hok:=(zf5 hv hs _ (List.getElem_mem hk)).1
 have hx:x∈itemsC (allC S)[k] (cens S):=by simpa [its] using hx
 unfold itemsC at hx
 unfold allS
 rw [zpq]
 rcases List.mem_append.1 hx with hx | hx
 · exact .inl (hok.2.1.2 x hx)
 · obtain ⟨j,hj,hx⟩:=List.mem_flatMap.1 hx
   have hj2:=hok.2.2.1.2 j hj
   have h3:x=-1-j∨x=(cens S).getD j.toNat 0:=by
    unfold itK at hx
    split at hx
    · simpa using hx
    · exact .inl (by simpa using hx)
   rcases h3 with rfl | rfl
   · right; omega
   · left
     have hcl:=zkq (S:=S)
     have h4:j.toNat<(cens S).length:=by omega
     rw [zbb h4]
     have h5:(cens S)[j.toNat]=(S.cir[j.toNat]'(by omega)).1:=by simp [cens]
     rw [h5]
     exact (hv.2.1 _ (List.getElem_mem _)).1
section
variable {h : Hp} {s : TSketch} {S : PSk} {x : TConstraint} {c : PCon} {cs : List Int} {ce : Sl} {item : Int} {T : List Int} {ts : Sl} {Kb : Bool → Hp → Prop} {Ki : Int → Hp → Prop} {Ks : Sl → Hp → Prop} {K : (Sl × Sl) → Hp → Prop}
def SeqR (S:PSk) (R:List Int):Prop:=∀k,k<R.length→canP (allC S) (cens S) (R.take k) (R.getD k 0)∧R.getD k 0∈allS S
theorem za5k {S:PSk}:SeqR S (peelS S (allS S)):=fun k hk=>zut hk
def inAll (l T:List Int):Prop:=∀x∈l,x∈T
instance (l T:List Int):Decidable (inAll l T):=by unfold inAll; infer_instance
end
end Den
end

section
namespace Den
open Go Iv Lx
section
variable {h D : Hp} {s : TSketch} {S : PSk} {x : TConstraint} {c : PCon} {cs : List Int} {ce l rs : Sl} {item : Int} {R xs : List Int} {p1 p2 : Addr} {Kb : Bool → Hp → Prop} {Ki : Int → Hp → Prop} {Ks : Sl → Hp → Prop} {K : (Sl × Sl) → Hp → Prop}
end
end Den
end

section
namespace Den
open Go Iv Lx
section
variable {h D : Hp} {s : TSketch} {S : PSk} {l rs : Sl} {item a b : Int} {R xs : List Int} {p1 p2 : Addr} {Kb : Bool → Hp → Prop} {Ki : Int → Hp → Prop} {Ks : Sl → Hp → Prop}
end
end Den
end

section
namespace Den
open Go Iv Lx
section
variable {h D : Hp} {g : TGraph} {es : List (Int × Int)} {Kb : Bool → Hp → Prop} {Ki : Int → Hp → Prop} {Ks : Sl → Hp → Prop}
end
end Den
end

section
namespace Den
open Go Iv Lx Go.Proofs
open Go.ChangeShapes Go.WideShapes Go.ChangeAt Go.RowKit
section
variable {H : Type} {enc : TypeId × Value → H} {w : World} {cs : List Value}
end
end Den
end

section
namespace Den
open Go
noncomputable def bd (fn:Func):Code:=match fn.body with | some c=>c | none=>.skip
section
variable {α ρ : Type} {A : ArgT α} {R : Ty ρ} {F : α → (ρ → Hp → Prop) → Hp → Prop} {g : Nat} {fn : Func}
theorem eo (C:Cfg) (an:An) (hf:C.P.funcs[g]?=some fn) (hC:Tab C C.tab) (hBk:BackTab C.P C.backs:=by exact trivial)
 (hb:fn.body=some (bd fn):=by exact rfl) (hn:fn.ntmps=C.n:=by exact rfl) (hname:(fn.name == "runtime.NumGoroutine")=false:=by decide) (ha:∀a,Nat.ble (A.up a).length C.n=true:=by exact fun _=>rfl)
 (hF:∀a K D,denF C fn (bd fn) an (A.up a) (fun v h=>R.dn v fun r=>K r h) D=F a K D:=by intro a K D; kernel_rfl):Entry C.P g (mkE A R F) false:=za50 hC hBk hf hb hn hname ha hF
theorem eoM (C:Cfg) (an:An) (hf:C.P.funcs[g]?=some fn) (hC:Tab C C.tab) (hBk:BackTab C.P C.backs:=by exact trivial)
 (hb:fn.body=some (bd fn):=by exact rfl) (hn:fn.ntmps=C.n:=by exact rfl) (hname:(fn.name == "runtime.NumGoroutine")=false:=by decide) (ha:∀a,Nat.ble (A.up a).length C.n=true:=by exact fun _=>rfl)
 (hF:∀a K D,denF C fn (bd fn) an (A.up a) (fun v h=>R.dn v fun r=>K r h) D=F a K D:=by intro a K D; kernel_rfl):Entry C.P g (mkM A R F) true:=za29 hC hBk hf hb hn hname ha hF
end
end Den
end

section
namespace Den
open Go Go.RowKit Go.Shelf
open Go.Proofs
attribute [local go_sem] Oper.semAt_some
set_option maxRecDepth 100000 in
set_option maxHeartbeats 2000000 in
theorem zzp:BackFn Tryz.prog 257 (.leaf (.int .u32)):=by
 refine ⟨enters_of Tryz.func257 (by kernel_rfl) rfl,?_⟩
 rintro l ab ⟨xa,xl,xc⟩ J w hxl h0 hbox hround
 simp only at hxl h0 hbox hround
 have hb0:=hbox _ _ h0
 refine callsIn_of_wp Tryz.func257 rfl trivial ?_ rfl
 simp only [Tryz.ntmps257,List.size_toArray,List.length_cons,List.length_nil,Nat.reduceAdd,Nat.reduceSub,Array.replicate_succ,Array.replicate_zero,List.push_toArray,List.append_toArray,List.nil_append,List.cons_append]
 gi_wp2
 gi_loopw [3] (fun i wr=>∃k:Nat,k≤xl∧i=.int .i64 ((k:Int)-1)∧J k wr) (fun i _=>(intOf i+1).toNat)
 case atStart=>exact ⟨xl,Nat.le_refl _,rfl,h0⟩
 case round=>
  obtain ⟨k,hk,rfl,hJ⟩:=hrel
  have hbx:=hbox _ _ hJ
  cases k with
  | zero=>
    gi_wp2
    go_end0
    exact ⟨⟨_,rfl⟩,hJ⟩
  | succ j=>
    obtain ⟨ad,v,hxa,hcells,f,tmps1,asg,body,hy,hR⟩:=hround j wr (by omega) hJ
    subst hxa
    have hc0:wr.cell? (ad.add j)=some (.int .u32 v):=by
     have:=hcells 0 (.int .u32 v) rfl
     simpa [STy.size] using this
    have hkj:(((j+1:Nat):Int)-1)=(j:Int):=by omega
    rw [hkj]
    simp only [STy.val,Lf.up] at hy
    gi_wp2
    refine ⟨rfl,hR.mono ?_⟩
    rintro e W3 ⟨rfl,hJ3⟩
    gi_wp2
    go_roundw
    case rel=>exact ⟨j,by omega,by simp,hJ3⟩
    case measure=>simp [intOf]
end Den
end

section
set_option maxRecDepth 100000
namespace Den
open Go Go.Proofs.Tryz
noncomputable section
noncomputable def e_x0:FSem:=mkE (ArgT.cons (Ty.leaf .sl) ArgT.nil) (Ty.leaf .bool) fun a=>F.zhx a.1
theorem t_x0:Entry prog 169 e_x0 false:=eo { P:=prog,n:=6,tab:=[] } (.seq .leaf (.seq .leaf .leaf)) func169 trivial
noncomputable def e_x1:FSem:=mkE (ArgT.cons (Ty.leaf .sl) (ArgT.fn 169 ArgT.nil)) (Ty.leaf (.int .i64)) fun a=>F.zbm a.1
theorem t_x1:Entry prog 210 e_x1 false:=eo { P:=prog,n:=19,tab:=[(169,e_x0)] } (.seq .leaf (.seq (.seq .leaf (.block (.loop [(8,.leaf (.int .i64))] (.seq .leaf (.seq (.cond .leaf .leaf) (.seq (.block (.seq .leaf (.seq .leaf (.cond (.seq .leaf .leaf) .leaf)))) .leaf)))))) (.seq .leaf .leaf))) func210 ⟨t_x0,trivial⟩
noncomputable def e_x2:FSem:=mkE (ArgT.cons (Ty.leaf .sl) (ArgT.fn 169 ArgT.nil)) (Ty.leaf .bool) fun a=>F.zbg a.1
theorem t_x2:Entry prog 168 e_x2 false:=eo { P:=prog,n:=9,tab:=[(210,e_x1)] } (.seq .leaf (.seq .leaf .leaf)) func168 ⟨t_x1,trivial⟩
noncomputable def e_x3:FSem:=mkE (ArgT.cons tyTSketch ArgT.nil) (Ty.leaf .bool) fun a=>F.zhc a.1
theorem t_x3:Entry prog 113 e_x3 false:=eo { P:=prog,n:=35,tab:=[(168,e_x2)],rtL:=[(5,1),(8,1),(11,1),(14,1),(17,1),(20,1),(32,1)],locL:=[1] } (.seq .leaf (.seq (.seq .leaf (.block (.loop [(25,.leaf (.int .i64))] (.seq .leaf (.seq (.cond .leaf .leaf) (.seq (.block (.seq .leaf (.seq .leaf (.cond (.seq .leaf .leaf) .leaf)))) .leaf)))))) (.seq .leaf .leaf))) func113 ⟨t_x2,trivial⟩
noncomputable def e_x4:FSem:=mkE (ArgT.cons tyTInt ArgT.nil) (Ty.leaf .bool) fun a=>F.zft a.1
theorem t_x4:Entry prog 172 e_x4 false:=eo { P:=prog,n:=27,tab:=[],rtL:=[(4,1),(10,1),(18,1)],locL:=[1] } (.seq .leaf (.seq .leaf (.seq .leaf .leaf))) func172 trivial
noncomputable def e_x5:FSem:=mkE (ArgT.cons (Ty.leaf .sl) ArgT.nil) (Ty.leaf .sl) fun a=>F.zae a.1
theorem t_x5:Entry prog 212 e_x5 false:=eo { P:=prog,n:=21,tab:=[] } (.seq .leaf (.seq (.block (.loop [(0,.leaf (.sl))] (.join [] (.seq .leaf (.cond .leaf .leaf)) (.block .leaf)))) (.seq .leaf .leaf))) func212 trivial
noncomputable def e_x6:FSem:=mkE (ArgT.cons tyTInt ArgT.nil) (Ty.leaf (.int .i64)) fun a=>F.zdu a.1
theorem t_x6:Entry prog 173 e_x6 false:=eo { P:=prog,n:=12,tab:=[(212,e_x5)],rtL:=[(4,1),(10,1)],locL:=[1] } (.seq .leaf (.seq (.block (.seq .leaf (.cond (.seq .leaf .leaf) (.seq .leaf (.cond (.seq .leaf .leaf) .leaf))))) (.seq .leaf .leaf))) func173 ⟨t_x5,trivial⟩
noncomputable def e_x7:FSem:=mkE (ArgT.cons (Ty.leaf .sl) ArgT.nil) (Ty.leaf .sl) fun a=>F.zb1 a.1
theorem t_x7:Entry prog 215 e_x7 false:=eo { P:=prog,n:=8,tab:=[] } (.seq .leaf (.seq (.seq .leaf (.cond (.seq .leaf .leaf) .leaf)) (.seq .leaf .leaf))) func215 trivial
noncomputable def e_x8:FSem:=mkE (ArgT.cons (Ty.leaf .bool) (ArgT.cons (Ty.leaf .sl) ArgT.nil)) tyTInt fun a=>F.zby a.1 a.2.1
theorem t_x8:Entry prog 214 e_x8 false:=eo { P:=prog,n:=14,tab:=[(212,e_x5)],locL:=[4] } (.seq .leaf (.seq .leaf (.seq (.seq .leaf (.cond (.seq .leaf .leaf) .leaf)) (.seq .leaf .leaf)))) func214 ⟨t_x5,trivial⟩
noncomputable def e_x9:FSem:=mkE (ArgT.cons (Ty.leaf .sl) ArgT.nil) (Ty.clo 257) fun a=>F.zbr a.1
theorem t_x9:Entry prog 246 e_x9 false:=eo { P:=prog,n:=4,tab:=[] } (.seq .leaf (.seq .leaf .leaf)) func246 trivial
noncomputable def e_x10:FSem:=mkE (ArgT.cons (Ty.leaf .sl) ArgT.nil) (Ty.leaf (.int .u64)) fun a=>F.zcu a.1
theorem t_x10:Entry prog 216 e_x10 false:=eo { P:=prog,n:=16,tab:=[(246,e_x9)],locL:=[3],backs:=[(257,(.leaf (.int .u32)))] } (.seq .leaf (.seq .leaf (.seq (.seq .leaf (.block (.back [(3,.box [.int .u64])] .leaf (.block .leaf)))) (.seq .leaf .leaf)))) func216 ⟨t_x9,trivial⟩ ⟨zzp,trivial⟩
noncomputable def e_x11:FSem:=mkE (ArgT.cons (Ty.leaf (.int .u64)) ArgT.nil) (Ty.leaf .sl) fun a=>F.zc3 a.1
theorem t_x11:Entry prog 217 e_x11 false:=eo { P:=prog,n:=10,tab:=[(212,e_x5)] } (.seq .leaf (.seq .leaf .leaf)) func217 ⟨t_x5,trivial⟩
noncomputable def e_x12:FSem:=mkE (ArgT.cons (Ty.leaf (.int .i64)) ArgT.nil) (Ty.leaf .bool) fun a=>F.zfr a.1
theorem t_x12:Entry prog 209 e_x12 false:=eo { P:=prog,n:=6,tab:=[] } (.seq .leaf (.seq .leaf .leaf)) func209 trivial
noncomputable def e_x13:FSem:=mkE (ArgT.cons (Ty.leaf (.int .i64)) (ArgT.cons (Ty.leaf (.int .i64)) ArgT.nil)) (Ty.leaf (.int .i64)) fun a=>F.zep a.1 a.2.1
theorem t_x13:Entry prog 163 e_x13 false:=eo { P:=prog,n:=20,tab:=[(209,e_x12)] } (.seq .leaf (.seq .leaf (.seq .leaf (.seq (.seq .leaf (.cond (.seq (.seq .leaf (.cond (.seq .leaf .leaf) .leaf)) (.seq .leaf .leaf)) .leaf)) (.seq (.seq .leaf (.cond (.seq .leaf .leaf) .leaf)) (.seq (.seq .leaf (.cond (.seq .leaf .leaf) .leaf)) (.seq (.seq .leaf (.cond (.seq .leaf .leaf) .leaf)) (.seq .leaf .leaf)))))))) func163 ⟨t_x12,trivial⟩
noncomputable def e_x14:FSem:=mkE (ArgT.cons (Ty.leaf (.int .u32)) ArgT.nil) (Ty.leaf .bool) fun a=>F.zed a.1
theorem t_x14:Entry prog 272 e_x14 false:=eo { P:=prog,n:=6,tab:=[] } (.seq .leaf (.seq .leaf .leaf)) func272 trivial
noncomputable def e_x15:FSem:=mkE (ArgT.cons (Ty.leaf (.int .u32)) (ArgT.cons (Ty.leaf (.int .u32)) ArgT.nil)) (Ty.leaf (.int .i64)) fun a=>F.zeq a.1 a.2.1
theorem t_x15:Entry prog 255 e_x15 false:=eo { P:=prog,n:=20,tab:=[(272,e_x14)] } (.seq .leaf (.seq .leaf (.seq .leaf (.seq (.seq .leaf (.cond (.seq (.seq .leaf (.cond (.seq .leaf .leaf) .leaf)) (.seq .leaf .leaf)) .leaf)) (.seq (.seq .leaf (.cond (.seq .leaf .leaf) .leaf)) (.seq (.seq .leaf (.cond (.seq .leaf .leaf) .leaf)) (.seq (.seq .leaf (.cond (.seq .leaf .leaf) .leaf)) (.seq .leaf .leaf)))))))) func255 ⟨t_x14,trivial⟩
noncomputable def e_x16:FSem:=mkE (ArgT.cons (Ty.leaf .sl) (ArgT.cons (Ty.leaf .sl) ArgT.nil)) (Ty.leaf (.int .i64)) fun a=>F.zdz a.1 a.2.1
theorem t_x16:Entry prog 239 e_x16 false:=eo { P:=prog,n:=41,tab:=[(163,e_x13),(255,e_x15)] } (.seq .leaf (.seq (.seq .leaf (.cond (.seq .leaf .leaf) .leaf)) (.seq (.seq .leaf (.block (.loop [(5,.leaf (.int .i64))] (.seq (.seq .leaf (.cond .leaf .leaf)) (.seq (.block (.seq (.draw [0,1,2,3,4,5,6,7,8]) (.cond (.seq (.draw [0,1,2,3,4,5,6,7,8,9]) .leaf) .leaf))) .leaf))))) (.seq .leaf .leaf)))) func239 ⟨t_x13,t_x15,trivial⟩
noncomputable def e_x17:FSem:=mkE (ArgT.cons (Ty.leaf .sl) (ArgT.cons (Ty.leaf (.int .u32)) ArgT.nil)) (Ty.tup (.cons (Ty.leaf .sl) (.cons (Ty.leaf .sl) .nil)) (fun x=>(x.1,x.2,())) (fun y=>(y.1,y.2.1)) (fun _=>rfl) (fun _=>rfl)) fun a=>F.zet a.1 a.2.1
theorem t_x17:Entry prog 240 e_x17 false:=eo { P:=prog,n:=43,tab:=[(212,e_x5),(217,e_x11)] } (.seq .leaf (.seq .leaf (.seq .leaf (.seq (.seq .leaf (.block (.loop [(7,.leaf (.int .u64)),(8,.leaf (.int .i64))] (.seq (.seq .leaf (.cond .leaf .leaf)) (.seq (.block (.seq .leaf (.seq .leaf .leaf))) .leaf))))) (.seq .leaf .leaf))))) func240 ⟨t_x5,t_x11,trivial⟩
noncomputable def e_x18:FSem:=mkE (ArgT.cons (Ty.leaf (.int .u32)) ArgT.nil) (Ty.leaf (.int .i64)) fun a=>F.zge a.1
theorem t_x18:Entry prog 256 e_x18 false:=eo { P:=prog,n:=19,tab:=[] } (.seq .leaf (.join [(0,.leaf (.int .u32)),(2,.leaf (.int .i64))] (.seq .leaf (.cond (.seq .leaf .leaf) .leaf)) (.join [(0,.leaf (.int .u32)),(2,.leaf (.int .i64))] (.seq .leaf (.cond (.seq .leaf .leaf) .leaf)) (.seq .leaf .leaf)))) func256 trivial
noncomputable def e_x19:FSem:=mkE (ArgT.cons (Ty.leaf (.int .u32)) ArgT.nil) (Ty.leaf (.int .i64)) fun a=>F.zd1 a.1
theorem t_x19:Entry prog 241 e_x19 false:=eo { P:=prog,n:=6,tab:=[(256,e_x18)] } (.seq .leaf (.seq .leaf .leaf)) func241 ⟨t_x18,trivial⟩
noncomputable def e_x20:FSem:=mkE (ArgT.cons (Ty.leaf .sl) (ArgT.cons (Ty.leaf (.int .i64)) ArgT.nil)) (Ty.leaf .sl) fun a=>F.zd7 a.1 a.2.1
theorem t_x20:Entry prog 242 e_x20 false:=eo { P:=prog,n:=41,tab:=[] } (.seq .leaf (.seq .leaf (.seq (.seq .leaf (.block (.loop [(15,.leaf (.int .i64))] (.seq .leaf (.seq (.cond .leaf .leaf) (.seq (.block (.seq .leaf (.seq .leaf (.seq .leaf .leaf)))) .leaf)))))) (.seq .leaf .leaf)))) func242 trivial
noncomputable def e_x21:FSem:=mkM (ArgT.cons (Ty.leaf .sl) (ArgT.cons (Ty.leaf .sl) (ArgT.cons (Ty.leaf (.int .u64)) ArgT.nil))) (Ty.leaf .bool) fun a=>F.zfm a.1 a.2.1 a.2.2.1
theorem t_x21:Entry prog 243 e_x21 true:=eoM { P:=prog,n:=63,tab:=[] } (.seq .leaf (.seq .leaf (.seq (.seq .leaf (.block (.loop [(7,.leaf (.int .u64)),(15,.leaf (.int .i64))] (.seq .leaf (.seq (.cond .leaf .leaf) (.seq (.block (.seq .leaf (.seq .leaf (.seq .leaf (.seq .leaf .leaf))))) .leaf)))))) (.seq .leaf (.seq .leaf (.seq .leaf .leaf)))))) func243 trivial
noncomputable def e_x22:FSem:=mkM (ArgT.cons (Ty.leaf .sl) (ArgT.cons (Ty.leaf .sl) ArgT.nil)) Ty.unit fun a=>F.zgd a.1 a.2.1
theorem t_x22:Entry prog 244 e_x22 true:=eoM { P:=prog,n:=41,tab:=[] } (.seq .leaf (.seq (.seq .leaf (.block (.loop [(4,.leaf (.int .u64)),(9,.leaf (.int .i64))] (.seq .leaf (.seq (.cond .leaf .leaf) (.seq (.block (.seq .leaf (.seq .leaf (.seq .leaf .leaf)))) .leaf)))))) .leaf)) func244 trivial
noncomputable def e_x23:FSem:=mkE (ArgT.cons (Ty.leaf .sl) (ArgT.cons (Ty.leaf (.int .i64)) ArgT.nil)) (Ty.leaf .sl) fun a=>F.zeu a.1 a.2.1
theorem t_x23:Entry prog 245 e_x23 false:=eo { P:=prog,n:=47,tab:=[] } (.seq .leaf (.seq .leaf (.seq (.seq .leaf (.block (.loop [(13,.leaf (.int .i64))] (.seq .leaf (.seq (.cond .leaf .leaf) (.join [] (.block (.seq .leaf (.seq .leaf (.seq .leaf (.cond (.draw [0,1,2,3,4,5,6,7,8,9,10,11,12,13,14,15,16]) .leaf))))) .leaf)))))) (.seq .leaf .leaf)))) func245 trivial
noncomputable def e_x24:FSem:=mkE (ArgT.cons (Ty.leaf .sl) (ArgT.cons (Ty.leaf .sl) ArgT.nil)) (Ty.tup (.cons (Ty.leaf .sl) (.cons (Ty.leaf .sl) .nil)) (fun x=>(x.1,x.2,())) (fun y=>(y.1,y.2.1)) (fun _=>rfl) (fun _=>rfl)) fun a=>F.zdf a.1 a.2.1
theorem t_x24:Entry prog 213 e_x24 false:=eo { P:=prog,n:=177,tab:=[(239,e_x16),(215,e_x7),(216,e_x10),(217,e_x11),(240,e_x17),(241,e_x19),(242,e_x20),(212,e_x5),(243,e_x21),(244,e_x22),(245,e_x23)],mutL:=[243,244] } (.seq .leaf (.seq (.block (.seq .leaf (.cond (.seq .leaf .leaf) (.seq .leaf (.cond (.seq .leaf (.seq (.draw [0,1,2,4,5,6,3,7,8,9]) .leaf)) (.seq .leaf (.cond (.seq .leaf .leaf) .leaf))))))) (.seq .leaf (.seq .leaf (.seq .leaf (.seq .leaf (.seq (.draw [0,1,2,3,4,5,6,7,8,9,10,11,12,13]) (.seq (.seq .leaf (.block (.loop [(15,.leaf (.int .i64))] (.seq (.seq .leaf (.cond .leaf .leaf)) (.seq (.block (.seq (.draw [0,1,2,3,4,5,6,7,8,9,10,11,12,13,14,15,16,17]) (.seq (.draw [0,1,2,3,4,5,6,7]) (.join [(17,.leaf (.int .u64))] (.block (.loop [(17,.leaf (.int .u64)),(18,.leaf (.int .u64))] (.join [] (.seq .leaf (.cond .leaf .leaf)) (.block (.seq .leaf (.seq .leaf (.seq .leaf (.cond .leaf .leaf)))))))) (.join [(17,.leaf (.int .u64))] (.seq .leaf (.cond (.seq .leaf .leaf) .leaf)) .leaf))))) .leaf))))) (.seq (.draw [0,2,3,4,6,1,5,7,8,9,10]) .leaf))))))))) func213 ⟨t_x16,t_x7,t_x10,t_x11,t_x17,t_x19,t_x20,t_x5,t_x21,t_x22,t_x23,trivial⟩
noncomputable def e_x25:FSem:=mkE (ArgT.cons tyTInt (ArgT.cons tyTInt ArgT.nil)) tyTInt fun a=>F.zg2 a.1 a.2.1
theorem t_x25:Entry prog 175 e_x25 false:=eo { P:=prog,n:=57,tab:=[(212,e_x5),(215,e_x7),(214,e_x8),(216,e_x10),(217,e_x11),(213,e_x24)],rtL:=[(11,2),(14,3)],locL:=[2,3,4] } (.seq .leaf (.seq (.draw [0,1,3,4,2,5,6,7]) (.join [(5,.leaf (.sl)),(6,.leaf (.sl))] (.block (.loop [(5,.leaf (.sl)),(6,.leaf (.sl))] (.join [] (.seq .leaf (.cond .leaf .leaf)) (.block (.seq .leaf .leaf))))) (.seq (.seq .leaf (.cond (.seq .leaf .leaf) .leaf)) (.seq .leaf (.seq (.block (.loop [(9,.leaf (.int .u64)),(10,.leaf (.int .u64))] (.seq (.seq .leaf (.cond .leaf .leaf)) (.block (.draw [0,1,2,3,4,5]))))) (.seq .leaf .leaf))))))) func175 ⟨t_x5,t_x7,t_x8,t_x10,t_x11,t_x24,trivial⟩
noncomputable def e_x26:FSem:=mkE (ArgT.cons tyTInt ArgT.nil) (Ty.leaf .bool) fun a=>F.zdh a.1
theorem t_x26:Entry prog 174 e_x26 false:=eo { P:=prog,n:=19,tab:=[],rtL:=[(3,1),(7,1),(13,1)],locL:=[1] } (.seq .leaf (.seq .leaf .leaf)) func174 trivial
noncomputable def e_x27:FSem:=mkE (ArgT.cons tyTRat ArgT.nil) (Ty.leaf .bool) fun a=>F.zcv a.1
theorem t_x27:Entry prog 116 e_x27 false:=eo { P:=prog,n:=25,tab:=[(172,e_x4),(173,e_x6),(175,e_x25),(174,e_x26)],rtL:=[(3,1),(7,1),(12,1),(18,1),(20,1)],locL:=[1] } (.seq .leaf (.seq .leaf .leaf)) func116 ⟨t_x4,t_x6,t_x25,t_x26,trivial⟩
noncomputable def e_x28:FSem:=mkE (ArgT.cons tyTPoint ArgT.nil) (Ty.leaf .bool) fun a=>F.zj4 a.1
theorem t_x28:Entry prog 115 e_x28 false:=eo { P:=prog,n:=11,tab:=[(116,e_x27)],rtL:=[(3,1),(7,1)],locL:=[1] } (.seq .leaf (.seq .leaf .leaf)) func115 ⟨t_x27,trivial⟩
noncomputable def e_x29:FSem:=mkE (ArgT.cons tyTPoint (ArgT.cons (Ty.leaf .ptr) ArgT.nil)) (Ty.leaf .bool) fun a=>F.zcj a.1 a.2.1
theorem t_x29:Entry prog 171 e_x29 false:=eo { P:=prog,n:=8,tab:=[(115,e_x28)],locL:=[2],fnL:=[(4,115,0)] } (.seq .leaf (.seq .leaf .leaf)) func171 ⟨t_x28,trivial⟩
noncomputable def e_x30:FSem:=mkE (ArgT.cons (Ty.leaf .sl) (ArgT.fnc 171 1 ArgT.nil)) (Ty.leaf (.int .i64)) fun a=>F.zas a.1 a.2.1
theorem t_x30:Entry prog 211 e_x30 false:=eo { P:=prog,n:=19,tab:=[(171,e_x29)] } (.seq .leaf (.seq (.seq .leaf (.block (.loop [(8,.leaf (.int .i64))] (.seq .leaf (.seq (.cond .leaf .leaf) (.seq (.block (.seq .leaf (.seq .leaf (.cond (.seq .leaf .leaf) .leaf)))) .leaf)))))) (.seq .leaf .leaf))) func211 ⟨t_x29,trivial⟩
noncomputable def e_x31:FSem:=mkE (ArgT.cons (Ty.leaf .sl) (ArgT.fnc 171 1 ArgT.nil)) (Ty.leaf .bool) fun a=>F.zan a.1 a.2.1
theorem t_x31:Entry prog 170 e_x31 false:=eo { P:=prog,n:=9,tab:=[(211,e_x30)] } (.seq .leaf (.seq .leaf .leaf)) func170 ⟨t_x30,trivial⟩
noncomputable def e_x32:FSem:=mkE (ArgT.cons (Ty.leaf .sl) (ArgT.fn 115 ArgT.nil)) (Ty.leaf .bool) fun a=>F.zc7 a.1
theorem t_x32:Entry prog 114 e_x32 false:=eo { P:=prog,n:=9,tab:=[(170,e_x31)] } (.seq .leaf (.seq .leaf .leaf)) func114 ⟨t_x31,trivial⟩
noncomputable def e_x33:FSem:=mkE (ArgT.cons (Ty.leaf (.int .i64)) (ArgT.cons (Ty.leaf (.int .i64)) ArgT.nil)) (Ty.leaf .bool) fun a=>F.zdn a.1 a.2.1
theorem t_x33:Entry prog 119 e_x33 false:=eo { P:=prog,n:=12,tab:=[] } (.seq .leaf (.seq .leaf .leaf)) func119 trivial
noncomputable def e_x34:FSem:=mkE (ArgT.cons tyTRat ArgT.nil) (Ty.leaf (.int .i64)) fun a=>F.zem a.1
theorem t_x34:Entry prog 120 e_x34 false:=eo { P:=prog,n:=6,tab:=[(173,e_x6)],rtL:=[(3,1)],locL:=[1] } (.seq .leaf (.seq .leaf .leaf)) func120 ⟨t_x6,trivial⟩
noncomputable def e_x35:FSem:=mkE (ArgT.cons tyTRound (ArgT.cons (Ty.leaf .ptr) ArgT.nil)) (Ty.leaf .bool) fun a=>F.zj5 a.1 a.2.1
theorem t_x35:Entry prog 118 e_x35 false:=eo { P:=prog,n:=19,tab:=[(119,e_x33),(116,e_x27),(120,e_x34)],rtL:=[(5,2),(9,2),(14,2)],locL:=[2] } (.seq .leaf (.seq .leaf .leaf)) func118 ⟨t_x33,t_x27,t_x34,trivial⟩
noncomputable def e_x36:FSem:=mkE (ArgT.cons tyTRound (ArgT.cons (Ty.leaf .ptr) ArgT.nil)) (Ty.leaf .bool) fun a=>F.zck a.1 a.2.1
theorem t_x36:Entry prog 177 e_x36 false:=eo { P:=prog,n:=8,tab:=[(118,e_x35)],locL:=[2],fnL:=[(4,118,1)] } (.seq .leaf (.seq .leaf .leaf)) func177 ⟨t_x35,trivial⟩
noncomputable def e_x37:FSem:=mkE (ArgT.cons (Ty.leaf .sl) (ArgT.fnc 177 1 ArgT.nil)) (Ty.leaf (.int .i64)) fun a=>F.zat a.1 a.2.1
theorem t_x37:Entry prog 218 e_x37 false:=eo { P:=prog,n:=19,tab:=[(177,e_x36)] } (.seq .leaf (.seq (.seq .leaf (.block (.loop [(8,.leaf (.int .i64))] (.seq .leaf (.seq (.cond .leaf .leaf) (.seq (.block (.seq .leaf (.seq .leaf (.cond (.seq .leaf .leaf) .leaf)))) .leaf)))))) (.seq .leaf .leaf))) func218 ⟨t_x36,trivial⟩
noncomputable def e_x38:FSem:=mkE (ArgT.cons (Ty.leaf .sl) (ArgT.fnc 177 1 ArgT.nil)) (Ty.leaf .bool) fun a=>F.zao a.1 a.2.1
theorem t_x38:Entry prog 176 e_x38 false:=eo { P:=prog,n:=9,tab:=[(218,e_x37)] } (.seq .leaf (.seq .leaf .leaf)) func176 ⟨t_x37,trivial⟩
noncomputable def e_x39:FSem:=mkE (ArgT.cons (Ty.leaf .sl) (ArgT.fnc 118 1 ArgT.nil)) (Ty.leaf .bool) fun a=>F.zc8 a.1 a.2.1
theorem t_x39:Entry prog 117 e_x39 false:=eo { P:=prog,n:=9,tab:=[(176,e_x38)] } (.seq .leaf (.seq .leaf .leaf)) func117 ⟨t_x38,trivial⟩
end
end Den
end

section
set_option maxRecDepth 100000
namespace Den
open Go Go.Proofs.Tryz
noncomputable section
noncomputable def e_x40:FSem:=mkE (ArgT.cons tyTSegment (ArgT.cons (Ty.leaf .ptr) ArgT.nil)) (Ty.leaf .bool) fun a=>F.zj6 a.1 a.2.1
theorem t_x40:Entry prog 122 e_x40 false:=eo { P:=prog,n:=21,tab:=[(119,e_x33)],rtL:=[(5,2),(10,2),(15,2),(17,2)],locL:=[2] } (.seq .leaf (.seq .leaf .leaf)) func122 ⟨t_x33,trivial⟩
noncomputable def e_x41:FSem:=mkE (ArgT.cons tyTSegment (ArgT.cons (Ty.leaf .ptr) ArgT.nil)) (Ty.leaf .bool) fun a=>F.zce a.1 a.2.1
theorem t_x41:Entry prog 179 e_x41 false:=eo { P:=prog,n:=8,tab:=[(122,e_x40)],locL:=[2],fnL:=[(4,122,1)] } (.seq .leaf (.seq .leaf .leaf)) func179 ⟨t_x40,trivial⟩
noncomputable def e_x42:FSem:=mkE (ArgT.cons (Ty.leaf .sl) (ArgT.fnc 179 1 ArgT.nil)) (Ty.leaf (.int .i64)) fun a=>F.zak a.1 a.2.1
theorem t_x42:Entry prog 219 e_x42 false:=eo { P:=prog,n:=19,tab:=[(179,e_x41)] } (.seq .leaf (.seq (.seq .leaf (.block (.loop [(8,.leaf (.int .i64))] (.seq .leaf (.seq (.cond .leaf .leaf) (.seq (.block (.seq .leaf (.seq .leaf (.cond (.seq .leaf .leaf) .leaf)))) .leaf)))))) (.seq .leaf .leaf))) func219 ⟨t_x41,trivial⟩
noncomputable def e_x43:FSem:=mkE (ArgT.cons (Ty.leaf .sl) (ArgT.fnc 179 1 ArgT.nil)) (Ty.leaf .bool) fun a=>F.zaj a.1 a.2.1
theorem t_x43:Entry prog 178 e_x43 false:=eo { P:=prog,n:=9,tab:=[(219,e_x42)] } (.seq .leaf (.seq .leaf .leaf)) func178 ⟨t_x42,trivial⟩
noncomputable def e_x44:FSem:=mkE (ArgT.cons (Ty.leaf .sl) (ArgT.fnc 122 1 ArgT.nil)) (Ty.leaf .bool) fun a=>F.zbw a.1 a.2.1
theorem t_x44:Entry prog 121 e_x44 false:=eo { P:=prog,n:=9,tab:=[(178,e_x43)] } (.seq .leaf (.seq .leaf .leaf)) func121 ⟨t_x43,trivial⟩
noncomputable def e_x45:FSem:=mkE (ArgT.cons tyTSketch (ArgT.cons tyTArc ArgT.nil)) (Ty.leaf .bool) fun a=>F.zgj a.1 a.2.1
theorem t_x45:Entry prog 125 e_x45 false:=eo { P:=prog,n:=48,tab:=[(119,e_x33)],rtL:=[(6,2),(9,3),(14,2),(17,3),(23,2),(26,3),(31,2),(33,3),(38,3),(43,3)],locL:=[2,3] } (.seq .leaf (.join [] (.seq .leaf (.cond (.seq .leaf .leaf) .leaf)) (.seq .leaf (.seq .leaf .leaf)))) func125 ⟨t_x33,trivial⟩
noncomputable def e_x46:FSem:=mkE (ArgT.cons tyTArc (ArgT.cons (Ty.leaf .ptr) ArgT.nil)) (Ty.leaf .bool) fun a=>F.zj7 a.1 a.2.1
theorem t_x46:Entry prog 124 e_x46 false:=eo { P:=prog,n:=7,tab:=[(125,e_x45)],locL:=[2] } (.seq .leaf (.seq .leaf .leaf)) func124 ⟨t_x45,trivial⟩
noncomputable def e_x47:FSem:=mkE (ArgT.cons tyTArc (ArgT.cons (Ty.leaf .ptr) ArgT.nil)) (Ty.leaf .bool) fun a=>F.zcp a.1 a.2.1
theorem t_x47:Entry prog 181 e_x47 false:=eo { P:=prog,n:=8,tab:=[(124,e_x46)],locL:=[2],fnL:=[(4,124,1)] } (.seq .leaf (.seq .leaf .leaf)) func181 ⟨t_x46,trivial⟩
noncomputable def e_x48:FSem:=mkE (ArgT.cons (Ty.leaf .sl) (ArgT.fnc 181 1 ArgT.nil)) (Ty.leaf (.int .i64)) fun a=>F.zay a.1 a.2.1
theorem t_x48:Entry prog 220 e_x48 false:=eo { P:=prog,n:=19,tab:=[(181,e_x47)] } (.seq .leaf (.seq (.seq .leaf (.block (.loop [(8,.leaf (.int .i64))] (.seq .leaf (.seq (.cond .leaf .leaf) (.seq (.block (.seq .leaf (.seq .leaf (.cond (.seq .leaf .leaf) .leaf)))) .leaf)))))) (.seq .leaf .leaf))) func220 ⟨t_x47,trivial⟩
noncomputable def e_x49:FSem:=mkE (ArgT.cons (Ty.leaf .sl) (ArgT.fnc 181 1 ArgT.nil)) (Ty.leaf .bool) fun a=>F.zaw a.1 a.2.1
theorem t_x49:Entry prog 180 e_x49 false:=eo { P:=prog,n:=9,tab:=[(220,e_x48)] } (.seq .leaf (.seq .leaf .leaf)) func180 ⟨t_x48,trivial⟩
noncomputable def e_x50:FSem:=mkE (ArgT.cons (Ty.leaf .sl) (ArgT.fnc 124 1 ArgT.nil)) (Ty.leaf .bool) fun a=>F.zcb a.1 a.2.1
theorem t_x50:Entry prog 123 e_x50 false:=eo { P:=prog,n:=9,tab:=[(180,e_x49)] } (.seq .leaf (.seq .leaf .leaf)) func123 ⟨t_x49,trivial⟩
noncomputable def e_x51:FSem:=mkE (ArgT.cons tyTSketch (ArgT.cons tyTPiece ArgT.nil)) (Ty.tup (.cons (Ty.leaf (.int .i64)) (.cons (Ty.leaf (.int .i64)) .nil)) (fun x=>(x.1,x.2,())) (fun y=>(y.1,y.2.1)) (fun _=>rfl) (fun _=>rfl)) fun a=>F.zhl a.1 a.2.1
theorem t_x51:Entry prog 183 e_x51 false:=eo { P:=prog,n:=44,tab:=[],rtL:=[(8,3),(10,2),(12,3),(17,2),(19,3),(24,2),(26,3),(31,2),(33,3),(38,3)],locL:=[2,3] } (.seq .leaf (.seq .leaf (.join [(6,.leaf (.int .i64)),(7,.leaf (.int .i64))] (.seq .leaf (.cond (.draw [0,1,2,3,4,5,6,7,8,9,10,11,12,13,14,15]) (.draw [0,1,2,3,4,5,6,7,8,9,10,11,12,13,14,15]))) (.seq (.seq .leaf (.cond (.seq .leaf .leaf) .leaf)) (.seq .leaf .leaf))))) func183 trivial
noncomputable def e_x52:FSem:=mkE (ArgT.cons tyTSketch (ArgT.cons (Ty.leaf .sl) ArgT.nil)) (Ty.leaf .bool) fun a=>F.zf3 a.1 a.2.1
theorem t_x52:Entry prog 128 e_x52 false:=eo { P:=prog,n:=49,tab:=[(119,e_x33),(183,e_x51)],rtL:=[(18,2),(21,7),(23,2),(27,7)],locL:=[2,7] } (.seq .leaf (.seq .leaf (.seq (.seq .leaf (.block (.loop [(5,.leaf (.int .i64)),(13,.leaf (.int .i64))] (.seq .leaf (.seq (.cond .leaf .leaf) (.join [(5,.leaf (.int .i64))] (.block (.seq .leaf (.seq .leaf (.join [(8,.leaf (.int .i64))] (.seq .leaf (.cond .leaf .leaf)) (.seq (.seq .leaf (.cond (.seq .leaf .leaf) .leaf)) (.seq .leaf (.seq (.seq .leaf (.cond (.seq .leaf .leaf) .leaf)) .leaf))))))) .leaf)))))) (.seq .leaf .leaf)))) func128 ⟨t_x33,t_x51,trivial⟩
noncomputable def e_x53:FSem:=mkE (ArgT.cons (Ty.leaf .sl) (ArgT.cons (Ty.leaf .ptr) ArgT.nil)) (Ty.leaf .bool) fun a=>F.zj8 a.1 a.2.1
theorem t_x53:Entry prog 127 e_x53 false:=eo { P:=prog,n:=7,tab:=[(128,e_x52)] } (.seq .leaf (.seq .leaf .leaf)) func127 ⟨t_x52,trivial⟩
noncomputable def e_x54:FSem:=mkE (ArgT.cons (Ty.leaf .sl) (ArgT.cons (Ty.leaf .ptr) ArgT.nil)) (Ty.leaf .bool) fun a=>F.zci a.1 a.2.1
theorem t_x54:Entry prog 182 e_x54 false:=eo { P:=prog,n:=8,tab:=[(127,e_x53)],fnL:=[(4,127,1)] } (.seq .leaf (.seq .leaf .leaf)) func182 ⟨t_x53,trivial⟩
noncomputable def e_x55:FSem:=mkE (ArgT.cons (Ty.leaf .sl) (ArgT.fnc 182 1 ArgT.nil)) (Ty.leaf (.int .i64)) fun a=>F.zar a.1 a.2.1
theorem t_x55:Entry prog 210 e_x55 false:=eo { P:=prog,n:=19,tab:=[(182,e_x54)] } (.seq .leaf (.seq (.seq .leaf (.block (.loop [(8,.leaf (.int .i64))] (.seq .leaf (.seq (.cond .leaf .leaf) (.seq (.block (.seq .leaf (.seq .leaf (.cond (.seq .leaf .leaf) .leaf)))) .leaf)))))) (.seq .leaf .leaf))) func210 ⟨t_x54,trivial⟩
noncomputable def e_x56:FSem:=mkE (ArgT.cons (Ty.leaf .sl) (ArgT.fnc 182 1 ArgT.nil)) (Ty.leaf .bool) fun a=>F.zam a.1 a.2.1
theorem t_x56:Entry prog 168 e_x56 false:=eo { P:=prog,n:=9,tab:=[(210,e_x55)] } (.seq .leaf (.seq .leaf .leaf)) func168 ⟨t_x55,trivial⟩
noncomputable def e_x57:FSem:=mkE (ArgT.cons (Ty.leaf .sl) (ArgT.fnc 127 1 ArgT.nil)) (Ty.leaf .bool) fun a=>F.zc6 a.1 a.2.1
theorem t_x57:Entry prog 126 e_x57 false:=eo { P:=prog,n:=9,tab:=[(168,e_x56)] } (.seq .leaf (.seq .leaf .leaf)) func126 ⟨t_x56,trivial⟩
noncomputable def e_x58:FSem:=mkE (ArgT.cons (Ty.leaf (.int .i64)) ArgT.nil) (Ty.tup (.cons znk (.cons (Ty.leaf .bool) .nil)) (fun x=>(x.1,x.2,())) (fun y=>(y.1,y.2.1)) (fun _=>rfl) (fun _=>rfl)) fun a=>F.zds a.1
theorem t_x58:Entry prog 109 e_x58 false:=eo { P:=prog,n:=15,tab:=[],locL:=[2] } (.seq .leaf (.join [(2,.box [.int .i64,.int .i64,.int .i64,.int .i64,.bool,.bool,.bool])] (.seq .leaf (.cond (.seq .leaf .leaf) .leaf)) (.seq .leaf .leaf))) func109 trivial
noncomputable def e_x59:FSem:=mkE (ArgT.cons (Ty.leaf (.int .i64)) ArgT.nil) tyTInt fun a=>F.zdy a.1
theorem t_x59:Entry prog 259 e_x59 false:=eo { P:=prog,n:=15,tab:=[(217,e_x11),(214,e_x8)],locL:=[2] } (.seq .leaf (.seq .leaf (.join [(3,.leaf (.int .u64))] (.seq .leaf (.cond .leaf .leaf)) (.seq .leaf .leaf)))) func259 ⟨t_x11,t_x8,trivial⟩
noncomputable def e_x60:FSem:=mkE ArgT.nil tyTInt fun a=>F.zgv
theorem t_x60:Entry prog 273 e_x60 false:=eo { P:=prog,n:=2,tab:=[(259,e_x59)],locL:=[0] } (.seq .leaf (.seq .leaf .leaf)) func273 ⟨t_x59,trivial⟩
noncomputable def e_x61:FSem:=mkE (ArgT.cons (Ty.leaf (.int .i64)) ArgT.nil) tyTRat fun a=>F.zfo a.1
theorem t_x61:Entry prog 258 e_x61 false:=eo { P:=prog,n:=7,tab:=[(259,e_x59),(273,e_x60)],locL:=[2] } (.seq .leaf (.seq .leaf .leaf)) func258 ⟨t_x59,t_x60,trivial⟩
noncomputable def e_x62:FSem:=mkE (ArgT.cons tyTInt (ArgT.cons tyTInt ArgT.nil)) (Ty.leaf (.int .i64)) fun a=>F.zje a.1 a.2.1
theorem t_x62:Entry prog 260 e_x62 false:=eo { P:=prog,n:=26,tab:=[(173,e_x6),(163,e_x13),(212,e_x5),(239,e_x16)],rtL:=[(18,2),(21,3)],locL:=[2,3] } (.seq .leaf (.seq (.draw [0,2,1,3,4,5]) (.seq (.seq .leaf (.cond (.seq .leaf .leaf) .leaf)) (.seq (.draw [0,1,2,4,5,3,6,7,8,9]) .leaf)))) func260 ⟨t_x6,t_x13,t_x5,t_x16,trivial⟩
noncomputable def e_x63:FSem:=mkE (ArgT.cons (Ty.leaf .sl) (ArgT.cons (Ty.leaf .sl) ArgT.nil)) (Ty.leaf .sl) fun a=>F.zfv a.1 a.2.1
theorem t_x63:Entry prog 289 e_x63 false:=eo { P:=prog,n:=75,tab:=[(212,e_x5)] } (.seq .leaf (.join [] (.seq .leaf (.cond (.seq .leaf .leaf) .leaf)) (.seq .leaf (.seq (.seq .leaf (.block (.loop [(27,.leaf (.int .i64))] (.seq .leaf (.seq (.cond .leaf .leaf) (.seq (.block (.seq .leaf (.seq .leaf (.seq (.seq .leaf (.block (.loop [(8,.leaf (.int .u64)),(34,.leaf (.int .i64))] (.seq .leaf (.seq (.cond .leaf .leaf) (.seq (.block (.seq .leaf (.seq .leaf (.seq .leaf .leaf)))) .leaf)))))) .leaf)))) .leaf)))))) (.seq .leaf .leaf))))) func289 ⟨t_x5,trivial⟩
noncomputable def e_x64:FSem:=mkE (ArgT.cons tyTInt (ArgT.cons tyTInt ArgT.nil)) tyTInt fun a=>F.zg3 a.1 a.2.1
theorem t_x64:Entry prog 274 e_x64 false:=eo { P:=prog,n:=18,tab:=[(212,e_x5),(289,e_x63),(214,e_x8)],rtL:=[(5,2),(7,3),(10,2),(13,3)],locL:=[2,3,4] } (.seq .leaf (.seq (.draw [0,1,2,3,4,5,6,8,9,7,10,11,12,13]) .leaf)) func274 ⟨t_x5,t_x63,t_x8,trivial⟩
noncomputable def e_x65:FSem:=mkE (ArgT.cons (Ty.leaf .sl) (ArgT.cons (Ty.leaf .sl) ArgT.nil)) (Ty.leaf .sl) fun a=>F.zgs a.1 a.2.1
theorem t_x65:Entry prog 308 e_x65 false:=eo { P:=prog,n:=58,tab:=[],locL:=[45,55] } (.seq .leaf (.join [(0,.leaf (.sl)),(1,.leaf (.sl))] (.seq .leaf (.cond .leaf .leaf)) (.seq .leaf (.seq .leaf (.seq (.seq .leaf (.block (.loop [(5,.leaf (.sl)),(6,.leaf (.int .u64)),(22,.leaf (.int .i64))] (.seq .leaf (.seq (.cond .leaf .leaf) (.seq (.block (.seq .leaf (.seq .leaf (.join [(6,.leaf (.int .u64))] (.seq .leaf (.cond .leaf .leaf)) (.seq .leaf .leaf))))) .leaf)))))) (.seq (.seq .leaf (.cond .leaf .leaf)) (.seq .leaf .leaf))))))) func308 trivial
noncomputable def e_x66:FSem:=mkE (ArgT.cons (Ty.leaf .sl) (ArgT.cons (Ty.leaf .sl) ArgT.nil)) (Ty.leaf .sl) fun a=>F.zfu a.1 a.2.1
theorem t_x66:Entry prog 309 e_x66 false:=eo { P:=prog,n:=45,tab:=[(212,e_x5)] } (.seq .leaf (.seq .leaf (.seq .leaf (.seq (.seq .leaf (.block (.loop [(6,.leaf (.int .u64)),(15,.leaf (.int .i64))] (.seq .leaf (.seq (.cond .leaf .leaf) (.seq (.block (.seq .leaf (.seq .leaf (.join [(9,.leaf (.int .u64))] (.seq .leaf (.cond .leaf .leaf)) (.seq .leaf .leaf))))) .leaf)))))) (.seq .leaf .leaf))))) func309 ⟨t_x5,trivial⟩
noncomputable def e_x67:FSem:=mkE (ArgT.cons tyTInt (ArgT.cons tyTInt ArgT.nil)) (Ty.tup (.cons tyTInt (.cons tyTInt (.cons (Ty.leaf (.int .i64)) .nil))) (fun x=>(x.1,x.2.1,x.2.2,())) (fun y=>(y.1,y.2.1,y.2.2.1)) (fun _=>rfl) (fun _=>rfl)) fun a=>F.zh8 a.1 a.2.1
theorem t_x67:Entry prog 299 e_x67 false:=eo { P:=prog,n:=53,tab:=[(212,e_x5),(213,e_x24),(214,e_x8),(308,e_x65),(309,e_x66)],rtL:=[(10,3),(19,2),(26,2),(28,3),(42,2),(44,3),(49,3)],locL:=[2,3,4,5] } (.seq .leaf (.seq .leaf (.seq (.seq .leaf (.cond (.seq .leaf .leaf) .leaf)) (.seq .leaf (.join [(8,.leaf (.sl)),(9,.leaf (.sl))] (.seq .leaf (.cond (.seq .leaf .leaf) .leaf)) (.seq (.draw [0,1,2,3,4,5,7,8,9,6,10,11,12,13]) .leaf)))))) func299 ⟨t_x5,t_x24,t_x8,t_x65,t_x66,trivial⟩
noncomputable def e_x68:FSem:=mkE (ArgT.cons tyTInt (ArgT.cons tyTInt ArgT.nil)) tyTInt fun a=>F.zgw a.1 a.2.1
theorem t_x68:Entry prog 291 e_x68 false:=eo { P:=prog,n:=19,tab:=[(174,e_x26),(299,e_x67)],locL:=[2,3,4,5,6] } (.seq .leaf (.seq (.seq .leaf (.cond (.seq .leaf .leaf) .leaf)) (.seq .leaf (.seq .leaf .leaf)))) func291 ⟨t_x26,t_x67,trivial⟩
noncomputable def e_x69:FSem:=mkE (ArgT.cons tyTInt ArgT.nil) tyTInt fun a=>F.zjf a.1
theorem t_x69:Entry prog 290 e_x69 false:=eo { P:=prog,n:=11,tab:=[(212,e_x5),(215,e_x7),(214,e_x8)],rtL:=[(3,1),(6,1)],locL:=[1,2] } (.seq .leaf (.seq (.draw [0,1,2,3,4,5,6,7,8]) .leaf)) func290 ⟨t_x5,t_x7,t_x8,trivial⟩
noncomputable def e_x70:FSem:=mkE (ArgT.cons tyTInt (ArgT.cons tyTInt ArgT.nil)) tyTRat fun a=>F.zgh a.1 a.2.1
theorem t_x70:Entry prog 275 e_x70 false:=eo { P:=prog,n:=20,tab:=[(175,e_x25),(291,e_x68),(290,e_x69)],rtL:=[(9,3)],locL:=[2,3,4,5] } (.seq .leaf (.seq .leaf (.join [(5,.box [.bool,.sl])] (.seq .leaf (.cond .leaf .leaf)) (.seq (.draw [0,1,3,4,2,5,6,7]) .leaf)))) func275 ⟨t_x25,t_x68,t_x69,trivial⟩
noncomputable def e_x71:FSem:=mkE (ArgT.cons tyTRat (ArgT.cons tyTRat ArgT.nil)) tyTRat fun a=>F.zig a.1 a.2.1
theorem t_x71:Entry prog 261 e_x71 false:=eo { P:=prog,n:=31,tab:=[(274,e_x64),(275,e_x70),(174,e_x26),(273,e_x60)],rtL:=[(5,2),(9,3),(13,2),(15,3),(20,2),(22,3),(25,2),(27,3)],locL:=[2,3,4] } (.seq .leaf (.join [(4,.box [.bool,.sl,.bool,.sl])] (.seq .leaf (.cond (.seq .leaf .leaf) .leaf)) (.seq (.draw [0,1,2,3,5,6,7,8,4,9,10,11]) .leaf))) func261 ⟨t_x64,t_x70,t_x26,t_x60,trivial⟩
noncomputable def e_x72:FSem:=mkE (ArgT.cons (Ty.leaf (.int .i64)) ArgT.nil) (Ty.leaf .str) fun a=>F.zf1 a.1
theorem t_x72:Entry prog 301 e_x72 false:=eo { P:=prog,n:=15,tab:=[] } (.seq .leaf (.seq (.seq .leaf (.cond (.seq .leaf .leaf) .leaf)) (.seq .leaf .leaf))) func301 trivial
noncomputable def e_x73:FSem:=mkE (ArgT.cons (Ty.leaf (.int .u64)) ArgT.nil) (Ty.leaf (.int .i64)) fun a=>F.zgf a.1
theorem t_x73:Entry prog 311 e_x73 false:=eo { P:=prog,n:=25,tab:=[] } (.seq .leaf (.join [(0,.leaf (.int .u64)),(2,.leaf (.int .i64))] (.seq .leaf (.cond (.seq .leaf .leaf) .leaf)) (.join [(0,.leaf (.int .u64)),(2,.leaf (.int .i64))] (.seq .leaf (.cond (.seq .leaf .leaf) .leaf)) (.join [(0,.leaf (.int .u64)),(2,.leaf (.int .i64))] (.seq .leaf (.cond (.seq .leaf .leaf) .leaf)) (.seq .leaf .leaf))))) func311 trivial
noncomputable def e_x74:FSem:=mkE (ArgT.cons (Ty.leaf (.int .i64)) ArgT.nil) (Ty.leaf (.int .i64)) fun a=>F.ze3 a.1
theorem t_x74:Entry prog 310 e_x74 false:=eo { P:=prog,n:=6,tab:=[] } (.seq .leaf (.seq .leaf .leaf)) func310 trivial
noncomputable def e_x75:FSem:=mkE (ArgT.cons (Ty.leaf .bool) ArgT.nil) (Ty.leaf (.int .i64)) fun a=>F.ze2 a.1
theorem t_x75:Entry prog 312 e_x75 false:=eo { P:=prog,n:=4,tab:=[] } (.seq .leaf (.seq (.seq .leaf (.cond (.seq .leaf .leaf) .leaf)) (.seq .leaf .leaf))) func312 trivial
noncomputable def e_x76:FSem:=mkE (ArgT.cons (Ty.leaf (.int .u64)) ArgT.nil) (Ty.leaf (.int .i64)) fun a=>F.zct a.1
theorem t_x76:Entry prog 302 e_x76 false:=eo { P:=prog,n:=15,tab:=[(311,e_x73),(310,e_x74),(312,e_x75)] } (.seq .leaf (.seq .leaf (.seq .leaf .leaf))) func302 ⟨t_x73,t_x74,t_x75,trivial⟩
noncomputable def e_x77:FSem:=mkM (ArgT.cons (Ty.leaf .sl) (ArgT.cons (Ty.leaf (.int .u64)) ArgT.nil)) Ty.unit fun a=>F.zcm a.1 a.2.1
theorem t_x77:Entry prog 303 e_x77 true:=eoM { P:=prog,n:=167,tab:=[] } (.seq .leaf (.seq (.block (.loop [(1,.leaf (.int .u64)),(4,.leaf (.int .i64))] (.seq (.seq .leaf (.cond .leaf .leaf)) (.block (.seq .leaf (.seq .leaf (.seq .leaf (.seq .leaf (.seq .leaf (.seq (.draw [0,1,2,3,4,5,6,7,8,9,10,11,12,13,14]) (.seq (.draw [0,1,2,3,4,5,6,7,8,9,10,11,12,13,14]) (.seq (.draw [0,1,2,3,4,5,6,7,8,9,10,11,12,13,14]) (.seq (.draw [0,1,2,3,4,5,6,7,8,9,10,11,12,13,14]) .leaf))))))))))))) (.seq .leaf (.join [(4,.leaf (.int .i64)),(12,.leaf (.int .u32))] (.seq .leaf (.cond (.seq .leaf (.seq .leaf (.seq .leaf (.seq (.draw [0,1,2,3,4,5,6,7,8,9,10,11,12,13,14]) (.seq (.draw [0,1,2,3,4,5,6,7,8,9,10,11,12,13,14]) .leaf))))) .leaf)) (.join [(4,.leaf (.int .i64)),(12,.leaf (.int .u32))] (.seq .leaf (.cond (.seq .leaf (.seq .leaf (.seq (.draw [0,1,2,3,4,5,6,7,8,9,10,11,12,13,14]) .leaf))) .leaf)) (.seq .leaf (.cond .leaf .leaf))))))) func303 trivial
noncomputable def e_x78:FSem:=mkE (ArgT.cons (Ty.leaf (.int .u64)) (ArgT.cons (Ty.leaf (.int .i64)) ArgT.nil)) (Ty.leaf .str) fun a=>F.zdv a.1 a.2.1
theorem t_x78:Entry prog 293 e_x78 false:=eo { P:=prog,n:=32,tab:=[(301,e_x72),(302,e_x76),(303,e_x77)],mutL:=[303] } (.seq .leaf (.seq (.seq .leaf (.cond (.seq (.seq .leaf (.cond (.seq .leaf .leaf) .leaf)) (.seq .leaf (.seq .leaf (.seq .leaf (.seq .leaf .leaf))))) .leaf)) (.seq .leaf (.seq .leaf .leaf)))) func293 ⟨t_x72,t_x76,t_x77,trivial⟩
noncomputable def e_x79:FSem:=mkE (ArgT.cons (Ty.leaf (.int .u64)) (ArgT.cons (Ty.leaf (.int .i64)) ArgT.nil)) (Ty.leaf .str) fun a=>F.zdx a.1 a.2.1
theorem t_x79:Entry prog 277 e_x79 false:=eo { P:=prog,n:=8,tab:=[(293,e_x78)] } (.seq .leaf (.seq .leaf .leaf)) func277 ⟨t_x78,trivial⟩
end
end Den
end

section
set_option maxRecDepth 100000
namespace Den
open Go Go.Proofs.Tryz
noncomputable section
noncomputable def zjn:ArgT ((Option Addr)×Unit):=(ArgT.cons (Ty.leaf .ptr) ArgT.nil)
noncomputable def zdq:Ty Unit:=Ty.unit
noncomputable def zdt:FSem:=mkM zjn zdq (fun a=>F.zcw a.1)
set_option maxHeartbeats 1000000 in
set_option maxRecDepth 100000 in
theorem zj2 (b:Nat) (w:World) (h0:w.cell? ⟨b,0,none⟩=some (.pointer (some ⟨b,0,none⟩))) :
 Calls Go.Proofs.Tryz.prog 292 #[.pointer (some ⟨b,0,none⟩)] w fun e w'=>e=.returned (.tuple #[])∧w'=w:=by
 obtain ⟨j,hj,_⟩:=Option.map_eq_some_iff.1 (show (Go.Proofs.Tryz.prog.info? 239).map (·.size)=some 2 by kernel_rfl)
 go_enter Go.Proofs.Tryz.func292,Go.Proofs.Tryz.ntmps292
 go_wp2
 rw [Lib.run_neq_ptr_same w _ Go.Proofs.Tryz.underlying237 hj]
 go_wp2
 go_end0
 exact ⟨rfl,rfl⟩
set_option maxHeartbeats 1000000 in
set_option maxRecDepth 100000 in
theorem zj1 (b:Nat) (w:World) (h0:w.cell? ⟨b,0,none⟩=some (.pointer none)) (hsh:w.shape? b=some (239,2)) (hfz:w.frozen? ⟨b,0,none⟩=false) :
 Calls Go.Proofs.Tryz.prog 292 #[.pointer (some ⟨b,0,none⟩)] w fun e w'=>e=.returned (.tuple #[])∧w'=w.setCell ⟨b,0,none⟩ (.pointer (some ⟨b,0,none⟩)):=by
 obtain ⟨j,hj,hjs⟩:=Option.map_eq_some_iff.1 (show (Go.Proofs.Tryz.prog.info? 239).map (·.size)=some 2 by kernel_rfl)
 have hli:liesAt Go.Proofs.Tryz.prog Go.Proofs.Tryz.prog.depth 239 (2/Go.Proofs.Tryz.prog.cellsOf 239) 0 239 1=true:=by kernel_rfl
 go_enter Go.Proofs.Tryz.func292,Go.Proofs.Tryz.ntmps292
 go_wp2
 rw [Lib.run_to_unsafe w ⟨b,0,none⟩ Go.Proofs.Tryz.underlying237 Go.Proofs.Tryz.underlying259 hj (by rw [hjs]; decide) hsh (Nat.zero_lt_succ 1)]
 simp only [Result.andThen]
 rw [Oper.upon_value]
 go_wp2
 rw [run_callFunc_extern Go.Proofs.Tryz.func300 (by kernel_rfl) (by kernel_rfl) (by kernel_rfl) (e:=Extern.AbiNoEscape.same) (by kernel_rfl)]
 rw [Lib.run_noEscape]
 simp only [Result.andThen]
 rw [Oper.upon_value]
 go_wp2
 rw [Lib.run_from_unsafe w ⟨b,0,none⟩ Go.Proofs.Tryz.underlying259 Go.Proofs.Tryz.underlying237 hj hsh hli]
 simp only [Result.andThen]
 rw [Oper.upon_value]
 go_wp2
 go_end0
 exact ⟨rfl,rfl⟩
theorem zfe:Entry Go.Proofs.Tryz.prog 292 zdt true:=
 zo0 ⟨_,Go.Proofs.Tryz.func292,rfl,by decide⟩ (fun a K D w hs hk=>by
  obtain ⟨p,u⟩:=a
  obtain ⟨b,bl,hp,hb,he,hf,hl,hc⟩:=hk
  simp only at hp
  subst hp
  have hw:=hs _ _ hb
  have hlt:=zco hw
  rw [he,hf] at hw
  rcases hc with ⟨h0,hK⟩ | ⟨h0,hK⟩
  · have c0:w.cell? ⟨b,0,none⟩=some (.pointer none):=by unfold World.cell?; simp only [hw]; simp [h0]
    refine (zj1 b w c0 (by simp [World.shape?,hw,hl]) (by unfold World.frozen?; simp only [hw]; simp)).mono ?_
    rintro e w' ⟨rfl,rfl⟩
    refine ⟨_,_,rfl,(zdq.cmp _ _).2 hK,?_,?_,?_⟩
    · intro k c hk
      rw [zlx hw]
      by_cases hkb:k=b
      · subst hkb
        rw [Hp.ins_same] at hk; cases hk
        rw [zg8 hlt]
        simp [he,hf]
      · rw [Hp.ins_ne hkb] at hk; rw [zh0 hkb]; exact hs k c hk
    · rw [zlx hw]
      refine ⟨by rw [zhk]; exact Nat.le_refl _,fun k hk1 hk2=>?_,rfl,rfl,rfl,Nat.le_refl _⟩
      exact zh0 fun hh=>by rw [hh,hb] at hk2; cases hk2
    · intro k hk1 hk2
      have hkb:k≠b:=fun hh=>by rw [hh,hb] at hk2; cases hk2
      rw [Hp.ins_ne hkb] at hk1; exact absurd hk2 hk1
  · have c0:w.cell? ⟨b,0,none⟩=some (.pointer (some ⟨b,0,none⟩)):=by unfold World.cell?; simp only [hw]; simp [h0]
    refine (zj2 b w c0).mono ?_
    rintro e w' ⟨rfl,rfl⟩
    exact ⟨_,D,rfl,(zdq.cmp _ _).2 hK,hs,Fr.refl _ _,fun k h1 h2=>absurd h2 h1⟩)
noncomputable def e_x80:FSem:=mkM (ArgT.cons (Ty.leaf .ptr) (ArgT.cons (Ty.leaf .str) ArgT.nil)) (Ty.tup (.cons (Ty.leaf (.int .i64)) (.cons (Ty.leaf .val) .nil)) (fun x=>(x.1,x.2,())) (fun y=>(y.1,y.2.1)) (fun _=>rfl) (fun _=>rfl)) fun a=>F.zaz a.1 a.2.1
theorem t_x80:Entry prog 278 e_x80 true:=eoM { P:=prog,n:=19,tab:=[(292,zdt)],mutL:=[292],tyL:=[5] } (.seq .leaf (.seq .leaf (.seq .leaf (.seq .leaf .leaf)))) func278 ⟨zfe,trivial⟩
noncomputable def e_x81:FSem:=mkE (ArgT.cons (Ty.leaf (.int .u64)) (ArgT.cons (Ty.leaf (.int .u64)) ArgT.nil)) (Ty.tup (.cons (Ty.leaf (.int .u64)) (.cons (Ty.leaf (.int .u64)) .nil)) (fun x=>(x.1,x.2,())) (fun y=>(y.1,y.2.1)) (fun _=>rfl) (fun _=>rfl)) fun a=>F.zic a.1 a.2.1
theorem t_x81:Entry prog 295 e_x81 false:=eo { P:=prog,n:=51,tab:=[] } (.seq .leaf (.seq .leaf (.seq .leaf (.seq .leaf (.seq .leaf (.seq .leaf (.seq .leaf (.seq .leaf (.seq .leaf (.seq .leaf (.seq .leaf (.seq .leaf .leaf)))))))))))) func295 trivial
noncomputable def e_x82:FSem:=mkE (ArgT.cons (Ty.leaf (.int .u64)) (ArgT.cons (Ty.leaf (.int .u64)) ArgT.nil)) (Ty.tup (.cons (Ty.leaf (.int .u64)) (.cons (Ty.leaf (.int .u64)) .nil)) (fun x=>(x.1,x.2,())) (fun y=>(y.1,y.2.1)) (fun _=>rfl) (fun _=>rfl)) fun a=>F.zhr a.1 a.2.1
theorem t_x82:Entry prog 280 e_x82 false:=eo { P:=prog,n:=30,tab:=[(295,e_x81)] } (.seq .leaf (.seq (.cond (.seq .leaf (.seq .leaf .leaf)) .leaf) (.seq .leaf (.seq .leaf .leaf)))) func280 ⟨t_x81,trivial⟩
noncomputable def e_x83:FSem:=mkE (ArgT.cons (Ty.leaf .str) (ArgT.cons (Ty.leaf .str) ArgT.nil)) (Ty.leaf .bool) fun a=>F.zcz a.1 a.2.1
theorem t_x83:Entry prog 296 e_x83 false:=eo { P:=prog,n:=18,tab:=[] } (.seq .leaf (.seq .leaf .leaf)) func296 trivial
noncomputable def e_x84:FSem:=mkE (ArgT.cons (Ty.leaf .str) (ArgT.cons (Ty.leaf .str) ArgT.nil)) (Ty.leaf .bool) fun a=>F.za6 a.1 a.2.1
theorem t_x84:Entry prog 281 e_x84 false:=eo { P:=prog,n:=8,tab:=[(296,e_x83)] } (.seq .leaf (.seq .leaf .leaf)) func281 ⟨t_x83,trivial⟩
noncomputable def e_x85:FSem:=mkE (ArgT.cons (Ty.leaf .str) (ArgT.cons (Ty.leaf (.int .i64)) ArgT.nil)) (Ty.leaf .str) fun a=>F.zeb a.1 a.2.1
theorem t_x85:Entry prog 263 e_x85 false:=eo { P:=prog,n:=125,tab:=[(280,e_x82),(281,e_x84)],tyL:=[239] } (.seq .leaf (.seq (.seq .leaf (.block (.seq .leaf (.cond (.seq .leaf .leaf) (.seq .leaf (.cond (.seq .leaf .leaf) .leaf)))))) (.join [] (.seq .leaf (.cond .leaf .leaf)) (.seq .leaf (.join [] (.seq .leaf (.cond .leaf .leaf)) (.seq .leaf (.seq (.seq .leaf (.cond (.seq .leaf .leaf) .leaf)) (.join [] (.seq .leaf (.block (.join [(43,.leaf (.bool))] (.seq .leaf (.cond .leaf (.seq .leaf (.cond .leaf (.seq .leaf (.cond .leaf (.seq .leaf (.cond .leaf .leaf)))))))) (.cond (.block (.seq .leaf (.cond (.seq .leaf .leaf) (.seq .leaf (.cond (.seq .leaf .leaf) (.seq .leaf (.cond (.seq .leaf .leaf) (.seq .leaf (.cond (.seq .leaf .leaf) (.seq .leaf (.cond (.seq .leaf .leaf) .leaf))))))))))) .leaf)))) (.seq .leaf (.join [(8,.leaf (.int .i64))] (.seq .leaf (.cond (.seq .leaf (.seq .leaf (.cond .leaf .leaf))) .leaf)) (.seq .leaf (.seq .leaf (.seq .leaf (.seq (.block (.loop [] (.seq (.seq .leaf (.cond .leaf .leaf)) (.block (.seq .leaf .leaf))))) (.seq .leaf .leaf))))))))))))))) func263 ⟨t_x82,t_x84,trivial⟩
noncomputable def zkm:ArgT ((Option Addr)×Unit):=(ArgT.cons (Ty.leaf .ptr) ArgT.nil)
noncomputable def zec:Ty ByteArray:=(Ty.leaf .str)
noncomputable def zgn:FSem:=mkM zkm zec (fun a=>F.zdp a.1)
set_option maxHeartbeats 2000000 in
set_option maxRecDepth 100000 in
theorem zk6 (b:Nat) (p:Value) (w:World) (hbk:w.heap[b]?=some (.cells #[p,.slice none 0 0] 239 (0,0))) :
 Calls Go.Proofs.Tryz.prog 279 #[.pointer (some ⟨b,0,none⟩)] w fun e w'=>e=.returned (.string ⟨#[]⟩)∧w'=w.drew:=by
 have hUS:∀(W:World) (q:Option Addr),(Builtin.unsafeString_ #[252,3] 9 #[.pointer q,.int .i64 0]).run Go.Proofs.Tryz.prog W=.ok (.string .empty) W:=fun W q=>Lib.run_unsafeString_none W _ _ _ q
 have c1:w.drew.cell? ⟨b,1,none⟩=some (.slice none 0 0):=by
  have:w.drew.heap[b]?=some (.cells #[p,.slice none 0 0] 239 (0,0)):=hbk
  rw [Lib.cell_of_heap this]; rfl
 have hSD:(Builtin.unsafeSliceData_ #[44] 252 #[.slice none 0 0]).run Go.Proofs.Tryz.prog w.drew=.ok (.pointer none) w.drew:=rfl
 go_enter Go.Proofs.Tryz.func279,Go.Proofs.Tryz.ntmps279
 go_wp2
 go_region
 all_goals (go_wp2; go_ret; exact ⟨rfl,rfl⟩)
set_option maxHeartbeats 2000000 in
set_option maxRecDepth 100000 in
theorem zk7 (b g cap cells:Nat) (p:Value) (l:List UInt8) (w:World) (h0:l≠[]) (hbk:w.heap[b]?=some (.cells #[p,.slice (some ⟨g,0,none⟩) l.length cap] 239 (0,0))) (hc:l.length≤cap) (hsh:w.shape? g=some (5,cells)) (hn:l.length≤cells) (h63:l.length≤140737488355328)
 (hcell:∀j x,l[j]?=some x→w.cell? ((⟨g,0,none⟩:Addr).add j)=some (.int .u8 x.toNat)) :
 Calls Go.Proofs.Tryz.prog 279 #[.pointer (some ⟨b,0,none⟩)] w fun e w'=>e=.returned (.string ⟨l.toArray⟩)∧w'=w.drew.freeze ⟨g,0,none⟩ l.length:=by
 have hl0:l.length≠0:=by simpa using h0
 have c1:w.drew.cell? ⟨b,1,none⟩=some (.slice (some ⟨g,0,none⟩) l.length cap):=by
  have:w.drew.heap[b]?=some (.cells #[p,.slice (some ⟨g,0,none⟩) l.length cap] 239 (0,0)):=hbk
  rw [Lib.cell_of_heap this]; rfl
 have hSD:(Builtin.unsafeSliceData_ #[44] 252 #[.slice (some ⟨g,0,none⟩) l.length cap]).run Go.Proofs.Tryz.prog w.drew=.ok (.pointer (some ⟨g,0,none⟩)) w.drew:=
  Lib.run_unsafeSliceData_row _ _ _ _ _ _ (by omega)
 have hUS:(Builtin.unsafeString_ #[252,3] 9 #[.pointer (some ⟨g,0,none⟩),.int .i64 l.length]).run Go.Proofs.Tryz.prog w.drew=.ok (.string ⟨l.toArray⟩) (w.drew.freeze ⟨g,0,none⟩ l.length):=
  Lib.run_unsafeString_row w.drew 252 3 9 5 Go.Proofs.Tryz.underlying252 (by kernel_rfl) g cells hsh l h0 hn (by omega) hcell
 go_enter Go.Proofs.Tryz.func279,Go.Proofs.Tryz.ntmps279
 go_wp2
 go_region
 all_goals (go_wp2; go_ret; exact ⟨rfl,rfl⟩)
theorem zl6:Entry Go.Proofs.Tryz.prog 279 zgn true:=
 zo0 ⟨_,Go.Proofs.Tryz.func279,rfl,by decide⟩ (fun a K D w hs hk=>by
  obtain ⟨q,u⟩:=a
  obtain ⟨b,bl,p,hp,hb,he,hf,hc⟩:=hk
  simp only at hp
  subst hp
  have hw:=hs _ _ hb
  rw [he,hf] at hw
  rcases hc with ⟨hcs,hK⟩ | ⟨g,c,l,bg,h0,hcs,hlc,hg,hge,hlg,h63,hall,hK⟩
  · rw [hcs] at hw
    refine (zk6 b p w hw).mono ?_
    rintro e w' ⟨rfl,rfl⟩
    exact ⟨_,D,rfl,(zec.cmp _ _).2 hK,hs,zm4 D w,fun k h1 h2=>absurd h2 h1⟩
  · rw [hcs] at hw
    have hwg:=hs _ _ hg
    rw [hge] at hwg
    have hltg:=zco hwg
    refine (zk7 b g c bg.cells.length p l w h0 hw hlc (by simp [World.shape?,hwg]) hlg h63 (fun j x hj=>?_)).mono ?_
    · rw [zey,Nat.zero_add]
      unfold World.cell?
      simp only [hwg]
      simp [hall j x hj]
    · rintro e w' ⟨rfl,rfl⟩
      have hsz:(w.drew.freeze ⟨g,0,none⟩ l.length).heap.size=w.heap.size:=by
       unfold World.freeze
       split
       · rfl
       · simp only [Array.size_modify]
         rfl
      have hne:∀k,k≠g→(w.drew.freeze ⟨g,0,none⟩ l.length).heap[k]?=w.heap[k]?:=fun k hk=>by
       unfold World.freeze
       split
       · rfl
       · simp only [Array.getElem?_modify]
         rw [if_neg (fun hh=>hk hh.symm)]
         rfl
      refine ⟨_,_,rfl,(zec.cmp _ _).2 hK,?_,?_,?_⟩
      · intro k cb hk
        by_cases hkg:k=g
        · simp [hkg] at hk
        · simp only [if_neg hkg] at hk
          rw [hne k hkg]; exact hs k cb hk
      · refine ⟨Nat.le_of_eq hsz.symm,fun k hk1 hk2=>?_,?_,?_,?_,?_⟩
        · exact hne k fun hh=>by rw [hh,hg] at hk2; cases hk2
        · unfold World.freeze; split<;>rfl
        · unfold World.freeze; split<;>rfl
        · unfold World.freeze; split<;>rfl
        · unfold World.freeze; split<;>exact Nat.le_succ _
      · intro k hk1 hk2
        by_cases hkg:k=g
        · simp [hkg] at hk1
        · simp only [if_neg hkg] at hk1; exact absurd hk2 hk1)
noncomputable def e_x86:FSem:=mkM (ArgT.cons (Ty.leaf .ptr) (ArgT.cons (Ty.leaf (.int .u8)) ArgT.nil)) (Ty.leaf .val) fun a=>F.zgk a.1 a.2.1
theorem t_x86:Entry prog 276 e_x86 true:=eoM { P:=prog,n:=17,tab:=[(292,zdt)],mutL:=[292],locL:=[13],tyL:=[5] } (.seq .leaf (.seq .leaf (.seq .leaf (.seq .leaf .leaf)))) func276 ⟨zfe,trivial⟩
noncomputable def e_x87:FSem:=mkE (ArgT.cons tyTInt ArgT.nil) (Ty.leaf .str) fun a=>F.zh9 a.1
theorem t_x87:Entry prog 262 e_x87 false:=eo { P:=prog,n:=74,tab:=[(212,e_x5),(215,e_x7),(246,e_x9),(277,e_x79),(278,e_x80),(263,e_x85),(279,zgn),(276,e_x86)],mutL:=[278,279,276],rtL:=[(11,1),(51,1)],locL:=[1,4,49],backs:=[(257,(.leaf (.int .u32)))],tyL:=[239] } (.seq .leaf (.seq .leaf (.seq (.seq .leaf (.cond (.seq .leaf .leaf) .leaf)) (.seq .leaf (.seq (.block (.loop [(3,.leaf (.sl)),(4,.box [.sl])] (.seq (.seq .leaf (.cond .leaf .leaf)) (.block (.seq .leaf (.seq (.seq .leaf (.block (.loop [(5,.leaf (.int .u64)),(6,.leaf (.int .i64))] (.seq (.seq .leaf (.cond .leaf .leaf)) (.seq (.block (.seq .leaf (.seq .leaf .leaf))) .leaf))))) (.seq .leaf .leaf))))))) (.seq .leaf (.join [] (.seq .leaf (.cond .leaf .leaf)) (.seq (.seq .leaf (.block (.back [] (.seq .leaf .leaf) (.block (.seq .leaf (.join [] (.seq .leaf (.cond .leaf .leaf)) .leaf)))))) (.seq .leaf .leaf))))))))) func262 ⟨t_x5,t_x7,t_x9,t_x79,t_x80,t_x85,zl6,t_x86,trivial⟩ ⟨zzp,trivial⟩
noncomputable def e_x88:FSem:=mkE (ArgT.cons tyTRat ArgT.nil) (Ty.tup (.cons (Ty.leaf .str) (.cons (Ty.leaf .bool) .nil)) (fun x=>(x.1,x.2,())) (fun y=>(y.1,y.2.1)) (fun _=>rfl) (fun _=>rfl)) fun a=>F.zgc a.1
theorem t_x88:Entry prog 247 e_x88 false:=eo { P:=prog,n:=65,tab:=[(258,e_x61),(259,e_x59),(260,e_x62),(261,e_x71),(262,e_x87),(263,e_x85),(116,e_x27),(120,e_x34)],rtL:=[(23,1),(31,1)],locL:=[1,4,5] } (.seq .leaf (.join [] (.seq .leaf (.cond (.seq .leaf .leaf) .leaf)) (.seq .leaf (.seq .leaf (.seq (.seq .leaf (.block (.loop [(1,.box [.bool,.sl,.bool,.sl]),(6,.leaf (.int .i64))] (.seq (.seq .leaf (.cond .leaf .leaf)) (.seq (.block (.seq (.seq .leaf (.cond (.seq .leaf .leaf) .leaf)) (.seq .leaf (.join [(7,.leaf (.str))] (.seq .leaf (.cond (.join [(7,.leaf (.str))] (.seq .leaf (.seq .leaf (.cond .leaf .leaf))) (.draw [0,1,2,3,4,5,6,7,8,9,10,11,12,13,14])) .leaf)) (.seq .leaf .leaf))))) .leaf))))) (.seq .leaf .leaf)))))) func247 ⟨t_x61,t_x59,t_x62,t_x71,t_x87,t_x85,t_x27,t_x34,trivial⟩
noncomputable def e_x89:FSem:=mkE (ArgT.cons (Ty.leaf (.int .u8)) ArgT.nil) (Ty.leaf .bool) fun a=>F.zf8 a.1
theorem t_x89:Entry prog 264 e_x89 false:=eo { P:=prog,n:=17,tab:=[] } (.seq .leaf (.seq .leaf .leaf)) func264 trivial
noncomputable def e_x90:FSem:=mkE (ArgT.cons (Ty.leaf (.int .u8)) ArgT.nil) (Ty.leaf .bool) fun a=>F.zfw a.1
theorem t_x90:Entry prog 284 e_x90 false:=eo { P:=prog,n:=9,tab:=[] } (.seq .leaf (.seq .leaf .leaf)) func284 trivial
noncomputable def e_x91:FSem:=mkE (ArgT.cons (Ty.leaf (.int .u8)) ArgT.nil) (Ty.leaf .bool) fun a=>F.zi8 a.1
theorem t_x91:Entry prog 266 e_x91 false:=eo { P:=prog,n:=13,tab:=[(264,e_x89),(284,e_x90)] } (.seq .leaf (.seq .leaf .leaf)) func266 ⟨t_x89,t_x90,trivial⟩
noncomputable def e_x92:FSem:=mkE (ArgT.cons (Ty.leaf .str) (ArgT.fn 266 ArgT.nil)) (Ty.leaf (.int .i64)) fun a=>F.zd9 a.1
theorem t_x92:Entry prog 265 e_x92 false:=eo { P:=prog,n:=20,tab:=[(266,e_x91)] } (.seq .leaf (.seq .leaf (.seq (.block (.loop [(5,.leaf (.int .i64))] (.join [] (.seq .leaf (.cond .leaf .leaf)) (.block .leaf)))) (.seq .leaf .leaf)))) func265 ⟨t_x91,trivial⟩
noncomputable def e_x93:FSem:=mkE (ArgT.cons (Ty.leaf .str) ArgT.nil) (Ty.leaf .bool) fun a=>F.zf7 a.1
theorem t_x93:Entry prog 248 e_x93 false:=eo { P:=prog,n:=22,tab:=[(264,e_x89),(265,e_x92)] } (.seq .leaf (.seq .leaf .leaf)) func248 ⟨t_x89,t_x92,trivial⟩
noncomputable def e_x94:FSem:=mkE (ArgT.cons tyTRat ArgT.nil) (Ty.leaf .bool) fun a=>F.zgp a.1
theorem t_x94:Entry prog 249 e_x94 false:=eo { P:=prog,n:=27,tab:=[],rtL:=[(3,1),(4,1),(9,1),(10,1),(16,1),(17,1),(22,1),(23,1)],locL:=[1] } (.seq .leaf (.seq .leaf .leaf)) func249 trivial
noncomputable def A_x98:ArgT (TExpr×Unit):=(ArgT.cons tyTExpr ArgT.nil)
noncomputable def R_x98:Ty Bool:=(Ty.leaf .bool)
noncomputable def A_x95:ArgT (TExpr×Unit):=(ArgT.cons tyTExpr ArgT.nil)
noncomputable def R_x95:Ty Bool:=(Ty.leaf .bool)
noncomputable def e_x95 (Q_formula_formed:TExpr→(Bool→Hp→Prop)→Hp→Prop):FSem:=mkE A_x95 R_x95 fun a=>F.zfl Q_formula_formed a.1
theorem t_x95 (Q_formula_formed:TExpr→(Bool→Hp→Prop)→Hp→Prop) (h_formula_formed:Entry prog 224 (mkE A_x98 R_x98 (fun a=>Q_formula_formed a.1)) false):Entry prog 250 (e_x95 Q_formula_formed) false:=eo { P:=prog,n:=6,tab:=[(224,mkE A_x98 R_x98 (fun a=>Q_formula_formed a.1))],locL:=[1] } (.seq .leaf (.seq .leaf .leaf)) func250 ⟨h_formula_formed,trivial⟩
noncomputable def A_x96:ArgT (Sl×Unit):=(ArgT.cons (Ty.leaf .sl) (ArgT.fn 250 ArgT.nil))
noncomputable def R_x96:Ty Int:=(Ty.leaf (.int .i64))
noncomputable def e_x96 (Q_formula_formed:TExpr→(Bool→Hp→Prop)→Hp→Prop):FSem:=mkE A_x96 R_x96 fun a=>F.zbp Q_formula_formed a.1
theorem t_x96 (Q_formula_formed:TExpr→(Bool→Hp→Prop)→Hp→Prop) (h_formula_formed:Entry prog 224 (mkE A_x98 R_x98 (fun a=>Q_formula_formed a.1)) false):Entry prog 223 (e_x96 Q_formula_formed) false:=eo { P:=prog,n:=19,tab:=[(250,(e_x95 Q_formula_formed))] } (.seq .leaf (.seq (.seq .leaf (.block (.loop [(8,.leaf (.int .i64))] (.seq .leaf (.seq (.cond .leaf .leaf) (.seq (.block (.seq .leaf (.seq .leaf (.cond (.seq .leaf .leaf) .leaf)))) .leaf)))))) (.seq .leaf .leaf))) func223 ⟨(t_x95 Q_formula_formed h_formula_formed),trivial⟩
noncomputable def A_x97:ArgT (Sl×Unit):=(ArgT.cons (Ty.leaf .sl) (ArgT.fn 250 ArgT.nil))
noncomputable def R_x97:Ty Bool:=(Ty.leaf .bool)
noncomputable def e_x97 (Q_formula_formed:TExpr→(Bool→Hp→Prop)→Hp→Prop):FSem:=mkE A_x97 R_x97 fun a=>F.zbi Q_formula_formed a.1
theorem t_x97 (Q_formula_formed:TExpr→(Bool→Hp→Prop)→Hp→Prop) (h_formula_formed:Entry prog 224 (mkE A_x98 R_x98 (fun a=>Q_formula_formed a.1)) false):Entry prog 187 (e_x97 Q_formula_formed) false:=eo { P:=prog,n:=9,tab:=[(223,(e_x96 Q_formula_formed))] } (.seq .leaf (.seq .leaf .leaf)) func187 ⟨(t_x96 Q_formula_formed h_formula_formed),trivial⟩
noncomputable def e_x98:FSem:=mkE A_x98 R_x98 fun a=>F.zh6 a.1
noncomputable def c_x98 (n:Nat):Cfg:={ P:=prog,n:=68,tab:=[(247,e_x88),(248,e_x93),(249,e_x94),(187,(e_x97 (F.zch n)))],rtL:=[(5,1),(9,1),(14,1),(17,1),(23,1),(28,1),(35,1),(39,1),(46,1),(50,1),(54,1),(58,1),(63,1)],locL:=[1] }
theorem u_x98:∃fn,prog.funcs[224]?=some fn∧fn.body.isNone=false∧(fn.name == "runtime.NumGoroutine")=false:=⟨_,func224,rfl,by decide⟩
theorem v_x98:∀n a K D w,Sub D w→F.zch n a.1 K D→Calls prog 224 (A_x98.up a).toArray w (Post (fun v h=>R_x98.dn v fun r=>K r h) D w)
 | 0,_,_,_,_,_,h=>h.elim
 | n+1,a,K,D,w,hs,h=>zkg (C:=c_x98 n) (F:=fun a=>F.zch (n+1) a.1) (fn:=f224) (c:=bd f224) (an:=(.seq .leaf (.join [] (.seq (.draw [0,1,2,3,4,5,6,7,8,9,10,11,12,13,14,15,16,17]) (.cond (.seq .leaf .leaf) .leaf)) (.seq (.seq .leaf (.block (.seq .leaf (.cond (.seq .leaf (.seq .leaf .leaf)) (.seq .leaf (.cond (.seq .leaf .leaf) .leaf)))))) (.seq .leaf .leaf))))) ⟨t_x88,t_x93,t_x94,(t_x97 (F.zch n) (zev u_x98 (v_x98 n))),trivial⟩ trivial func224 rfl rfl (fun _=>rfl) (by intro a K D; kernel_rfl) a K D w hs h
theorem t_x98:Entry prog 224 e_x98 false:=zev u_x98 (fun a K D w hs h=>h.elim fun m h=>v_x98 m a K D w hs h)
noncomputable def A_x99:ArgT (TExpr×Unit):=(ArgT.cons tyTExpr ArgT.nil)
noncomputable def R_x99:Ty Int:=(Ty.leaf (.int .i64))
noncomputable def e_x99:FSem:=mkE A_x99 R_x99 fun a=>F.zho a.1
noncomputable def c_x99 (n:Nat):Cfg:={ P:=prog,n:=20,tab:=[(225,mkE A_x99 R_x99 (fun a=>F.zde n a.1))],rtL:=[(6,1)],locL:=[1,5] }
theorem u_x99:∃fn,prog.funcs[225]?=some fn∧fn.body.isNone=false∧(fn.name == "runtime.NumGoroutine")=false:=⟨_,func225,rfl,by decide⟩
theorem v_x99:∀n a K D w,Sub D w→F.zde n a.1 K D→Calls prog 225 (A_x99.up a).toArray w (Post (fun v h=>R_x99.dn v fun r=>K r h) D w)
 | 0,_,_,_,_,_,h=>h.elim
 | n+1,a,K,D,w,hs,h=>zkg (C:=c_x99 n) (F:=fun a=>F.zde (n+1) a.1) (fn:=f225) (c:=bd f225) (an:=(.seq .leaf (.seq .leaf (.seq (.seq .leaf (.block (.loop [(3,.leaf (.int .i64)),(9,.leaf (.int .i64))] (.seq .leaf (.seq (.cond .leaf .leaf) (.seq (.block (.seq .leaf .leaf)) .leaf)))))) (.seq .leaf .leaf))))) ⟨(zev u_x99 (v_x99 n)),trivial⟩ trivial func225 rfl rfl (fun _=>rfl) (by intro a K D; kernel_rfl) a K D w hs h
theorem t_x99:Entry prog 225 e_x99 false:=zev u_x99 (fun a K D w hs h=>h.elim fun m h=>v_x99 m a K D w hs h)
noncomputable def za05:FSem:=mkE (ArgT.cons tyTExpr ArgT.nil) (Ty.leaf (.int .i64)) fun a=>F.zhp a.1
theorem za8x:Entry prog 189 za05 false:=eo { P:=prog,n:=11,tab:=[(224,e_x98),(225,e_x99)],locL:=[1] } (.seq .leaf (.seq (.block (.seq .leaf (.cond (.seq .leaf .leaf) (.seq .leaf (.cond (.seq .leaf .leaf) .leaf))))) (.seq .leaf .leaf))) func189 ⟨t_x98,t_x99,trivial⟩
noncomputable def za06:FSem:=mkE (ArgT.cons tyTExpr ArgT.nil) (Ty.leaf .bool) fun a=>F.zer a.1
theorem za8y:Entry prog 188 za06 false:=eo { P:=prog,n:=6,tab:=[(189,za05)],locL:=[1] } (.seq .leaf (.seq .leaf .leaf)) func188 ⟨za8x,trivial⟩
noncomputable def za07:FSem:=mkE (ArgT.cons (Ty.leaf .sl) (ArgT.fn 188 ArgT.nil)) (Ty.leaf (.int .i64)) fun a=>F.zbl a.1
theorem za8z:Entry prog 223 za07 false:=eo { P:=prog,n:=19,tab:=[(188,za06)] } (.seq .leaf (.seq (.seq .leaf (.block (.loop [(8,.leaf (.int .i64))] (.seq .leaf (.seq (.cond .leaf .leaf) (.seq (.block (.seq .leaf (.seq .leaf (.cond (.seq .leaf .leaf) .leaf)))) .leaf)))))) (.seq .leaf .leaf))) func223 ⟨za8y,trivial⟩
noncomputable def za08:FSem:=mkE (ArgT.cons (Ty.leaf .sl) (ArgT.fn 188 ArgT.nil)) (Ty.leaf .bool) fun a=>F.zax a.1
theorem za90:Entry prog 187 za08 false:=eo { P:=prog,n:=9,tab:=[(223,za07)] } (.seq .leaf (.seq .leaf .leaf)) func187 ⟨za8z,trivial⟩
noncomputable def za09:FSem:=mkE (ArgT.cons (Ty.leaf .sl) ArgT.nil) (Ty.leaf .bool) fun a=>F.zfi a.1
theorem za91:Entry prog 190 za09 false:=eo { P:=prog,n:=49,tab:=[] } (.seq .leaf (.seq (.draw [0,1,2,3,4,5,6,7,8,9,10,11,12,13,14,15]) (.seq .leaf .leaf))) func190 trivial
noncomputable def zth:FSem:=mkE (ArgT.cons (Ty.leaf .sl) (ArgT.cons (Ty.leaf (.int .i64)) ArgT.nil)) (Ty.leaf (.int .i64)) fun a=>F.zd5 a.1 a.2.1
theorem za3m:Entry prog 162 zth false:=eo { P:=prog,n:=19,tab:=[] } (.seq .leaf (.seq (.seq .leaf (.block (.loop [(8,.leaf (.int .i64))] (.seq .leaf (.seq (.cond .leaf .leaf) (.seq (.block (.seq .leaf (.seq .leaf (.cond (.seq .leaf .leaf) .leaf)))) .leaf)))))) (.seq .leaf .leaf))) func162 trivial
noncomputable def zks:FSem:=mkE (ArgT.cons (Ty.leaf .sl) (ArgT.cons (Ty.leaf (.int .i64)) ArgT.nil)) (Ty.leaf .bool) fun a=>F.zbc a.1 a.2.1
theorem zmf:Entry prog 98 zks false:=eo { P:=prog,n:=9,tab:=[(162,zth)] } (.seq .leaf (.seq .leaf .leaf)) func98 ⟨za3m,trivial⟩
noncomputable def za0a:FSem:=mkE (ArgT.cons (Ty.leaf .sl) ArgT.nil) (Ty.leaf .bool) fun a=>F.zcx a.1
theorem za92:Entry prog 191 za0a false:=eo { P:=prog,n:=18,tab:=[(98,zks)] } (.seq .leaf (.seq (.seq .leaf (.block (.loop [(7,.leaf (.int .i64))] (.seq .leaf (.seq (.cond .leaf .leaf) (.seq (.block (.seq .leaf (.seq .leaf (.cond (.seq .leaf .leaf) .leaf)))) .leaf)))))) (.seq .leaf .leaf))) func191 ⟨zmf,trivial⟩
noncomputable def za0b:FSem:=mkE (ArgT.cons (Ty.leaf (.int .i64)) (ArgT.cons (Ty.leaf .ptr) ArgT.nil)) (Ty.leaf .bool) fun a=>F.zga a.1 a.2.1
theorem za93:Entry prog 222 za0b false:=eo { P:=prog,n:=11,tab:=[] } (.seq .leaf (.seq .leaf .leaf)) func222 trivial
noncomputable def za0c:FSem:=mkE (ArgT.cons (Ty.leaf .sl) (ArgT.fnc 222 1 ArgT.nil)) (Ty.leaf (.int .i64)) fun a=>F.zc4 a.1 a.2.1
theorem za94:Entry prog 135 za0c false:=eo { P:=prog,n:=19,tab:=[(222,za0b)] } (.seq .leaf (.seq (.seq .leaf (.block (.loop [(8,.leaf (.int .i64))] (.seq .leaf (.seq (.cond .leaf .leaf) (.seq (.block (.seq .leaf (.seq .leaf (.cond (.seq .leaf .leaf) .leaf)))) .leaf)))))) (.seq .leaf .leaf))) func135 ⟨za93,trivial⟩
noncomputable def za0d:FSem:=mkE (ArgT.cons (Ty.leaf .sl) (ArgT.fnc 222 1 ArgT.nil)) (Ty.leaf .bool) fun a=>F.zbv a.1 a.2.1
theorem za95:Entry prog 102 za0d false:=eo { P:=prog,n:=9,tab:=[(135,za0c)] } (.seq .leaf (.seq .leaf .leaf)) func102 ⟨za94,trivial⟩
noncomputable def za0e:FSem:=mkE (ArgT.cons (Ty.leaf .sl) (ArgT.cons (Ty.leaf (.int .i64)) (ArgT.cons (Ty.leaf (.int .i64)) ArgT.nil))) (Ty.leaf .bool) fun a=>F.ze5 a.1 a.2.1 a.2.2.1
theorem za96:Entry prog 186 za0e false:=eo { P:=prog,n:=17,tab:=[(102,za0d)] } (.seq .leaf (.seq .leaf .leaf)) func186 ⟨za95,trivial⟩
noncomputable def za0f:FSem:=mkE (ArgT.cons tyTConstraint (ArgT.cons (Ty.leaf (.int .i64)) (ArgT.cons (Ty.leaf (.int .i64)) ArgT.nil))) (Ty.leaf .bool) fun a=>F.zfh a.1 a.2.1 a.2.2.1
theorem za97:Entry prog 131 za0f false:=eo { P:=prog,n:=86,tab:=[(109,e_x58),(187,za08),(190,za09),(191,za0a),(186,za0e)],rtL:=[(10,3),(18,3),(20,7),(27,3),(29,7),(36,3),(39,7),(43,3),(46,7),(49,3),(54,3),(59,7),(63,3),(68,3),(75,3),(78,3),(82,3)],locL:=[3,7] } (.seq .leaf (.seq .leaf (.join [] (.seq .leaf (.cond (.seq .leaf .leaf) .leaf)) (.seq (.seq .leaf (.cond (.seq .leaf .leaf) .leaf)) (.join [] (.seq .leaf (.cond (.seq .leaf .leaf) .leaf)) (.seq (.seq .leaf (.block (.join [(70,.leaf (.bool))] (.seq .leaf (.cond .leaf (.seq .leaf (.cond .leaf (.seq .leaf (.cond .leaf .leaf)))))) (.cond (.seq .leaf .leaf) .leaf)))) (.seq .leaf .leaf))))))) func131 ⟨t_x58,za90,za91,za92,za96,trivial⟩
noncomputable def za0g:FSem:=mkE (ArgT.cons tyTConstraint (ArgT.cons (Ty.leaf .ptr) (ArgT.cons (Ty.leaf .ptr) ArgT.nil))) (Ty.leaf .bool) fun a=>F.zj9 a.1 a.2.1 a.2.2.1
theorem za98:Entry prog 130 za0g false:=eo { P:=prog,n:=9,tab:=[(131,za0f)],locL:=[3] } (.seq .leaf (.seq .leaf .leaf)) func130 ⟨za97,trivial⟩
noncomputable def za0h:FSem:=mkE (ArgT.cons tyTConstraint (ArgT.cons (Ty.leaf .ptr) ArgT.nil)) (Ty.leaf .bool) fun a=>F.zca a.1 a.2.1
theorem za99:Entry prog 185 za0h false:=eo { P:=prog,n:=8,tab:=[(130,za0g)],locL:=[2],fnL:=[(4,130,2)] } (.seq .leaf (.seq .leaf .leaf)) func185 ⟨za98,trivial⟩
noncomputable def za0i:FSem:=mkE (ArgT.cons (Ty.leaf .sl) (ArgT.fnc 185 1 ArgT.nil)) (Ty.leaf (.int .i64)) fun a=>F.zai a.1 a.2.1
theorem za9a:Entry prog 221 za0i false:=eo { P:=prog,n:=19,tab:=[(185,za0h)] } (.seq .leaf (.seq (.seq .leaf (.block (.loop [(8,.leaf (.int .i64))] (.seq .leaf (.seq (.cond .leaf .leaf) (.seq (.block (.seq .leaf (.seq .leaf (.cond (.seq .leaf .leaf) .leaf)))) .leaf)))))) (.seq .leaf .leaf))) func221 ⟨za99,trivial⟩
noncomputable def za0j:FSem:=mkE (ArgT.cons (Ty.leaf .sl) (ArgT.fnc 185 1 ArgT.nil)) (Ty.leaf .bool) fun a=>F.zag a.1 a.2.1
theorem za9b:Entry prog 184 za0j false:=eo { P:=prog,n:=9,tab:=[(221,za0i)] } (.seq .leaf (.seq .leaf .leaf)) func184 ⟨za9a,trivial⟩
noncomputable def za0k:FSem:=mkE (ArgT.cons (Ty.leaf .sl) (ArgT.fnc 130 2 ArgT.nil)) (Ty.leaf .bool) fun a=>F.zbs a.1 a.2.1
theorem za9c:Entry prog 129 za0k false:=eo { P:=prog,n:=9,tab:=[(184,za0j)] } (.seq .leaf (.seq .leaf .leaf)) func129 ⟨za9b,trivial⟩
end
end Den
end

section
set_option maxRecDepth 100000
namespace Den
open Go Go.Proofs.Tryz
noncomputable section
noncomputable def zqf:FSem:=mkE (ArgT.cons tyTSketch ArgT.nil) (Ty.leaf (.int .i64)) fun a=>F.zeh a.1
theorem zvd:Entry prog 56 zqf false:=eo { P:=prog,n:=49,tab:=[(113,e_x3),(114,e_x32),(117,e_x39),(121,e_x44),(123,e_x50),(126,e_x57),(129,za0k)],locL:=[3,4] } (.seq .leaf (.seq (.seq .leaf (.cond (.seq .leaf .leaf) .leaf)) (.seq (.drawP [0,1,2,3,4,5,6,7,8,9] [3,4]) (.join [(5,.leaf (.bool))] .leaf (.seq (.seq .leaf (.cond (.seq .leaf .leaf) .leaf)) (.seq .leaf .leaf)))))) func56 ⟨t_x3,t_x32,t_x39,t_x44,t_x50,t_x57,za9c,trivial⟩
noncomputable def zti:FSem:=mkE (ArgT.cons (Ty.leaf .sl) (ArgT.cons (Ty.leaf .sl) ArgT.nil)) (Ty.leaf .bool) fun a=>F.zcr a.1 a.2.1
theorem za3n:Entry prog 95 zti false:=eo { P:=prog,n:=26,tab:=[] } (.seq .leaf (.seq (.seq .leaf (.cond (.seq .leaf .leaf) .leaf)) (.seq (.seq .leaf (.block (.loop [(13,.leaf (.int .i64))] (.seq .leaf (.seq (.cond .leaf .leaf) (.seq (.block (.seq .leaf (.seq (.draw [0,1,2,3,4,5,6,7,8]) (.cond (.seq .leaf .leaf) .leaf)))) .leaf)))))) (.seq .leaf .leaf)))) func95 trivial
noncomputable def za0l:FSem:=mkE (ArgT.cons (Ty.leaf .sl) (ArgT.cons (Ty.leaf .sl) ArgT.nil)) (Ty.leaf .bool) fun a=>F.zfz a.1 a.2.1
theorem za9d:Entry prog 267 za0l false:=eo { P:=prog,n:=26,tab:=[] } (.seq .leaf (.seq (.seq .leaf (.cond (.seq .leaf .leaf) .leaf)) (.seq (.seq .leaf (.block (.loop [(13,.leaf (.int .i64))] (.seq .leaf (.seq (.cond .leaf .leaf) (.seq (.block (.seq .leaf (.seq (.draw [0,1,2,3,4,5,6,7,8]) (.cond (.seq .leaf .leaf) .leaf)))) .leaf)))))) (.seq .leaf .leaf)))) func267 trivial
noncomputable def za0m:FSem:=mkE (ArgT.cons tyTInt (ArgT.cons tyTInt ArgT.nil)) (Ty.leaf .bool) fun a=>F.zhu a.1 a.2.1
theorem za9e:Entry prog 251 za0m false:=eo { P:=prog,n:=17,tab:=[(267,za0l)],rtL:=[(5,2),(7,3),(11,2),(13,3)],locL:=[2,3] } (.seq .leaf (.seq .leaf .leaf)) func251 ⟨za9d,trivial⟩
noncomputable def zq1:ArgT (Sl×Sl×Unit):=(ArgT.cons (Ty.leaf .sl) (ArgT.cons (Ty.leaf .sl) (ArgT.fn 227 ArgT.nil)))
noncomputable def zq3:Ty Bool:=(Ty.leaf .bool)
noncomputable def za7h:ArgT (TExpr×TExpr×Unit):=(ArgT.cons tyTExpr (ArgT.cons tyTExpr ArgT.nil))
noncomputable def za7i:Ty Bool:=(Ty.leaf .bool)
noncomputable def za0n (Q_slices_EqualFunc_api_Expr_api_Expr_api_Expr_api_Expr_formula_Equal:Sl→Sl→(Bool→Hp→Prop)→Hp→Prop):FSem:=mkE za7h za7i fun a=>F.zne Q_slices_EqualFunc_api_Expr_api_Expr_api_Expr_api_Expr_formula_Equal a.1 a.2.1
theorem za9f (Q_slices_EqualFunc_api_Expr_api_Expr_api_Expr_api_Expr_formula_Equal:Sl→Sl→(Bool→Hp→Prop)→Hp→Prop) (h_slices_EqualFunc_api_Expr_api_Expr_api_Expr_api_Expr_formula_Equal:Entry prog 226 (mkE zq1 zq3 (fun a=>Q_slices_EqualFunc_api_Expr_api_Expr_api_Expr_api_Expr_formula_Equal a.1 a.2.1)) false):Entry prog 227 (za0n Q_slices_EqualFunc_api_Expr_api_Expr_api_Expr_api_Expr_formula_Equal) false:=eo { P:=prog,n:=42,tab:=[(251,za0m),(226,mkE zq1 zq3 (fun a=>Q_slices_EqualFunc_api_Expr_api_Expr_api_Expr_api_Expr_formula_Equal a.1 a.2.1))],rtL:=[(5,2),(7,3),(11,2),(13,3),(18,2),(19,2),(21,3),(22,3),(27,2),(28,2),(30,3),(31,3),(36,2),(38,3)],locL:=[2,3] } (.seq .leaf (.seq .leaf .leaf)) func227 ⟨za9e,h_slices_EqualFunc_api_Expr_api_Expr_api_Expr_api_Expr_formula_Equal,trivial⟩
noncomputable def za0o:FSem:=mkE zq1 zq3 fun a=>F.zb0 a.1 a.2.1
noncomputable def za7l (n:Nat):Cfg:={ P:=prog,n:=32,tab:=[(227,(za0n (F.za8 n)))],locL:=[8,9] }
theorem za48:∃fn,prog.funcs[226]?=some fn∧fn.body.isNone=false∧(fn.name == "runtime.NumGoroutine")=false:=⟨_,func226,rfl,by decide⟩
theorem za4c:∀n a K D w,Sub D w→F.za8 n a.1 a.2.1 K D→Calls prog 226 (zq1.up a).toArray w (Post (fun v h=>zq3.dn v fun r=>K r h) D w)
 | 0,_,_,_,_,_,h=>h.elim
 | n+1,a,K,D,w,hs,h=>zkg (C:=za7l n) (F:=fun a=>F.za8 (n+1) a.1 a.2.1) (fn:=f226) (c:=bd f226) (an:=(.seq .leaf (.seq (.seq .leaf (.cond (.seq .leaf .leaf) .leaf)) (.seq (.seq .leaf (.block (.loop [(17,.leaf (.int .i64))] (.seq .leaf (.seq (.cond .leaf .leaf) (.seq (.block (.seq .leaf (.seq .leaf (.seq .leaf (.cond (.seq .leaf .leaf) .leaf))))) .leaf)))))) (.seq .leaf .leaf))))) ⟨(za9f (F.za8 n) (zev za48 (za4c n))),trivial⟩ trivial func226 rfl rfl (fun _=>rfl) (by intro a K D; kernel_rfl) a K D w hs h
theorem za9g:Entry prog 226 za0o false:=zev za48 (fun a K D w hs h=>h.elim fun m h=>za4c m a K D w hs h)
noncomputable def za0p:FSem:=mkE (ArgT.cons tyTConstraint (ArgT.cons tyTConstraint ArgT.nil)) (Ty.leaf .bool) fun a=>F.zfg a.1 a.2.1
theorem za9h:Entry prog 194 za0p false:=eo { P:=prog,n:=38,tab:=[(95,zti),(226,za0o)],rtL:=[(5,2),(7,3),(11,2),(13,3),(18,2),(20,3),(25,2),(27,3),(32,2),(34,3)],locL:=[2,3] } (.seq .leaf (.seq .leaf .leaf)) func194 ⟨za3n,za9g,trivial⟩
noncomputable def za0q:FSem:=mkE (ArgT.cons tyTConstraint (ArgT.cons (Ty.leaf .ptr) ArgT.nil)) (Ty.leaf .bool) fun a=>F.zfp a.1 a.2.1
theorem za9i:Entry prog 193 za0q false:=eo { P:=prog,n:=7,tab:=[(194,za0p)],locL:=[2] } (.seq .leaf (.seq .leaf .leaf)) func193 ⟨za9h,trivial⟩
noncomputable def za0r:FSem:=mkE (ArgT.cons (Ty.leaf .sl) (ArgT.fnc 193 1 ArgT.nil)) (Ty.leaf (.int .i64)) fun a=>F.zb5 a.1 a.2.1
theorem za9j:Entry prog 221 za0r false:=eo { P:=prog,n:=19,tab:=[(193,za0q)] } (.seq .leaf (.seq (.seq .leaf (.block (.loop [(8,.leaf (.int .i64))] (.seq .leaf (.seq (.cond .leaf .leaf) (.seq (.block (.seq .leaf (.seq .leaf (.cond (.seq .leaf .leaf) .leaf)))) .leaf)))))) (.seq .leaf .leaf))) func221 ⟨za9i,trivial⟩
noncomputable def za0s:FSem:=mkE (ArgT.cons (Ty.leaf .sl) (ArgT.fnc 193 1 ArgT.nil)) (Ty.leaf .bool) fun a=>F.za9 a.1 a.2.1
theorem za9k:Entry prog 184 za0s false:=eo { P:=prog,n:=9,tab:=[(221,za0r)] } (.seq .leaf (.seq .leaf .leaf)) func184 ⟨za9j,trivial⟩
noncomputable def ztj:FSem:=mkE (ArgT.cons tyTSketch ArgT.nil) (Ty.leaf .sl) fun a=>F.zfa a.1
theorem za3o:Entry prog 133 ztj false:=eo { P:=prog,n:=52,tab:=[(184,za0s)],rtL:=[(10,1),(17,5),(19,5),(29,5),(34,1)],locL:=[1,5,47] } (.seq .leaf (.seq .leaf (.seq (.seq .leaf (.block (.loop [(3,.leaf (.sl)),(13,.leaf (.int .i64))] (.seq .leaf (.seq (.cond .leaf .leaf) (.seq (.block (.seq .leaf (.seq .leaf (.block (.loop [(3,.leaf (.sl)),(23,.leaf (.int .i64))] (.seq .leaf (.seq (.cond .leaf .leaf) (.join [(3,.leaf (.sl))] (.block (.seq .leaf (.seq .leaf (.seq .leaf (.seq .leaf (.cond .leaf .leaf)))))) .leaf)))))))) .leaf)))))) (.seq .leaf .leaf)))) func133 ⟨za9k,trivial⟩
noncomputable def za0t:FSem:=mkE (ArgT.cons (Ty.leaf .sl) (ArgT.cons (Ty.leaf (.int .i64)) ArgT.nil)) (Ty.leaf .sl) fun a=>F.zbo a.1 a.2.1
theorem za9l:Entry prog 192 za0t false:=eo { P:=prog,n:=27,tab:=[] } (.seq .leaf (.join [] (.seq .leaf (.cond .leaf .leaf)) (.seq (.seq .leaf (.seq .leaf (.cond .leaf .leaf))) (.seq .leaf .leaf)))) func192 trivial
noncomputable def ztk:FSem:=mkE (ArgT.cons (Ty.leaf .sl) ArgT.nil) (Ty.leaf .sl) fun a=>F.zb4 a.1
theorem za3p:Entry prog 132 ztk false:=eo { P:=prog,n:=36,tab:=[(192,za0t)] } (.seq .leaf (.seq .leaf (.seq (.seq .leaf (.block (.loop [(3,.leaf (.int .i64)),(11,.leaf (.int .i64))] (.seq .leaf (.seq (.cond .leaf .leaf) (.join [(3,.leaf (.int .i64))] (.block (.seq .leaf (.seq .leaf (.seq .leaf (.cond .leaf .leaf))))) .leaf)))))) (.seq .leaf (.seq (.seq .leaf (.block (.loop [(6,.leaf (.sl)),(27,.leaf (.int .i64))] (.seq .leaf (.seq (.cond .leaf .leaf) (.seq (.block (.seq .leaf .leaf)) .leaf)))))) (.seq .leaf .leaf)))))) func132 ⟨za9l,trivial⟩
noncomputable def ztl:FSem:=mkE (ArgT.cons (Ty.leaf .sl) ArgT.nil) (Ty.leaf .sl) fun a=>F.zcq a.1
theorem za3q:Entry prog 134 ztl false:=eo { P:=prog,n:=8,tab:=[] } (.seq .leaf (.seq (.seq .leaf (.cond (.seq .leaf .leaf) .leaf)) (.seq .leaf .leaf))) func134 trivial
noncomputable def ztm:FSem:=mkE (ArgT.cons tyTSketch ArgT.nil) (Ty.leaf .ptr) fun a=>F.ze6 a.1
theorem za3r:Entry prog 57 ztm false:=eo { P:=prog,n:=99,tab:=[(133,ztj),(132,ztk),(134,ztl)],rtL:=[(12,1),(20,1),(32,5),(48,7),(51,7),(63,7),(67,7),(72,7)],locL:=[1,5,7,34,61,84,93] } (.seq .leaf (.seq (.draw [0,1,2,3,4,5,6,7,8,9]) (.seq (.seq .leaf (.block (.loop [(23,.leaf (.int .i64))] (.seq .leaf (.seq (.cond .leaf .leaf) (.seq (.block (.seq .leaf (.draw [0,1,2,3,4,5,6,7,8,9,10,11]))) .leaf)))))) (.seq (.seq .leaf (.block (.loop [(44,.leaf (.int .i64))] (.seq .leaf (.seq (.cond .leaf .leaf) (.seq (.block (.seq .leaf (.seq .leaf (.seq (.seq .leaf (.block (.loop [(8,.leaf (.sl)),(54,.leaf (.int .i64))] (.seq .leaf (.seq (.cond .leaf .leaf) (.join [(8,.leaf (.sl))] (.block (.seq .leaf (.seq .leaf (.seq .leaf (.cond .leaf .leaf))))) .leaf)))))) .leaf)))) .leaf)))))) (.seq .leaf .leaf))))) func57 ⟨za3o,za3p,za3q,trivial⟩
noncomputable def za0u:FSem:=mkE (ArgT.cons (Ty.leaf .ptr) ArgT.nil) (Ty.leaf .sl) fun a=>F.y_henneberg_peeler_all a.1
theorem za9m:Entry prog 136 za0u false:=eo { P:=prog,n:=36,tab:=[],locL:=[17,32] } (.seq .leaf (.seq .leaf (.seq (.seq .leaf (.block (.loop [(3,.leaf (.sl)),(12,.leaf (.int .i64))] (.seq .leaf (.seq (.cond .leaf .leaf) (.seq (.block (.seq .leaf .leaf)) .leaf)))))) (.seq (.seq .leaf (.block (.loop [(3,.leaf (.sl)),(26,.leaf (.int .i64))] (.seq .leaf (.seq (.cond .leaf .leaf) (.seq (.block (.seq .leaf .leaf)) .leaf)))))) (.seq .leaf .leaf))))) func136 trivial
noncomputable def za0v:FSem:=mkE (ArgT.cons (Ty.leaf (.int .i64)) (ArgT.cons (Ty.leaf .ptr) ArgT.nil)) (Ty.leaf .bool) fun a=>F.y_henneberg_peeler_remaining_1 a.1 a.2.1
theorem za9n:Entry prog 141 za0v false:=eo { P:=prog,n:=7,tab:=[(98,zks)] } (.seq .leaf (.seq .leaf .leaf)) func141 ⟨zmf,trivial⟩
noncomputable def za0w:FSem:=mkE (ArgT.cons (Ty.leaf .sl) (ArgT.fnc 141 1 ArgT.nil)) (Ty.leaf (.int .i64)) fun a=>F.zbj a.1 a.2.1
theorem za9o:Entry prog 135 za0w false:=eo { P:=prog,n:=19,tab:=[(141,za0v)] } (.seq .leaf (.seq (.seq .leaf (.block (.loop [(8,.leaf (.int .i64))] (.seq .leaf (.seq (.cond .leaf .leaf) (.seq (.block (.seq .leaf (.seq .leaf (.cond (.seq .leaf .leaf) .leaf)))) .leaf)))))) (.seq .leaf .leaf))) func135 ⟨za9n,trivial⟩
noncomputable def za0x:FSem:=mkE (ArgT.cons (Ty.leaf .sl) (ArgT.fnc 141 1 ArgT.nil)) (Ty.leaf .bool) fun a=>F.zbd a.1 a.2.1
theorem za9p:Entry prog 102 za0x false:=eo { P:=prog,n:=9,tab:=[(135,za0w)] } (.seq .leaf (.seq .leaf .leaf)) func102 ⟨za9o,trivial⟩
noncomputable def ztn:FSem:=mkE (ArgT.cons (Ty.leaf .ptr) (ArgT.cons (Ty.leaf (.int .i64)) (ArgT.cons (Ty.leaf .sl) ArgT.nil))) (Ty.leaf .sl) fun a=>F.y_henneberg_peeler_remaining a.1 a.2.1 a.2.2.1
theorem za3s:Entry prog 60 ztn false:=eo { P:=prog,n:=35,tab:=[(98,zks),(102,za0x)],locL:=[31] } (.seq .leaf (.seq .leaf (.seq (.seq .leaf (.block (.loop [(7,.leaf (.sl)),(15,.leaf (.int .i64))] (.seq .leaf (.seq (.cond .leaf .leaf) (.join [(7,.leaf (.sl))] (.block (.seq .leaf (.seq .leaf (.cond .leaf .leaf)))) .leaf)))))) (.seq .leaf .leaf)))) func60 ⟨zmf,za9p,trivial⟩
noncomputable def zqg:FSem:=mkE (ArgT.cons (Ty.leaf .ptr) (ArgT.cons (Ty.leaf (.int .i64)) ArgT.nil)) (Ty.leaf (.int .i64)) fun a=>F.y_henneberg_peeler_equations a.1 a.2.1
theorem zve:Entry prog 140 zqg false:=eo { P:=prog,n:=21,tab:=[(109,e_x58)],rtL:=[(19,5)],locL:=[5] } (.seq .leaf (.seq .leaf (.seq .leaf .leaf))) func140 ⟨t_x58,trivial⟩
noncomputable def za0y:FSem:=mkE (ArgT.cons (Ty.leaf .ptr) (ArgT.cons (Ty.leaf .sl) ArgT.nil)) (Ty.leaf (.int .i64)) fun a=>F.y_henneberg_peeler_weight a.1 a.2.1
theorem za9q:Entry prog 76 za0y false:=eo { P:=prog,n:=21,tab:=[(140,zqg)] } (.seq .leaf (.seq .leaf (.seq (.seq .leaf (.block (.loop [(5,.leaf (.int .i64)),(10,.leaf (.int .i64))] (.seq .leaf (.seq (.cond .leaf .leaf) (.seq (.block (.seq .leaf .leaf)) .leaf)))))) (.seq .leaf .leaf)))) func76 ⟨zve,trivial⟩
noncomputable def zto:FSem:=mkE (ArgT.cons tyTConstraint (ArgT.cons (Ty.leaf .sl) (ArgT.cons (Ty.leaf (.int .i64)) ArgT.nil))) (Ty.leaf .bool) fun a=>F.zhf a.1 a.2.1 a.2.2.1
theorem za3t:Entry prog 154 zto false:=eo { P:=prog,n:=52,tab:=[(162,zth),(98,zks)],rtL:=[(8,3),(14,3),(22,3),(32,3),(37,3),(44,3)],locL:=[3] } (.seq .leaf (.seq .leaf (.seq (.seq .leaf (.cond (.seq .leaf .leaf) .leaf)) (.seq (.seq .leaf (.block (.join [(16,.leaf (.bool))] (.seq .leaf (.cond .leaf .leaf)) (.cond (.seq .leaf .leaf) (.join [(19,.leaf (.bool))] (.seq .leaf (.cond .leaf .leaf)) (.cond (.seq (.draw [0,1,2,3,4,5,6,7,8]) .leaf) (.seq .leaf (.cond (.seq (.draw [0,1,2,3,4,5,6,7,8,9,10,11,12,13,14,15,16,17,18,19,20]) .leaf) .leaf)))))))) (.seq .leaf .leaf))))) func154 ⟨za3m,zmf,trivial⟩
noncomputable def za0z:FSem:=mkE (ArgT.cons (Ty.leaf (.int .i64)) (ArgT.cons (Ty.leaf .ptr) (ArgT.cons (Ty.leaf .ptr) ArgT.nil))) (Ty.leaf .bool) fun a=>F.y_henneberg_peeler_removable_1 a.1 a.2.1 a.2.2.1
theorem za9r:Entry prog 153 za0z false:=eo { P:=prog,n:=20,tab:=[(154,zto)] } (.seq .leaf (.seq (.draw [0,1,2,3,4,5,6,7,8,9,10,11,12,13,14,15]) .leaf)) func153 ⟨za3t,trivial⟩
noncomputable def za10:FSem:=mkE (ArgT.cons (Ty.leaf .sl) (ArgT.fnc 153 2 ArgT.nil)) (Ty.leaf (.int .i64)) fun a=>F.zbk a.1 a.2.1
theorem za9s:Entry prog 135 za10 false:=eo { P:=prog,n:=19,tab:=[(153,za0z)] } (.seq .leaf (.seq (.seq .leaf (.block (.loop [(8,.leaf (.int .i64))] (.seq .leaf (.seq (.cond .leaf .leaf) (.seq (.block (.seq .leaf (.seq .leaf (.cond (.seq .leaf .leaf) .leaf)))) .leaf)))))) (.seq .leaf .leaf))) func135 ⟨za9r,trivial⟩
noncomputable def za11:FSem:=mkE (ArgT.cons (Ty.leaf .sl) (ArgT.fnc 153 2 ArgT.nil)) (Ty.leaf .bool) fun a=>F.zbe a.1 a.2.1
theorem za9t:Entry prog 102 za11 false:=eo { P:=prog,n:=9,tab:=[(135,za10)] } (.seq .leaf (.seq .leaf .leaf)) func102 ⟨za9s,trivial⟩
noncomputable def za12:FSem:=mkE (ArgT.cons tyTConstraint (ArgT.cons (Ty.leaf (.int .i64)) ArgT.nil)) (Ty.leaf .sl) fun a=>F.zia a.1 a.2.1
theorem za9u:Entry prog 207 za12 false:=eo { P:=prog,n:=25,tab:=[],rtL:=[(8,2)],locL:=[2,21] } (.seq .leaf (.seq .leaf (.seq (.seq .leaf (.block (.loop [(5,.leaf (.sl)),(11,.leaf (.int .i64))] (.seq .leaf (.seq (.cond .leaf .leaf) (.join [(5,.leaf (.sl))] (.block (.seq .leaf (.seq .leaf (.cond .leaf .leaf)))) .leaf)))))) (.seq .leaf .leaf)))) func207 trivial
noncomputable def za13:FSem:=mkE (ArgT.cons (Ty.leaf (.int .i64)) (ArgT.cons (Ty.leaf .ptr) (ArgT.cons (Ty.leaf .ptr) (ArgT.cons (Ty.leaf .ptr) ArgT.nil)))) (Ty.leaf .bool) fun a=>F.zee a.1 a.2.1 a.2.2.1 a.2.2.2.1
theorem za9v:Entry prog 208 za13 false:=eo { P:=prog,n:=16,tab:=[] } (.seq .leaf (.seq (.draw [0,1,2,3,4,5,6,7,8,9,10]) .leaf)) func208 trivial
noncomputable def ztp:FSem:=mkE (ArgT.cons tyTConstraint (ArgT.cons (Ty.leaf .sl) (ArgT.cons (Ty.leaf (.int .i64)) ArgT.nil))) (Ty.leaf (.int .i64)) fun a=>F.zi9 a.1 a.2.1 a.2.2.1
theorem za3u:Entry prog 161 ztp false:=eo { P:=prog,n:=77,tab:=[(207,za12),(208,za13)] } (.seq .leaf (.seq .leaf (.seq .leaf (.seq (.seq .leaf (.block (.seq .leaf (.cond (.seq (.seq .leaf (.cond (.seq .leaf .leaf) .leaf)) (.seq .leaf .leaf)) (.seq .leaf (.cond (.seq (.seq .leaf (.cond (.seq .leaf .leaf) .leaf)) (.seq .leaf .leaf)) (.seq .leaf (.cond (.seq (.seq .leaf (.cond (.seq .leaf .leaf) .leaf)) (.seq .leaf .leaf)) .leaf)))))))) (.seq (.seq .leaf (.cond (.seq .leaf .leaf) .leaf)) (.seq (.seq .leaf (.block (.join [(44,.leaf (.bool))] (.seq .leaf (.cond .leaf .leaf)) (.cond (.seq .leaf .leaf) (.seq .leaf (.cond (.seq .leaf .leaf) (.join [(49,.leaf (.bool))] (.seq .leaf (.cond .leaf (.seq .leaf (.cond .leaf (.seq .leaf (.cond .leaf .leaf)))))) (.cond (.seq .leaf .leaf) (.seq .leaf (.cond (.seq .leaf (.cond (.seq .leaf .leaf) .leaf)) (.seq .leaf (.cond (.seq .leaf (.cond (.seq .leaf .leaf) .leaf)) (.join [(66,.leaf (.bool))] (.seq .leaf (.cond .leaf .leaf)) (.cond (.seq (.seq .leaf (.cond (.seq .leaf .leaf) .leaf)) (.seq .leaf .leaf)) (.seq .leaf (.cond (.seq (.seq .leaf (.cond (.seq .leaf .leaf) .leaf)) (.seq .leaf .leaf)) .leaf)))))))))))))))) (.seq .leaf .leaf))))))) func161 ⟨za9u,za9v,trivial⟩
noncomputable def ztq:FSem:=mkE (ArgT.cons (Ty.leaf .ptr) (ArgT.cons (Ty.leaf (.int .i64)) (ArgT.cons (Ty.leaf (.int .i64)) ArgT.nil))) (Ty.leaf (.int .i64)) fun a=>F.y_henneberg_peeler_kind a.1 a.2.1 a.2.2.1
theorem za3v:Entry prog 139 ztq false:=eo { P:=prog,n:=20,tab:=[(161,ztp)] } (.seq .leaf (.seq (.draw [0,1,2,3,4,5,6,7,8,9,10,11,12,13]) .leaf)) func139 ⟨za3u,trivial⟩
noncomputable def za14:FSem:=mkE (ArgT.cons (Ty.leaf .ptr) (ArgT.cons (Ty.leaf (.int .i64)) (ArgT.cons (Ty.leaf .sl) ArgT.nil))) (Ty.leaf .bool) fun a=>F.y_henneberg_peeler_removable a.1 a.2.1 a.2.2.1
theorem za9w:Entry prog 71 za14 false:=eo { P:=prog,n:=60,tab:=[(98,zks),(60,ztn),(76,za0y),(102,za11),(139,ztq),(140,zqg)] } (.seq .leaf (.seq (.seq .leaf (.cond (.seq .leaf .leaf) .leaf)) (.seq .leaf (.seq (.seq .leaf (.cond (.seq .leaf .leaf) .leaf)) (.seq (.seq .leaf (.cond (.seq .leaf .leaf) .leaf)) (.seq (.seq .leaf (.block (.loop [(37,.leaf (.int .i64))] (.seq .leaf (.seq (.cond .leaf .leaf) (.seq (.block (.seq .leaf (.seq .leaf (.join [(11,.leaf (.bool))] .leaf (.join [(11,.leaf (.bool))] (.seq .leaf (.cond .leaf .leaf)) (.seq .leaf (.cond (.seq .leaf .leaf) .leaf))))))) .leaf)))))) (.seq .leaf .leaf))))))) func71 ⟨zmf,za3s,za9q,za9t,za3v,zve,trivial⟩
noncomputable def za15:FSem:=mkE (ArgT.cons (Ty.leaf (.int .i64)) (ArgT.cons (Ty.leaf .ptr) (ArgT.cons (Ty.leaf .ptr) ArgT.nil))) (Ty.leaf .bool) fun a=>F.y_henneberg_peeler_peel_1 a.1 a.2.1 a.2.2.1
theorem za9x:Entry prog 137 za15 false:=eo { P:=prog,n:=9,tab:=[(71,za14)] } (.seq .leaf (.seq .leaf .leaf)) func137 ⟨za9w,trivial⟩
noncomputable def za16:FSem:=mkE (ArgT.cons (Ty.leaf .sl) (ArgT.fnc 137 2 ArgT.nil)) (Ty.leaf (.int .i64)) fun a=>F.zb8 a.1 a.2.1
theorem za9y:Entry prog 135 za16 false:=eo { P:=prog,n:=19,tab:=[(137,za15)] } (.seq .leaf (.seq (.seq .leaf (.block (.loop [(8,.leaf (.int .i64))] (.seq .leaf (.seq (.cond .leaf .leaf) (.seq (.block (.seq .leaf (.seq .leaf (.cond (.seq .leaf .leaf) .leaf)))) .leaf)))))) (.seq .leaf .leaf))) func135 ⟨za9x,trivial⟩
noncomputable def ztr:FSem:=mkE (ArgT.cons (Ty.leaf (.int .i64)) (ArgT.cons (Ty.leaf .ptr) ArgT.nil)) (Ty.leaf .bool) fun a=>F.y_henneberg_peeler_peel_2 a.1 a.2.1
theorem za3w:Entry prog 138 ztr false:=eo { P:=prog,n:=7,tab:=[(98,zks)] } (.seq .leaf (.seq .leaf .leaf)) func138 ⟨zmf,trivial⟩
noncomputable def za17:FSem:=mkE (ArgT.cons (Ty.leaf .sl) (ArgT.fnc 138 1 ArgT.nil)) (Ty.leaf (.int .i64)) fun a=>F.zbt a.1 a.2.1
theorem za9z:Entry prog 135 za17 false:=eo { P:=prog,n:=19,tab:=[(138,ztr)] } (.seq .leaf (.seq (.seq .leaf (.block (.loop [(8,.leaf (.int .i64))] (.seq .leaf (.seq (.cond .leaf .leaf) (.seq (.block (.seq .leaf (.seq .leaf (.cond (.seq .leaf .leaf) .leaf)))) .leaf)))))) (.seq .leaf .leaf))) func135 ⟨za3w,trivial⟩
noncomputable def za18:FSem:=mkM (ArgT.cons (Ty.leaf .sl) (ArgT.fnc 138 1 ArgT.nil)) (Ty.leaf .sl) fun a=>F.zb6 a.1 a.2.1
theorem zaa0:Entry prog 100 za18 true:=eoM { P:=prog,n:=42,tab:=[(135,za17),(138,ztr)] } (.seq .leaf (.seq .leaf (.seq (.seq .leaf (.cond (.seq .leaf .leaf) .leaf)) (.seq (.seq .leaf (.block (.loop [(5,.leaf (.int .i64)),(6,.leaf (.int .i64))] (.seq (.seq .leaf (.cond .leaf .leaf)) (.join [(5,.leaf (.int .i64))] (.block (.seq .leaf (.seq .leaf (.cond (.seq .leaf .leaf) .leaf)))) .leaf))))) (.seq .leaf (.seq .leaf .leaf)))))) func100 ⟨za9z,za3w,trivial⟩
noncomputable def zts:FSem:=mkE (ArgT.cons (Ty.leaf .ptr) ArgT.nil) (Ty.tup (.cons (Ty.leaf .sl) (.cons (Ty.leaf .sl) .nil)) (fun x=>(x.1,x.2,())) (fun y=>(y.1,y.2.1)) (fun _=>rfl) (fun _=>rfl)) fun a=>F.y_henneberg_peeler_peel a.1
theorem za3x:Entry prog 58 zts false:=eo { P:=prog,n:=27,tab:=[(136,za0u),(135,za16),(100,za18)],mutL:=[100],locL:=[19] } (.seq .leaf (.seq .leaf (.seq (.block (.loop [(4,.leaf (.ptr))] (.block (.seq .leaf (.seq (.seq .leaf (.cond .leaf .leaf)) (.draw [0,1,3,2,4,5,6,7,8])))))) (.seq .leaf (.seq .leaf .leaf))))) func58 ⟨za9m,za9y,zaa0,trivial⟩
noncomputable def za19:FSem:=mkE (ArgT.cons tyTSketch ArgT.nil) (Ty.tup (.cons (Ty.leaf .sl) (.cons (Ty.leaf .sl) .nil)) (fun x=>(x.1,x.2,())) (fun y=>(y.1,y.2.1)) (fun _=>rfl) (fun _=>rfl)) fun a=>F.zh7 a.1
theorem zaa1:Entry prog 19 za19 false:=eo { P:=prog,n:=12,tab:=[(56,zqf),(57,ztm),(58,zts)],locL:=[1] } (.seq .leaf (.seq (.seq .leaf (.cond (.seq .leaf .leaf) .leaf)) (.seq .leaf .leaf))) func19 ⟨zvd,za3r,za3x,trivial⟩
end
end Den
end

section
set_option maxRecDepth 100000
namespace Den
open Go Go.Proofs.Tryz
noncomputable section
noncomputable def zgo:FSem:=mkE (ArgT.cons (Ty.leaf .sl) ArgT.nil) (Ty.leaf .sl) fun a=>F.zbh a.1
theorem zhm:Entry prog 196 zgo false:=eo { P:=prog,n:=21,tab:=[] } (.seq .leaf (.seq (.block (.loop [(0,.leaf (.sl))] (.join [] (.seq .leaf (.cond .leaf .leaf)) (.block .leaf)))) (.seq .leaf .leaf))) func196 trivial
noncomputable def za1a:FSem:=mkE (ArgT.cons tyTInt ArgT.nil) (Ty.leaf .bool) fun a=>F.zhh a.1
theorem zaa2:Entry prog 144 za1a false:=eo { P:=prog,n:=22,tab:=[(196,zgo)],rtL:=[(3,1),(7,1),(12,1),(16,1)],locL:=[1] } (.seq .leaf (.seq (.draw [0,1,4,5,6,2,3,7,8,9,10,11,12,13,14,15,16,17,18,19]) .leaf)) func144 ⟨zhm,trivial⟩
noncomputable def zqh:FSem:=mkE (ArgT.cons (Ty.leaf .bool) (ArgT.cons (Ty.leaf .sl) ArgT.nil)) tyTInt fun a=>F.zd4 a.1 a.2.1
theorem zvf:Entry prog 199 zqh false:=eo { P:=prog,n:=15,tab:=[(196,zgo)],locL:=[4] } (.seq .leaf (.seq .leaf (.seq .leaf .leaf))) func199 ⟨zhm,trivial⟩
noncomputable def za1b:FSem:=mkE (ArgT.cons tyTInt ArgT.nil) tyTInt fun a=>F.zk8 a.1
theorem zaa3:Entry prog 197 za1b false:=eo { P:=prog,n:=8,tab:=[(199,zqh)],rtL:=[(3,1),(5,1)],locL:=[1,2] } (.seq .leaf (.seq .leaf .leaf)) func197 ⟨zvf,trivial⟩
noncomputable def za1c:FSem:=mkE (ArgT.cons tyTInt ArgT.nil) (Ty.leaf (.int .i64)) fun a=>F.zk9 a.1
theorem zaa4:Entry prog 145 za1c false:=eo { P:=prog,n:=11,tab:=[(197,za1b)],rtL:=[(5,1),(9,1)],locL:=[1] } (.seq .leaf (.seq .leaf (.seq (.seq .leaf (.cond (.seq .leaf .leaf) .leaf)) (.seq (.seq .leaf (.cond (.seq .leaf .leaf) .leaf)) (.seq .leaf .leaf))))) func145 ⟨zaa3,trivial⟩
noncomputable def ztt:FSem:=mkE (ArgT.cons (Ty.leaf .sl) (ArgT.cons (Ty.leaf .sl) ArgT.nil)) (Ty.leaf (.int .i64)) fun a=>F.zen a.1 a.2.1
theorem za3y:Entry prog 230 ztt false:=eo { P:=prog,n:=41,tab:=[] } (.seq .leaf (.seq (.seq .leaf (.cond (.seq (.seq .leaf (.cond (.seq .leaf .leaf) .leaf)) (.seq .leaf .leaf)) .leaf)) (.seq (.seq .leaf (.block (.loop [(5,.leaf (.int .i64))] (.seq (.seq .leaf (.cond .leaf .leaf)) (.seq (.block (.seq (.seq (.draw [0,1,2,3,4,5,6,7,8]) (.cond (.seq .leaf .leaf) .leaf)) (.seq (.draw [0,1,2,3,4,5,6,7,8]) (.cond (.seq .leaf .leaf) .leaf)))) .leaf))))) (.seq .leaf .leaf)))) func230 trivial
noncomputable def za1d:FSem:=mkE (ArgT.cons (Ty.leaf .sl) ArgT.nil) (Ty.leaf (.int .u64)) fun a=>F.zg7 a.1
theorem zaa5:Entry prog 231 za1d false:=eo { P:=prog,n:=21,tab:=[] } (.seq .leaf (.seq .leaf (.seq (.seq .leaf (.block (.loop [(3,.leaf (.int .u64)),(4,.leaf (.int .i64))] (.seq (.seq .leaf (.cond .leaf .leaf)) (.seq (.block .leaf) .leaf))))) (.seq .leaf .leaf)))) func231 trivial
noncomputable def ztu:FSem:=mkE (ArgT.cons (Ty.leaf (.int .u64)) ArgT.nil) (Ty.leaf .sl) fun a=>F.zdl a.1
theorem za3z:Entry prog 206 ztu false:=eo { P:=prog,n:=10,tab:=[(196,zgo)] } (.seq .leaf (.seq .leaf .leaf)) func206 ⟨zhm,trivial⟩
noncomputable def za1e:FSem:=mkE (ArgT.cons (Ty.leaf .sl) (ArgT.cons (Ty.leaf (.int .u32)) ArgT.nil)) (Ty.tup (.cons (Ty.leaf .sl) (.cons (Ty.leaf (.int .u32)) .nil)) (fun x=>(x.1,x.2,())) (fun y=>(y.1,y.2.1)) (fun _=>rfl) (fun _=>rfl)) fun a=>F.zn4 a.1 a.2.1
theorem zaa6:Entry prog 232 za1e false:=eo { P:=prog,n:=43,tab:=[(196,zgo)] } (.seq .leaf (.seq .leaf (.seq .leaf (.seq (.seq .leaf (.block (.loop [(7,.leaf (.int .u64)),(8,.leaf (.int .i64))] (.seq (.seq .leaf (.cond .leaf .leaf)) (.seq (.block (.seq .leaf (.seq .leaf .leaf))) .leaf))))) (.seq .leaf .leaf))))) func232 ⟨zhm,trivial⟩
noncomputable def za1f:FSem:=mkE (ArgT.cons (Ty.leaf .sl) ArgT.nil) (Ty.leaf (.int .i64)) fun a=>F.zgy a.1
theorem zaa7:Entry prog 233 za1f false:=eo { P:=prog,n:=26,tab:=[] } (.seq .leaf (.seq (.seq .leaf (.cond (.seq .leaf .leaf) .leaf)) (.seq .leaf (.seq (.seq .leaf (.block (.loop [(3,.leaf (.int .i64)),(4,.leaf (.int .u32))] (.seq (.seq .leaf (.cond .leaf .leaf)) (.seq (.block .leaf) .leaf))))) (.seq .leaf .leaf))))) func233 trivial
noncomputable def za1g:FSem:=mkE (ArgT.cons (Ty.leaf .sl) (ArgT.cons (Ty.leaf (.int .i64)) ArgT.nil)) (Ty.leaf .sl) fun a=>F.zhs a.1 a.2.1
theorem zaa8:Entry prog 234 za1g false:=eo { P:=prog,n:=43,tab:=[] } (.seq .leaf (.seq .leaf (.seq (.seq .leaf (.block (.loop [(6,.leaf (.int .i64))] (.seq (.seq .leaf (.cond .leaf .leaf)) (.seq (.block (.seq .leaf (.seq .leaf .leaf))) .leaf))))) (.seq .leaf .leaf)))) func234 trivial
noncomputable def za1h:FSem:=mkE (ArgT.cons (Ty.leaf .sl) (ArgT.cons (Ty.leaf .sl) ArgT.nil)) (Ty.leaf .sl) fun a=>F.zhi a.1 a.2.1
theorem zaa9:Entry prog 252 za1h false:=eo { P:=prog,n:=67,tab:=[(196,zgo)] } (.seq .leaf (.seq .leaf (.seq (.seq .leaf (.block (.loop [(6,.leaf (.int .i64))] (.seq (.seq .leaf (.cond .leaf .leaf)) (.seq (.block (.seq .leaf (.seq (.seq .leaf (.block (.loop [(7,.leaf (.int .u64)),(8,.leaf (.int .i64))] (.seq (.seq .leaf (.cond .leaf .leaf)) (.seq (.block (.seq (.draw [0,1,2,3,4,5,6,7,8,9,10,11,12,13,14,15,16,17,18,19,20,21]) (.seq .leaf .leaf))) .leaf))))) .leaf))) .leaf))))) (.seq .leaf .leaf)))) func252 ⟨zhm,trivial⟩
noncomputable def ztv:FSem:=mkE (ArgT.cons (Ty.leaf .sl) (ArgT.cons (Ty.leaf .sl) ArgT.nil)) (Ty.leaf .sl) fun a=>F.zg6 a.1 a.2.1
theorem za40:Entry prog 236 ztv false:=eo { P:=prog,n:=48,tab:=[(196,zgo)] } (.seq .leaf (.seq .leaf (.seq .leaf (.seq (.seq .leaf (.block (.loop [(6,.leaf (.int .u64)),(7,.leaf (.int .i64))] (.seq (.seq .leaf (.cond .leaf .leaf)) (.seq (.block (.seq .leaf (.join [(8,.leaf (.int .u64))] (.seq .leaf (.cond .leaf .leaf)) (.seq .leaf (.seq .leaf .leaf))))) .leaf))))) (.seq .leaf .leaf))))) func236 ⟨zhm,trivial⟩
noncomputable def za1i:FSem:=mkE (ArgT.cons (Ty.leaf .sl) (ArgT.cons (Ty.leaf .sl) ArgT.nil)) (Ty.tup (.cons (Ty.leaf (.int .u32)) (.cons (Ty.leaf .sl) .nil)) (fun x=>(x.1,x.2,())) (fun y=>(y.1,y.2.1)) (fun _=>rfl) (fun _=>rfl)) fun a=>F.zji a.1 a.2.1
theorem zaaa:Entry prog 235 za1i false:=eo { P:=prog,n:=51,tab:=[(252,za1h),(196,zgo),(230,ztt),(236,ztv)] } (.seq .leaf (.seq .leaf (.seq (.draw [0,1,2,3,4,5,6,7,8,9,10,11,12,13,14,15,16,17,18,19,20]) (.join [(7,.leaf (.int .u64))] (.seq .leaf (.cond .leaf .leaf)) (.seq .leaf (.seq (.block (.loop [(7,.leaf (.int .u64)),(8,.leaf (.sl))] (.seq (.seq .leaf (.cond .leaf .leaf)) (.block (.seq .leaf .leaf))))) (.seq .leaf .leaf))))))) func235 ⟨zaa9,zhm,za3y,za40,trivial⟩
noncomputable def za1j:FSem:=mkE (ArgT.cons (Ty.leaf .sl) (ArgT.cons (Ty.leaf (.int .i64)) ArgT.nil)) (Ty.leaf .sl) fun a=>F.zka a.1 a.2.1
theorem zaab:Entry prog 237 za1j false:=eo { P:=prog,n:=45,tab:=[(196,zgo)] } (.seq .leaf (.seq .leaf (.seq (.seq .leaf (.block (.loop [(6,.leaf (.int .i64))] (.seq (.seq .leaf (.cond .leaf .leaf)) (.seq (.block (.seq .leaf (.join [(7,.leaf (.int .u64))] (.seq .leaf (.cond .leaf .leaf)) .leaf))) .leaf))))) (.seq .leaf .leaf)))) func237 ⟨zhm,trivial⟩
noncomputable def za1k:FSem:=mkE (ArgT.cons (Ty.leaf .sl) (ArgT.cons (Ty.leaf .sl) ArgT.nil)) (Ty.tup (.cons (Ty.leaf .sl) (.cons (Ty.leaf .sl) .nil)) (fun x=>(x.1,x.2,())) (fun y=>(y.1,y.2.1)) (fun _=>rfl) (fun _=>rfl)) fun a=>F.zgx a.1 a.2.1
theorem zaac:Entry prog 198 za1k false:=eo { P:=prog,n:=128,tab:=[(230,ztt),(231,za1d),(206,ztu),(232,za1e),(233,za1f),(234,za1g),(196,zgo),(235,za1i),(236,ztv),(237,za1j)] } (.seq .leaf (.seq (.seq .leaf (.cond (.seq .leaf .leaf) .leaf)) (.seq (.seq .leaf (.cond (.seq .leaf (.seq (.draw [0,1,2,4,5,6,3,7,8,9]) .leaf)) .leaf)) (.seq (.seq .leaf (.cond (.seq .leaf (.seq .leaf .leaf)) .leaf)) (.seq .leaf (.seq .leaf (.seq .leaf (.seq (.seq .leaf (.block (.loop [(14,.leaf (.int .i64))] (.seq (.seq .leaf (.cond .leaf .leaf)) (.seq (.block (.seq .leaf (.seq .leaf (.seq .leaf (.seq .leaf (.seq .leaf (.block (.loop [(19,.leaf (.int .i64))] (.seq (.seq .leaf (.cond .leaf .leaf)) (.join [] (.block (.seq .leaf (.seq .leaf (.cond .leaf .leaf)))) .leaf)))))))))) .leaf))))) (.seq .leaf .leaf))))))))) func198 ⟨za3y,zaa5,za3z,zaa6,zaa7,zaa8,zhm,zaaa,za40,zaab,trivial⟩
noncomputable def za1l:FSem:=mkE (ArgT.cons tyTInt (ArgT.cons tyTInt ArgT.nil)) tyTInt fun a=>F.zlj a.1 a.2.1
theorem zaad:Entry prog 147 za1l false:=eo { P:=prog,n:=28,tab:=[(196,zgo),(198,za1k),(199,zqh)],rtL:=[(9,2),(12,3)],locL:=[2,3,4] } (.seq .leaf (.seq (.draw [0,1,3,4,2,5,6,7]) (.seq (.block (.loop [(5,.leaf (.sl)),(6,.leaf (.sl))] (.seq (.seq .leaf (.cond .leaf .leaf)) (.block (.seq .leaf .leaf))))) (.seq .leaf .leaf)))) func147 ⟨zhm,zaac,zvf,trivial⟩
noncomputable def za1m:FSem:=mkE (ArgT.cons tyTInt ArgT.nil) (Ty.leaf .bool) fun a=>F.zlk a.1
theorem zaae:Entry prog 146 za1m false:=eo { P:=prog,n:=19,tab:=[],rtL:=[(3,1),(8,1),(15,1)],locL:=[1] } (.seq .leaf (.seq .leaf .leaf)) func146 trivial
noncomputable def za1n:FSem:=mkE (ArgT.cons tyTRat ArgT.nil) (Ty.leaf .bool) fun a=>F.zhj a.1
theorem zaaf:Entry prog 64 za1n false:=eo { P:=prog,n:=25,tab:=[(144,za1a),(145,za1c),(147,za1l),(146,za1m)],rtL:=[(3,1),(7,1),(12,1),(18,1),(20,1)],locL:=[1] } (.seq .leaf (.seq .leaf .leaf)) func64 ⟨zaa2,zaa4,zaad,zaae,trivial⟩
noncomputable def za1o:FSem:=mkE ArgT.nil (Ty.leaf .sl) fun a=>F.zih
theorem zaag:Entry prog 200 za1o false:=eo { P:=prog,n:=19,tab:=[] } (.seq .leaf (.seq .leaf .leaf)) func200 trivial
noncomputable def za1p:FSem:=mkE (ArgT.cons (Ty.leaf (.int .i64)) ArgT.nil) (Ty.tup (.cons zmh (.cons (Ty.leaf .bool) .nil)) (fun x=>(x.1,x.2,())) (fun y=>(y.1,y.2.1)) (fun _=>rfl) (fun _=>rfl)) fun a=>F.zn5 a.1
theorem zaah:Entry prog 149 za1p false:=eo { P:=prog,n:=18,tab:=[(200,za1o)],locL:=[2] } (.seq .leaf (.join [(2,.box [.str,.int .i64,.int .i64,.int .i64,.int .i64,.int .i64,.bool])] (.seq .leaf (.cond (.seq .leaf .leaf) .leaf)) (.seq .leaf .leaf))) func149 ⟨zaag,trivial⟩
noncomputable def za1q:FSem:=mkE (ArgT.cons (Ty.leaf (.int .i64)) ArgT.nil) tyTInt fun a=>F.zfx a.1
theorem zaai:Entry prog 160 za1q false:=eo { P:=prog,n:=14,tab:=[(206,ztu),(199,zqh)],locL:=[2] } (.seq .leaf (.seq (.seq .leaf (.cond (.seq .leaf .leaf) .leaf)) (.seq .leaf .leaf))) func160 ⟨za3z,zvf,trivial⟩
noncomputable def za1r:FSem:=mkE (ArgT.cons (Ty.leaf (.int .i64)) ArgT.nil) tyTRat fun a=>F.zeo a.1
theorem zaaj:Entry prog 86 za1r false:=eo { P:=prog,n:=7,tab:=[(160,za1q)],locL:=[2] } (.seq .leaf (.seq .leaf .leaf)) func86 ⟨zaai,trivial⟩
end
end Den
end

section
set_option maxRecDepth 100000
namespace Den
open Go Go.Proofs.Tryz
noncomputable section
noncomputable def za1s:FSem:=mkE (ArgT.cons tyTConstraint (ArgT.cons (Ty.leaf (.int .i64)) (ArgT.cons (Ty.leaf (.int .i64)) ArgT.nil))) (Ty.leaf .bool) fun a=>F.zl2 a.1 a.2.1 a.2.2.1
theorem zaak:Entry prog 96 za1s false:=eo { P:=prog,n:=26,tab:=[],rtL:=[(7,3),(11,3),(19,3)],locL:=[3] } (.seq .leaf (.seq .leaf .leaf)) func96 trivial
noncomputable def ztw:FSem:=mkE (ArgT.cons tyTSketch ArgT.nil) (Ty.leaf .sl) fun a=>F.zfy a.1
theorem za41:Entry prog 46 ztw false:=eo { P:=prog,n:=74,tab:=[(96,za1s)],rtL:=[(11,1),(15,1),(21,1),(26,5),(28,5),(51,5),(63,5),(70,1)],locL:=[1,5,67] } (.seq .leaf (.seq .leaf (.seq (.seq .leaf (.block (.loop [(3,.leaf (.sl)),(4,.leaf (.int .i64))] (.seq (.seq .leaf (.cond .leaf .leaf)) (.seq (.block (.seq .leaf (.seq .leaf (.seq .leaf (.block (.loop [(3,.leaf (.sl)),(7,.leaf (.int .i64))] (.seq (.seq .leaf (.cond .leaf .leaf)) (.join [(3,.leaf (.sl))] (.block (.seq .leaf (.seq (.seq .leaf (.block (.loop [(8,.leaf (.bool)),(9,.leaf (.int .i64))] (.seq (.seq .leaf (.cond .leaf .leaf)) (.join [(8,.leaf (.bool))] (.block (.draw [0,1,2,3,4,5,6,7,8,9,10,11,12,13,14])) .leaf))))) (.seq .leaf (.cond (.draw [0,1,2,3,4,6,7,5,8,9,10,11,12]) .leaf))))) .leaf)))))))) .leaf))))) (.seq .leaf .leaf)))) func46 ⟨zaak,trivial⟩
noncomputable def za1t:FSem:=mkE (ArgT.cons tyTSketch ArgT.nil) (Ty.leaf .sl) fun a=>F.zll a.1
theorem zaal:Entry prog 72 za1t false:=eo { P:=prog,n:=10,tab:=[(46,ztw)],rtL:=[(4,1)],locL:=[1] } (.seq .leaf (.seq (.draw [1,2,4,0,3,5,6,7]) .leaf)) func72 ⟨za41,trivial⟩
noncomputable def za1u:FSem:=mkE (ArgT.cons tyTConstraint ArgT.nil) (Ty.leaf (.int .i64)) fun a=>F.zgi a.1
theorem zaam:Entry prog 97 za1u false:=eo { P:=prog,n:=13,tab:=[(149,za1p)],rtL:=[(6,1),(11,3)],locL:=[1,3] } (.seq .leaf (.seq .leaf (.seq .leaf .leaf))) func97 ⟨zaah,trivial⟩
noncomputable def ztx:FSem:=mkE (ArgT.cons (Ty.leaf .sl) (ArgT.cons (Ty.leaf .sl) ArgT.nil)) (Ty.leaf .bool) fun a=>F.ze9 a.1 a.2.1
theorem za42:Entry prog 21 ztx false:=eo { P:=prog,n:=26,tab:=[] } (.seq .leaf (.seq (.seq .leaf (.cond (.seq .leaf .leaf) .leaf)) (.seq (.seq .leaf (.block (.loop [(5,.leaf (.int .i64))] (.seq (.seq .leaf (.cond .leaf .leaf)) (.seq (.block (.seq (.draw [0,1,2,3,4,5,6,7,8]) (.cond (.seq .leaf .leaf) .leaf))) .leaf))))) (.seq .leaf .leaf)))) func21 trivial
noncomputable def zk1:FSem:=mkE (ArgT.cons (Ty.leaf (.int .i64)) ArgT.nil) tyTSketch fun a=>F.ze1 a.1
theorem zoq:Entry prog 54 zk1 false:=eo { P:=prog,n:=41,tab:=[(86,za1r)],rtL:=[(10,3),(21,3),(26,3),(37,3)],locL:=[2,3,19,35] } (.seq .leaf (.seq .leaf (.seq (.seq .leaf (.block (.loop [(3,.box [.sl,.sl,.sl,.sl,.sl,.sl]),(7,.leaf (.int .i64))] (.seq .leaf (.seq (.cond .leaf .leaf) (.seq (.block (.seq .leaf (.seq (.draw [0,1,2,4,5,6,3,7,8,9,10,11,12]) (.seq .leaf (.block (.loop [(3,.box [.sl,.sl,.sl,.sl,.sl,.sl]),(23,.leaf (.int .i64))] (.seq .leaf (.seq (.cond .leaf .leaf) (.seq (.block (.seq .leaf (.draw [0,1,2,3,5,6,4,7,8,9,10,11,12]))) .leaf))))))))) .leaf)))))) (.seq .leaf .leaf)))) func54 ⟨zaaj,trivial⟩
noncomputable def za1v:FSem:=mkE (ArgT.cons (Ty.leaf .ptr) (ArgT.cons (Ty.leaf (.int .i64)) (ArgT.cons (Ty.leaf .sl) ArgT.nil))) tyTStep fun a=>F.y_henneberg_peeler_step a.1 a.2.1 a.2.2.1
theorem zaan:Entry prog 59 za1v false:=eo { P:=prog,n:=64,tab:=[(139,ztq),(140,zqg)],rtL:=[(18,7),(27,8),(44,8),(57,8),(62,8)],locL:=[6,7,8] } (.seq .leaf (.seq (.seq .leaf (.cond (.seq .leaf (.join [(7,.box [.int .i64,.int .i64,.sl,.int .i64])] (.seq .leaf (.cond .leaf .leaf)) (.seq .leaf .leaf))) .leaf)) (.seq .leaf (.join [(8,.box [.int .i64,.int .i64,.sl,.int .i64])] (.block (.seq .leaf (.cond (.seq .leaf (.seq .leaf (.cond .leaf .leaf))) (.seq .leaf (.cond .leaf (.seq .leaf (.cond .leaf .leaf))))))) (.seq .leaf .leaf))))) func59 ⟨za3v,zve,trivial⟩
noncomputable def zty:FSem:=mkE (ArgT.cons tyTSketch ArgT.nil) (Ty.tup (.cons tyTPlan (.cons (Ty.leaf (.int .i64)) .nil)) (fun x=>(x.1,x.2,())) (fun y=>(y.1,y.2.1)) (fun _=>rfl) (fun _=>rfl)) fun a=>F.ze8 a.1
theorem za43:Entry prog 22 zty false:=eo { P:=prog,n:=55,tab:=[(56,zqf),(57,ztm),(58,zts),(60,ztn),(59,za1v)],rtL:=[(34,8),(53,8)],locL:=[1,2,8,51] } (.seq .leaf (.seq (.seq .leaf (.seq .leaf (.cond (.seq .leaf .leaf) .leaf))) (.seq .leaf (.seq .leaf (.seq (.seq .leaf (.cond (.seq .leaf .leaf) .leaf)) (.seq .leaf (.seq (.seq .leaf (.block (.loop [(8,.box [.sl,.sl]),(9,.leaf (.int .i64))] (.seq (.seq .leaf (.cond .leaf .leaf)) (.seq (.block (.draw [0,1,2,3,4,5,6,7,8,9,10,11,12,13,14,15,16,17,18,19,20])) .leaf))))) (.seq .leaf .leaf)))))))) func22 ⟨zvd,za3r,za3x,za3s,zaan,trivial⟩
noncomputable def ztz:FSem:=mkE (ArgT.cons tyTPlan (ArgT.cons tyTPlan ArgT.nil)) (Ty.leaf .bool) fun a=>F.zij a.1 a.2.1
theorem za44:Entry prog 24 ztz false:=eo { P:=prog,n:=67,tab:=[(21,ztx)],rtL:=[(8,2),(11,3),(16,2),(18,3),(24,2),(30,2),(35,3),(40,6),(42,7),(46,6),(48,7),(53,6),(55,7),(60,6),(62,7)],locL:=[2,3,6,7] } (.seq .leaf (.join [] (.seq .leaf (.cond (.seq .leaf .leaf) .leaf)) (.seq (.seq .leaf (.block (.loop [(5,.leaf (.int .i64))] (.seq (.seq .leaf (.cond .leaf .leaf)) (.join [] (.block (.seq (.draw [0,1,2,3,4,5,6,7,8,9,10,11,12,13]) (.seq .leaf (.cond (.seq .leaf .leaf) .leaf)))) .leaf))))) (.seq .leaf .leaf)))) func24 ⟨za42,trivial⟩
noncomputable def znb:FSem:=mkE ArgT.nil (Ty.leaf .bool) fun a=>F.zg4
theorem zsz:Entry prog 17 znb false:=eo { P:=prog,n:=51,tab:=[(54,zk1),(22,zty),(19,za19),(24,ztz),(21,ztx)],locL:=[1,3,7] } (.seq .leaf (.seq .leaf (.seq .leaf (.seq .leaf (.seq .leaf (.seq .leaf .leaf)))))) func17 ⟨zoq,za43,zaa1,za44,za42,trivial⟩
noncomputable def za1w:FSem:=mkE (ArgT.cons tyTRat (ArgT.cons (Ty.leaf (.int .i64)) ArgT.nil)) (Ty.leaf .bool) fun a=>F.zi5 a.1 a.2.1
theorem zaao:Entry prog 111 za1w false:=eo { P:=prog,n:=23,tab:=[(64,za1n)],rtL:=[(5,2),(6,2),(12,2),(13,2)],locL:=[2] } (.seq .leaf (.seq .leaf .leaf)) func111 ⟨zaaf,trivial⟩
noncomputable def zt2:ArgT (TExpr×Int×Unit):=(ArgT.cons tyTExpr (ArgT.cons (Ty.leaf (.int .i64)) ArgT.nil))
noncomputable def zt5:Ty Int:=(Ty.leaf (.int .i64))
noncomputable def za1x:FSem:=mkE zt2 zt5 fun a=>F.zkb a.1 a.2.1
noncomputable def za7m (n:Nat):Cfg:={ P:=prog,n:=59,tab:=[(112,mkE zt2 zt5 (fun a=>F.zf2 n a.1 a.2.1))],rtL:=[(10,2),(16,2),(22,2),(23,2),(24,2),(30,2),(31,2),(32,2),(38,2),(49,2)],locL:=[2] }
theorem za49:∃fn,prog.funcs[112]?=some fn∧fn.body.isNone=false∧(fn.name == "runtime.NumGoroutine")=false:=⟨_,func112,rfl,by decide⟩
theorem za4d:∀n a K D w,Sub D w→F.zf2 n a.1 a.2.1 K D→Calls prog 112 (zt2.up a).toArray w (Post (fun v h=>zt5.dn v fun r=>K r h) D w)
 | 0,_,_,_,_,_,h=>h.elim
 | n+1,a,K,D,w,hs,h=>zkg (C:=za7m n) (F:=fun a=>F.zf2 (n+1) a.1 a.2.1) (fn:=f112) (c:=bd f112) (an:=(.seq .leaf (.join [] (.seq .leaf (.cond (.seq .leaf .leaf) .leaf)) (.seq .leaf (.seq (.seq .leaf (.block (.loop [(5,.leaf (.int .i64)),(6,.leaf (.int .i64))] (.join [] (.seq .leaf (.cond .leaf .leaf)) (.seq (.block .leaf) .leaf))))) (.seq .leaf .leaf)))))) ⟨(zev za49 (za4d n)),trivial⟩ trivial func112 rfl rfl (fun _=>rfl) (by intro a K D; kernel_rfl) a K D w hs h
theorem zaap:Entry prog 112 za1x false:=zev za49 (fun a K D w hs h=>h.elim fun m h=>za4d m a K D w hs h)
noncomputable def za1y:FSem:=mkE (ArgT.cons tyTSketch ArgT.nil) (Ty.leaf .bool) fun a=>F.zjj a.1
theorem zaaq:Entry prog 55 za1y false:=eo { P:=prog,n:=139,tab:=[(111,za1w),(112,za1x)],rtL:=[(9,1),(14,1),(20,1),(26,1),(32,1),(38,1),(44,1),(50,1),(59,1),(69,1),(75,1),(84,1),(90,1),(98,1),(104,1),(109,7),(114,7),(120,7),(126,7),(132,7)],locL:=[1,7] } (.seq .leaf (.join [] (.seq .leaf (.cond (.seq .leaf .leaf) .leaf)) (.seq (.seq .leaf (.block (.loop [(3,.leaf (.int .i64))] (.seq (.seq .leaf (.cond .leaf .leaf)) (.join [] (.block (.seq .leaf (.cond (.seq .leaf .leaf) .leaf))) .leaf))))) (.seq (.seq .leaf (.block (.loop [(4,.leaf (.int .i64))] (.seq (.seq .leaf (.cond .leaf .leaf)) (.seq (.block (.seq .leaf (.cond (.seq .leaf .leaf) .leaf))) .leaf))))) (.seq (.seq .leaf (.block (.loop [(5,.leaf (.int .i64))] (.seq (.seq .leaf (.cond .leaf .leaf)) (.seq (.block (.seq .leaf (.cond (.seq .leaf .leaf) .leaf))) .leaf))))) (.seq (.seq .leaf (.block (.loop [(6,.leaf (.int .i64))] (.seq (.seq .leaf (.cond .leaf .leaf)) (.seq (.block (.seq .leaf (.join [] (.seq .leaf (.cond (.seq .leaf .leaf) .leaf)) (.seq .leaf (.block (.loop [(8,.leaf (.int .i64))] (.seq (.seq .leaf (.cond .leaf .leaf)) (.seq (.block (.seq .leaf (.cond (.seq .leaf .leaf) .leaf))) .leaf)))))))) .leaf))))) (.seq .leaf .leaf))))))) func55 ⟨zaao,zaap,trivial⟩
noncomputable def znc:FSem:=mkE (ArgT.cons tyTSketch (ArgT.cons (Ty.leaf .sl) ArgT.nil)) (Ty.leaf .bool) fun a=>F.zjg a.1 a.2.1
theorem zt0:Entry prog 18 znc false:=eo { P:=prog,n:=12,tab:=[(55,za1y)],locL:=[2] } (.seq .leaf (.seq .leaf .leaf)) func18 ⟨zaaq,trivial⟩
end
end Den
end

section
set_option maxRecDepth 100000
namespace Den
open Go Go.Proofs.Tryz
noncomputable section
end
end Den
end

section
set_option maxRecDepth 100000
namespace Den
open Go Go.Proofs.Tryz
noncomputable section
noncomputable def za1z:FSem:=mkE (ArgT.cons tyTSketch ArgT.nil) (Ty.leaf .sl) fun a=>F.zn1 a.1
theorem zaar:Entry prog 88 za1z false:=eo { P:=prog,n:=9,tab:=[(133,ztj),(132,ztk)],rtL:=[(3,1)],locL:=[1] } (.seq .leaf (.seq (.draw [0,1,2,3,4,5,6]) .leaf)) func88 ⟨za3o,za3p,trivial⟩
noncomputable def za20:FSem:=mkE (ArgT.cons tyTSketch ArgT.nil) (Ty.leaf .sl) fun a=>F.zky a.1
theorem zaas:Entry prog 89 za20 false:=eo { P:=prog,n:=20,tab:=[],rtL:=[(6,1),(14,5)],locL:=[1,5,16] } (.seq .leaf (.seq .leaf (.seq (.seq .leaf (.block (.loop [(3,.leaf (.sl)),(9,.leaf (.int .i64))] (.seq .leaf (.seq (.cond .leaf .leaf) (.seq (.block (.seq .leaf .leaf)) .leaf)))))) (.seq .leaf .leaf)))) func89 trivial
noncomputable def za21:FSem:=mkE (ArgT.cons tyTConstraint (ArgT.cons (Ty.leaf .sl) ArgT.nil)) (Ty.leaf .sl) fun a=>F.zn2 a.1 a.2.1
theorem zaat:Entry prog 93 za21 false:=eo { P:=prog,n:=38,tab:=[(134,ztl)],rtL:=[(8,2),(11,2),(23,2)],locL:=[2,21,34] } (.seq .leaf (.seq .leaf (.seq (.seq .leaf (.block (.loop [(5,.leaf (.sl)),(14,.leaf (.int .i64))] (.seq .leaf (.seq (.cond .leaf .leaf) (.join [(5,.leaf (.sl))] (.block (.seq .leaf (.seq .leaf (.seq .leaf (.block (.join [(25,.leaf (.bool))] (.seq .leaf (.cond .leaf (.seq .leaf (.cond .leaf .leaf)))) (.cond .leaf .leaf))))))) .leaf)))))) (.seq .leaf .leaf)))) func93 ⟨za3q,trivial⟩
noncomputable def zu0:FSem:=mkE (ArgT.cons (Ty.leaf (.int .i64)) ArgT.nil) (Ty.leaf .bool) fun a=>F.zie a.1
theorem za45:Entry prog 90 zu0 false:=eo { P:=prog,n:=9,tab:=[] } (.seq .leaf (.seq .leaf .leaf)) func90 trivial
noncomputable def za22:FSem:=mkE (ArgT.cons tyTStep ArgT.nil) (Ty.leaf (.int .i64)) fun a=>F.zi4 a.1
theorem zaau:Entry prog 92 za22 false:=eo { P:=prog,n:=11,tab:=[(90,zu0)],rtL:=[(3,1),(6,1),(9,1)],locL:=[1] } (.seq .leaf (.seq (.seq .leaf (.cond (.seq .leaf .leaf) .leaf)) (.seq .leaf .leaf))) func92 ⟨za45,trivial⟩
noncomputable def za23:FSem:=mkE (ArgT.cons tyTStep (ArgT.cons (Ty.leaf .sl) (ArgT.cons (Ty.leaf .sl) ArgT.nil))) (Ty.leaf .bool) fun a=>F.zk5 a.1 a.2.1 a.2.2.1
theorem zaav:Entry prog 94 za23 false:=eo { P:=prog,n:=76,tab:=[(154,zto),(161,ztp)],rtL:=[(11,3),(15,3),(22,3),(25,3),(37,3),(41,3),(48,3),(65,3),(71,3)],locL:=[3] } (.seq .leaf (.seq (.seq .leaf (.cond (.seq (.draw [0,1,2,3,4,5,6,7,8,9,10,11]) .leaf) .leaf)) (.seq .leaf (.seq (.seq .leaf (.block (.loop [(7,.leaf (.int .i64)),(28,.leaf (.int .i64))] (.seq .leaf (.seq (.cond .leaf .leaf) (.join [(7,.leaf (.int .i64))] (.block (.seq .leaf (.seq (.draw [0,1,2,3,4,5,6,7,8]) (.block (.join [(40,.leaf (.bool))] (.seq .leaf (.cond .leaf .leaf)) (.cond (.seq .leaf .leaf) (.seq .leaf (.cond .leaf .leaf)))))))) .leaf)))))) (.seq .leaf .leaf))))) func94 ⟨za3t,za3u,trivial⟩
noncomputable def za24:FSem:=mkE (ArgT.cons tyTStep ArgT.nil) (Ty.leaf .bool) fun a=>F.zjh a.1
theorem zaaw:Entry prog 91 za24 false:=eo { P:=prog,n:=39,tab:=[],rtL:=[(3,1),(7,1),(12,1),(15,1),(21,1),(25,1),(29,1),(33,1)],locL:=[1] } (.seq .leaf (.join [] (.seq (.draw [0,1,2,3,4,5,6,7,8,9,10,11,12,13,14,15,16,17]) (.cond (.seq .leaf .leaf) .leaf)) (.seq .leaf .leaf))) func91 trivial
noncomputable def za25:FSem:=mkE (ArgT.cons tyTSketch (ArgT.cons tyTPlan ArgT.nil)) (Ty.leaf .bool) fun a=>F.zk4 a.1 a.2.1
theorem zaax:Entry prog 45 za25 false:=eo { P:=prog,n:=153,tab:=[(88,za1z),(89,za20),(93,za21),(92,za22),(94,za23),(91,za24),(90,zu0),(95,zti),(56,zqf)],rtL:=[(7,39),(23,3),(26,2),(29,2),(43,3),(50,2),(53,10),(56,2),(63,10),(68,10),(74,39),(79,10),(119,39),(131,39),(149,3)],locL:=[2,3,10,39,146],mapL:=[39] } (.seq .leaf (.join [] (.seq .leaf (.cond (.seq .leaf .leaf) .leaf)) (.seq (.draw [0,2,1,3,4,5]) (.seq .leaf (.seq .leaf (.seq (.seq .leaf (.block (.loop [(39,.mp),(46,.leaf (.int .i64))] (.seq .leaf (.seq (.cond .leaf .leaf) (.seq (.block (.seq .leaf (.seq .leaf (.join [(11,.leaf (.int .i64))] (.seq .leaf (.cond .leaf .leaf)) (.join [] (.seq .leaf (.cond (.seq .leaf .leaf) .leaf)) (.seq (.seq .leaf (.block (.loop [(82,.leaf (.int .i64))] (.seq .leaf (.seq (.cond .leaf .leaf) (.seq (.block (.seq .leaf (.join [] (.seq .leaf (.cond (.seq .leaf .leaf) .leaf)) (.seq .leaf (.seq .leaf (.block (.loop [(110,.leaf (.int .i64))] (.seq .leaf (.seq (.cond .leaf .leaf) (.join [] (.block (.seq .leaf (.seq .leaf (.cond (.seq .leaf .leaf) .leaf)))) .leaf)))))))))) .leaf)))))) (.seq (.seq .leaf (.cond (.seq .leaf .leaf) .leaf)) .leaf))))))) .leaf)))))) (.seq .leaf (.seq (.seq .leaf (.block (.loop [(16,.leaf (.sl)),(137,.leaf (.int .i64))] (.seq .leaf (.seq (.cond .leaf .leaf) (.join [(16,.leaf (.sl))] (.block (.seq .leaf (.seq .leaf (.cond .leaf .leaf)))) .leaf)))))) (.seq .leaf .leaf))))))))) func45 ⟨zaar,zaas,zaat,zaau,zaav,zaaw,za45,za3n,zvd,trivial⟩
noncomputable def za26:FSem:=mkE (ArgT.cons tyTPlan ArgT.nil) (Ty.leaf (.int .i64)) fun a=>F.zlg a.1
theorem zaay:Entry prog 47 za26 false:=eo { P:=prog,n:=26,tab:=[],rtL:=[(6,1),(13,5)],locL:=[1,5] } (.seq .leaf (.seq .leaf (.seq (.seq .leaf (.block (.loop [(3,.leaf (.int .i64)),(9,.leaf (.int .i64))] (.seq .leaf (.seq (.cond .leaf .leaf) (.join [(3,.leaf (.int .i64))] (.block (.seq .leaf (.seq .leaf (.block (.seq .leaf (.cond .leaf (.join [(19,.leaf (.bool))] (.seq .leaf (.cond .leaf .leaf)) (.cond .leaf .leaf)))))))) .leaf)))))) (.seq .leaf .leaf)))) func47 trivial
noncomputable def za27:FSem:=mkE (ArgT.cons tyTSketch ArgT.nil) (Ty.leaf (.int .i64)) fun a=>F.zn6 a.1
theorem zaaz:Entry prog 48 za27 false:=eo { P:=prog,n:=11,tab:=[],rtL:=[(3,1),(7,1)],locL:=[1] } (.seq .leaf (.seq .leaf .leaf)) func48 trivial
noncomputable def za28:FSem:=mkE (ArgT.cons tyTSketch ArgT.nil) (Ty.leaf (.int .i64)) fun a=>F.zii a.1
theorem zab0:Entry prog 49 za28 false:=eo { P:=prog,n:=22,tab:=[(72,za1t),(97,za1u)],locL:=[1] } (.seq .leaf (.seq .leaf (.seq .leaf (.seq (.seq .leaf (.block (.loop [(4,.leaf (.int .i64)),(5,.leaf (.int .i64))] (.seq (.seq .leaf (.cond .leaf .leaf)) (.seq (.block .leaf) .leaf))))) (.seq .leaf .leaf))))) func49 ⟨zaal,zaam,trivial⟩
noncomputable def zm5:FSem:=mkE (ArgT.cons tyTSketch ArgT.nil) (Ty.leaf .bool) fun a=>F.zgb a.1
theorem zxt:Entry prog 13 zm5 false:=eo { P:=prog,n:=75,tab:=[(22,zty),(24,ztz),(45,za25),(46,ztw),(47,za26),(48,za27),(49,za28),(17,znb),(18,znc)],rtL:=[(5,28),(29,3),(36,7),(43,28),(46,28),(54,28),(56,1)],locL:=[1,3,7,28],mapL:=[28] } (.seq .leaf (.join [] (.seq .leaf (.cond (.seq .leaf .leaf) .leaf)) (.seq .leaf (.seq (.seq .leaf (.cond (.seq .leaf .leaf) .leaf)) (.seq .leaf (.seq (.seq .leaf (.block (.loop [(28,.mp),(32,.leaf (.int .i64))] (.seq .leaf (.seq (.cond .leaf .leaf) (.seq (.block (.seq .leaf (.seq .leaf (.block (.loop [(28,.mp),(39,.leaf (.int .i64))] (.seq .leaf (.seq (.cond .leaf .leaf) (.seq (.block (.seq .leaf (.seq (.seq .leaf (.cond (.seq .leaf .leaf) .leaf)) .leaf))) .leaf)))))))) .leaf)))))) (.seq (.draw [0,1,2,3,4,5,6,7,8,9,10,11,12,13,14,15,16,18,20,17,19,21,22,23,24,25]) .leaf))))))) func13 ⟨za43,za44,zaax,za41,zaay,zaaz,zab0,zsz,zt0,trivial⟩
end
end Den
end

section
set_option maxRecDepth 100000
namespace Den
open Go Go.Proofs.Tryz
noncomputable section
end
end Den
end

section
namespace Den
open Go Iv Lx
def bc (b:Bool):Value:=.bool b
theorem zmt {α:Type} {f:α→Value}:∀ys:List α,ys.map f=ys.flatMap fun z=>[f z]
 | []=>rfl
 | a :: r=>by rw [List.map_cons,List.flatMap_cons,zmt r]; rfl
section
variable {h D : Hp} {g : TGraph} {es : List (Int × Int)} {l m : Sl} {gn : List Bool} {ds : List Int} {Kb : Bool → Hp → Prop} {Ki : Int → Hp → Prop} {Ks : Sl → Hp → Prop}
def OB (D h:Hp) (l:Sl) (gn:List Bool):Prop:=Own D h 1 l (gn.map bc)
theorem OB.len (ho:OB D h l gn):l.len=gn.length:=by have:=ho.2.1; simp at this; omega
theorem OB.get {i:Int} {K:Bool→Prop} (ho:OB D h l gn) (k:Nat) (hi:i=k) (hk:k<gn.length) (H:K gn[k]):idxP l i 1 fun a=>ldL .bool a K h:=by
 have hr:Rd h 1 l (gn.flatMap fun z=>[bc z]):=by rw [←zmt]; exact ho.rd
 refine rd_el (c:=fun z:Bool=>[bc z]) (n:=1) (fun _=>rfl) (by decide) hr k hi hk fun a ha=>?_
 have:=ha 0 _ (by decide) rfl
 rw [zba] at this
 exact ⟨_,this,H⟩
theorem OB.set {i:Int} {v:Bool} {K:Hp→Prop} (k:Nat) (ho:OB D h l gn) (hi:i=k) (hk:k<gn.length) (H:∀h',OB D h' l (gn.set k v)→(∀j,(∀a,l.a=some a→j≠a.block)→h' j=h j)→K h'):idxP l i 1 fun a=>stP a [.bool v] K h:=by
 unfold OB at ho
 rw [zmt] at ho
 refine za78 (c:=fun z:Bool=>[bc z]) (n:=1) (fun _=>rfl) (by decide) k ho hi hk rfl fun h' h1 h2=>H h' ?_ h2
 unfold OB
 rw [zmt]; exact h1
theorem zv3 {α:Type} {f:α→Value} {x:α}:∀n,repl n [f x]=(List.replicate n x).map f
 | 0=>rfl
 | n+1=>by
   have:=zv3 (f:=f) (x:=x) n
   unfold repl at this ⊢
   rw [List.replicate_succ,List.flatten_cons,this,List.replicate_succ,List.map_cons]
   rfl
end
end Den
end

section
namespace Den
open Go Iv Lx
section
variable {h : Hp} {g : TGraph} {es : List (Int × Int)} {S : PSk} {Kb : Bool → Hp → Prop}
end
theorem DCL.get {z:Int}:∀{l:List PCon} {q:List (Int×Int)},DCL z l q→∀{k:Nat} (h1:k<l.length) (h2:k<q.length),DC z l[k] q[k]
 | [],_,_,k,h1,_=>by simp at h1
 | a :: r,b :: q,h,0,_,_=>h.1
 | a :: r,b :: q,h,k+1,h1,h2=>DCL.get h.2 (by simpa using h1) (by simpa using h2)
 | a :: r,[],h,_,_,_=>h.elim
section
variable {h : Hp} {s : TSketch} {S : PSk} {Kb : Bool → Hp → Prop}
end
end Den
end

section
namespace Den
open Go Iv Lx
section
variable {h : Hp} {s : TSketch} {S : PSk} {g : TGraph} {es : List (Int × Int)} {l : Sl} {xs : List Int} {K : Bool → Hp → Prop}
end
end Den
end

section
namespace Den
open Go Iv Lx
section
variable {h : Hp} {s : TSketch} {S : PSk} {K : Bool → Hp → Prop}
end
end Den
end

section
namespace Den
open Go Iv Lx
section
variable {h : Hp} {s : TSketch} {S : PSk} {K : Bool → Hp → Prop} {Ks : Sl → Hp → Prop}
end
end Den
end

section
namespace Den
open Go Iv Lx
structure Full (S:PSk) (R:List Int):Prop where
 seq:SeqR S R
 all:∀x∈allS S,x∈R
def us (S:PSk) (R:List Int) (i:Nat):List Int:=remL (its S) (R.getD i 0) (R.take i)
theorem zmj {S:PSk} {R:List Int} {i:Nat} {c:Int} (h:c∈us S R i):∃k:Nat,k<(its S).length∧c=k∧keepP ((its S).getD k []) (R.getD i 0) (R.take i):=zon h
theorem za8j {S:PSk} {R:List Int} {i k:Nat} (hk:k<(its S).length) (h:keepP (its S)[k] (R.getD i 0) (R.take i)):(k:Int)∈us S R i:=
 zn7.2 ⟨k,hk,rfl,by rw [zbb hk]; exact h⟩
theorem zny {R:List Int} {i j:Nat} (hi:i<j) (hj:j≤R.length):R.getD i 0∈R.take j:=by
 have h1:i<(R.take j).length:=by rw [List.length_take]; omega
 have h2:(R.take j)[i]=R[i]:=List.getElem_take
 rw [zbb (by omega),←h2]; exact List.getElem_mem h1
theorem zxw {S:PSk} {R:List Int} {i j:Nat} {c:Int} (hj:j<R.length) (h1:c∈us S R i) (h2:c∈us S R j):¬i<j:=fun hlt=>by
 obtain ⟨k,k1,rfl,k2,k3⟩:=zmj h1
 obtain ⟨q,q1,q0,q2,q3⟩:=zmj h2
 have:k=q:=by omega
 subst this
 exact q3 _ k2 (zny hlt (by omega))
theorem zvk {S:PSk} {R:List Int} {i j:Nat} {c:Int} (hi:i<R.length) (hj:j<R.length) (h1:c∈us S R i) (h2:c∈us S R j):i=j:=by
 have:=zxw hj h1 h2
 have:=zxw hi h2 h1
 omega
theorem za75 {its:List (List Int)} {item:Int} {R:List Int} {k:Nat} {j:Int} (h:j∈remN its item R k):j<k:=by
 obtain ⟨i,h1,h2,_⟩:=zn7.1 h
 omega
theorem zkc {its:List (List Int)} {item:Int} {R:List Int}:∀k,(remN its item R k).Nodup
 | 0=>List.nodup_nil
 | k+1=>by
   unfold remN
   rw [List.nodup_append]
   refine ⟨zkc k,?_,fun a ha b hb=>?_⟩
   · split
     · exact List.nodup_cons.2 ⟨by simp,List.nodup_nil⟩
     · exact List.nodup_nil
   · have:=za75 ha
     split at hb
     · have:=List.mem_singleton.1 hb
       omega
     · cases hb
def usedN (S:PSk) (R:List Int):Nat→List Int
 | 0=>[]
 | j+1=>usedN S R j++us S R (R.length-1-j)
theorem zh3 {S:PSk} {R:List Int} {c:Int}:∀{j:Nat},j≤R.length→(c∈usedN S R j↔∃i,i<R.length∧R.length≤i+j∧c∈us S R i)
 | 0,_=>⟨(fun h=>by cases h),fun ⟨i,h1,h2,_⟩=>by omega⟩
 | j+1,hj=>by
   unfold usedN
   rw [List.mem_append,zh3 (by omega)]
   constructor
   · rintro (⟨i,h1,h2,h3⟩ | h)
     · exact ⟨i,h1,by omega,h3⟩
     · exact ⟨R.length-1-j,by omega,by omega,h⟩
   · rintro ⟨i,h1,h2,h3⟩
     rcases Nat.lt_or_ge (i+j) R.length with h4 | h4
     · right
       have:i=R.length-1-j:=by omega
       rw [←this]; exact h3
     · exact .inl ⟨i,h1,h4,h3⟩
theorem zpb {S:PSk} {R:List Int}:∀{j:Nat},j≤R.length→(usedN S R j).Nodup
 | 0,_=>List.nodup_nil
 | j+1,hj=>by
   unfold usedN
   rw [List.nodup_append]
   refine ⟨zpb (by omega),zkc _,fun a ha b hb=>?_⟩
   rintro rfl
   obtain ⟨i,h1,h2,h3⟩:=(zh3 (by omega)).1 ha
   have:=zvk h1 (show R.length-1-j<R.length by omega) h3 hb
   omega
theorem za5m {k:Int} (h:1≤k) (h2:k≤17):1≤(shK k).1+(shK k).2.1:=by
 have:∀i:Fin 17,1≤(shK ((i:Nat)+1:Int)).1+(shK ((i:Nat)+1:Int)).2.1:=by decide
 have:=this ⟨(k-1).toNat,by omega⟩
 rw [show (((⟨(k-1).toNat,by omega⟩:Fin 17):Nat)+1:Int)=k by simp; omega] at this
 exact this
theorem zyo {c:PCon} {cs:List Int} (h:lenC c):itemsC c cs≠[]:=by
 obtain ⟨h1,h2,h3,h4,_⟩:=h
 have h5:=za5m h3 h4
 unfold itemsC
 intro he
 obtain ⟨e1,e2⟩:=List.append_eq_nil_iff.1 he
 rw [e1,List.length_nil] at h1
 cases hc:c.cir with
 | nil=>rw [hc,List.length_nil] at h2; omega
 | cons a r=>
   rw [hc,List.flatMap_cons] at e2
   have:=(List.append_eq_nil_iff.1 e2).1
   unfold itK at this
   split at this<;>cases this
theorem Full.cover {S:PSk} {R:List Int} (h:Full S R) (hs:sSk S) (hv:VS S) {k:Nat} (hk:k<(its S).length):∃i,i<R.length∧(k:Int)∈us S R i:=by
 have hk':k<(allC S).length:=by rw [ze0] at hk; exact hk
 have hne:(its S)[k]≠[]:=by
  have e:(its S)[k]=itemsC (allC S)[k] (cens S):=by simp [its]
  rw [e]; exact zyo (zf5 hv hs _ (List.getElem_mem hk')).1.lenC
 obtain ⟨x,hx⟩:=List.exists_mem_of_ne_nil _ hne
 have hxR:=h.all x (zxf hs hv hk hx)
 have hlt:R.findIdx (fun y=>decide (y∈(its S)[k]))<R.length:=List.findIdx_lt_length_of_exists ⟨x,hxR,decide_eq_true hx⟩
 refine ⟨_,hlt,za8j hk ⟨?_,fun y hy hR=>?_⟩⟩
 · rw [zbb hlt]
   exact of_decide_eq_true (List.findIdx_getElem (w:=hlt))
 · obtain ⟨j,hj,rfl⟩:=List.mem_iff_getElem.1 hR
   rw [List.length_take] at hj
   have h2:=List.not_of_lt_findIdx (p:=fun y=>decide (y∈(its S)[k])) (show j<R.findIdx (fun y=>decide (y∈(its S)[k])) by omega)
   rw [List.getElem_take] at hy
   exact absurd (decide_eq_true hy) (by simpa using h2)
theorem Full.later {S:PSk} {R:List Int} (h:Full S R) (hs:sSk S) (hv:VS S) {i k:Nat} {x:Int} (hi:i<R.length) (hk:k<(its S).length) (hu:(k:Int)∈us S R i) (hx:x∈(its S)[k]):∃j,i≤j∧j<R.length∧R.getD j 0=x:=by
 obtain ⟨j,hj,rfl⟩:=List.mem_iff_getElem.1 (h.all x (zxf hs hv hk hx))
 refine ⟨j,?_,hj,zbb hj⟩
 rcases Nat.lt_or_ge j i with h1 | h1
 · obtain ⟨q,q1,q0,q2,q3⟩:=zmj hu
   have:k=q:=by omega
   subst this
   rw [zbb q1] at q3
   exact absurd (by rw [←zbb hj (d:=0)]; exact zny h1 (by omega)) (q3 _ hx)
 · exact h1
theorem SeqR.inj {S:PSk} {R:List Int} (h:SeqR S R) {i j:Nat} (hi:i<R.length) (hj:j<R.length) (he:R.getD i 0=R.getD j 0):i=j:=by
 have key:∀i j:Nat,i<j→j<R.length→R.getD i 0=R.getD j 0→False:=fun i j hlt hj he=>(h j hj).1.1 (he▸zny hlt (by omega))
 rcases Nat.lt_trichotomy i j with h1 | h1 | h1
 · exact (key i j h1 hj he).elim
 · exact h1
 · exact (key j i h1 hi he.symm).elim
theorem SeqR.nodup {S:PSk} {R:List Int} (h:SeqR S R):R.Nodup:=by
 rw [List.nodup_iff_pairwise_ne,List.pairwise_iff_getElem]
 intro i j hi hj hlt he
 have:=h.inj hi hj (by rw [zbb hi,zbb hj]; exact he)
 omega
theorem zy4 (n m:Nat):(allI n m).Nodup:=by
 unfold allI
 rw [List.nodup_append]
 refine ⟨?_,?_,fun a ha b hb=>?_⟩
 · exact List.Pairwise.map (R:=fun (a b:Nat)=>a≠b) _ (fun a b hab hh=>hab (by omega)) List.nodup_range
 · exact List.Pairwise.map (R:=fun (a b:Nat)=>a≠b) _ (fun a b hab hh=>hab (by omega)) List.nodup_range
 · obtain ⟨i,_,rfl⟩:=List.mem_map.1 ha
   obtain ⟨j,_,rfl⟩:=List.mem_map.1 hb
   omega
theorem Full.perm {S:PSk} {R:List Int} (h:Full S R):R.Perm (allS S):=
 (List.perm_ext_iff_of_nodup h.seq.nodup (zy4 _ _)).2 fun x=>⟨fun hx=>by
   obtain ⟨i,hi,rfl⟩:=List.mem_iff_getElem.1 hx
   have:=(h.seq i hi).2
   rwa [zbb hi] at this,h.all x⟩
theorem Full.len {S:PSk} {R:List Int} (h:Full S R):R.length=S.pts.length+S.cir.length:=by rw [h.perm.length_eq]; exact zt6
theorem Full.used {S:PSk} {R:List Int} (h:Full S R) (hs:sSk S) (hv:VS S):(usedN S R R.length).Perm ((List.range (its S).length).map fun i:Nat=>(i:Int)):=by
 refine (List.perm_ext_iff_of_nodup (zpb (Nat.le_refl _)) (List.Pairwise.map (R:=fun (a b:Nat)=>a≠b) _ (fun a b hab hh=>hab (by omega)) List.nodup_range)).2 fun x=>⟨fun hx=>?_,fun hx=>?_⟩
 · obtain ⟨i,_,_,h3⟩:=(zh3 (Nat.le_refl _)).1 hx
   obtain ⟨k,k1,rfl,_⟩:=zmj h3
   exact List.mem_map.2 ⟨k,List.mem_range.2 k1,rfl⟩
 · obtain ⟨k,k1,rfl⟩:=List.mem_map.1 hx
   obtain ⟨i,h1,h2⟩:=h.cover hs hv (List.mem_range.1 k1)
   exact (zh3 (Nat.le_refl _)).2 ⟨i,h1,by omega,h2⟩
theorem Full.used_len {S:PSk} {R:List Int} (h:Full S R) (hs:sSk S) (hv:VS S):(usedN S R R.length).length=(allC S).length:=by
 rw [(h.used hs hv).length_eq]; simp [its]
def eqT (S:PSk):Nat:=((allC S).map fun c=>eqK c.kind).sum
theorem za66 {L:List PCon} {l m:List Int} (h:l.Perm m):wtL L l=wtL L m:=(h.map _).sum_nat
theorem zxy {L:List PCon} {l m:List Int}:wtL L (l++m)=wtL L l+wtL L m:=by simp [wtL]
theorem zso {L:List PCon}:∀k,k≤L.length→wtL L ((List.range k).map fun i:Nat=>(i:Int))=((L.take k).map fun c=>eqK c.kind).sum
 | 0,_=>by simp [wtL]
 | k+1,hk=>by
   have hk':k<L.length:=by omega
   rw [List.range_succ,List.map_append,zxy,zso k (by omega),←List.take_append_getElem hk',List.map_append,List.sum_append]
   have e:L.getD ((k:Nat):Int).toNat dC=L[k]:=zbb hk'
   have e2:wtL L [((k:Nat):Int)]=eqK L[k].kind:=by
    unfold wtL
    rw [List.map_cons,e]; simp
   rw [show List.map (fun i:Nat=>(i:Int)) [k]=[((k:Nat):Int)] from rfl,e2]
   simp
theorem Full.wt {S:PSk} {R:List Int} (h:Full S R) (hs:sSk S) (hv:VS S):wtL (allC S) (usedN S R R.length)=eqT S:=by
 rw [za66 (h.used hs hv),ze0,zso _ (Nat.le_refl _),List.take_length]; rfl
def freeK (k:Int):Nat:=if k=1 then 2 else if k=2∨k=5 then 1 else 0
def stN (S:PSk) (R:List Int) (i:Nat):PStep:=stepP (allC S) (cens S) (R.getD i 0) (us S R i)
def freeN (S:PSk) (R:List Int):Nat→Nat
 | 0=>0
 | j+1=>freeN S R j+freeK (stN S R (R.length-1-j)).1
theorem us_in {S:PSk} (hs:sSk S) (hv:VS S) {R:List Int} {i:Nat} {c:Int} (hc:c∈us S R i):1≤eqK ((allC S).getD c.toNat dC).kind∧eqK ((allC S).getD c.toNat dC).kind≤2:=by
 obtain ⟨k,h1,rfl,_⟩:=zmj hc
 rw [ze0] at h1
 have h3:(allC S).getD ((k:Nat):Int).toNat dC=(allC S)[k]:=zbb h1
 rw [h3]
 have:=(zf5 hv hs _ (List.getElem_mem h1)).1.1
 exact ⟨zx7 this.1 this.2,znx _⟩
theorem zwx {L:List PCon} {cs:List Int} {X:Int} {u:List Int} (hw:wtL L u≤most X) (hin:∀c∈u,1≤eqK (L.getD c.toNat dC).kind∧eqK (L.getD c.toNat dC).kind≤2):freeK (stepP L cs X u).1+wtL L u=most X:=by
 have hl:u.length≤wtL L u:=zvp fun c hc=>(hin c hc).1
 unfold most at hw ⊢
 unfold stepP
 by_cases h0:X<0
 · rw [if_pos h0] at hw ⊢
   rw [if_pos h0]
   by_cases hu:u.length=0
   · have:u=[]:=List.eq_nil_of_length_eq_zero hu
     subst this
     simp [freeK,wtL]
   · rw [if_neg hu]
     show freeK 6+_=_
     have:freeK 6=0:=by decide
     omega
 · rw [if_neg h0] at hw ⊢
   rw [if_neg h0]
   by_cases hu:u.length=0
   · have:u=[]:=List.eq_nil_of_length_eq_zero hu
     subst this
     simp [freeK,wtL]
   · rw [if_neg hu]
     by_cases hu1:u.length=1
     · obtain ⟨a,rfl⟩:=List.length_eq_one_iff.1 hu1
       rw [if_pos hu1]
       have ha:=hin a (List.mem_cons_self ..)
       have e:wtL L [a]=eqK (L.getD a.toNat dC).kind:=by simp [wtL]
       have e0:([a]:List Int).getD 0 0=a:=rfl
       rw [e0,e]
       show freeK (if eqK (L.getD a.toNat dC).kind=2 then 4 else 2)+_=_
       by_cases h2:eqK (L.getD a.toNat dC).kind=2
       · rw [if_pos h2,h2]; decide
       · rw [if_neg h2]
         have:freeK 2=1:=by decide
         omega
     · rw [if_neg hu1]
       show freeK 3+_=_
       have:freeK 3=0:=by decide
       omega
theorem za3i {S:PSk} (hs:sSk S) (hv:VS S) {R:List Int} (h:SeqR S R) {i:Nat} (hi:i<R.length):freeK (stN S R i).1+wtL (allC S) (us S R i)=most (R.getD i 0):=
 zwx (h i hi).1.2.1 fun c hc=>us_in hs hv hc
def mostN (R:List Int):Nat→Nat
 | 0=>0
 | j+1=>mostN R j+most (R.getD (R.length-1-j) 0)
theorem zs5 {S:PSk} (hs:sSk S) (hv:VS S) {R:List Int} (h:SeqR S R):∀{j:Nat},j≤R.length→freeN S R j+wtL (allC S) (usedN S R j)=mostN R j
 | 0,_=>by simp [freeN,usedN,mostN,wtL]
 | j+1,hj=>by
   have h1:=zs5 hs hv h (j:=j) (by omega)
   have h2:=za3i hs hv h (show R.length-1-j<R.length by omega)
   unfold freeN usedN mostN
   rw [zxy]
   omega
theorem zqs {R:List Int}:∀{j:Nat},j≤R.length→mostN R j=((R.drop (R.length-j)).map most).sum
 | 0,_=>by simp [mostN]
 | j+1,hj=>by
   unfold mostN
   rw [zqs (by omega)]
   have hlt:R.length-(j+1)<R.length:=by omega
   rw [List.drop_eq_getElem_cons hlt,List.map_cons,List.sum_cons]
   have e1:R.length-1-j=R.length-(j+1):=by omega
   have e2:R.length-(j+1)+1=R.length-j:=by omega
   rw [e1,e2,zbb hlt]
   omega
theorem zoa {α:Type} {f:α→Nat} {k:Nat}:∀l:List α,(∀x∈l,f x=k)→(l.map f).sum=k*l.length
 | [],_=>by simp
 | a :: r,h=>by
   have:=zoa r fun x hx=>h x (List.mem_cons_of_mem _ hx)
   rw [List.map_cons,List.sum_cons,this,h a (List.mem_cons_self ..),List.length_cons,Nat.mul_succ]
   omega
theorem Full.free {S:PSk} {R:List Int} (h:Full S R) (hs:sSk S) (hv:VS S):freeN S R R.length+eqT S=2*S.pts.length+S.cir.length:=by
 rw [←h.wt hs hv,zs5 hs hv h.seq (Nat.le_refl _),zqs (Nat.le_refl _),Nat.sub_self,List.drop_zero,(h.perm.map _).sum_nat]
 unfold allS allI
 rw [List.map_append,List.sum_append,zoa (k:=2),zoa (k:=1)]
 · simp
 · intro x hx
   obtain ⟨i,_,rfl⟩:=List.mem_map.1 hx
   unfold most; rw [if_pos (by omega)]
 · intro x hx
   obtain ⟨i,_,rfl⟩:=List.mem_map.1 hx
   unfold most; rw [if_neg (by omega)]
theorem zse {S:PSk} (h:leftL (allS S) (peelS S (allS S))=[]):Full S (peelS S (allS S)):=
 ⟨za5k,fun x hx=>Classical.byContradiction fun hn=>by
  have:x∈leftL (allS S) (peelS S (allS S)):=List.mem_filter.2 ⟨hx,by simpa using hn⟩
  rw [h] at this; cases this⟩
theorem zlf {S:PSk} {R:List Int}:∀{k j:Nat},j<k→(planN S R k)[j]?=some (stN S R (k-1-j))
 | 0,j,h=>by omega
 | k+1,0,h=>rfl
 | k+1,j+1,h=>by
   unfold planN
   rw [List.getElem?_cons_succ,zlf (by omega)]
   congr 2; omega
end Den
end

section
namespace Den
open Go Iv Lx
def UT (h:Hp):Prop:=∀i:Nat,i<7→h.cell ((⟨0,0,none⟩:Addr).add i)=some (.int .i64 (([0,0,1,2,1,0,1]:List Int).getD i 0))
theorem UT.le {h h':Hp} (ht:UT h) (hl:h.le h'):UT h':=fun i hi=>Hp.cell_le hl (ht i hi)
def tt (l:List Int):List (Int×Bool):=l.map fun x=>(x,true)
theorem zrm {l:List Int} {k:Int}:mget (tt l) k=decide (k∈l):=by
 induction l with
 | nil=>rfl
 | cons a r ih=>
   unfold tt at ih ⊢
   rw [List.map_cons]
   unfold mget
   by_cases h:k=a
   · rw [decide_eq_true h,h]
     simp
   · rw [decide_eq_false h]
     simp only [cond_false,ih,List.mem_cons,h,false_or]
theorem zxh {l:List Int} {k:Int} (h:k∉l):mput (tt l) k true=tt (l++[k]):=by
 induction l with
 | nil=>rfl
 | cons a r ih=>
   rw [List.mem_cons,not_or] at h
   have ih:=ih h.2
   unfold tt at ih ⊢
   rw [List.map_cons,List.cons_append,List.map_cons]
   unfold mput
   rw [decide_eq_false h.1]
   simp only [cond_false,ih]
def ubL (n:Nat) (l:List Int):List Bool:=(List.range n).map fun c:Nat=>decide ((c:Int)∈l)
theorem zmi {n:Nat} {l:List Int}:(ubL n l).length=n:=by simp [ubL]
theorem zxv {n:Nat} {l:List Int} {k:Nat} (hk:k<(ubL n l).length):(ubL n l)[k]=decide ((k:Int)∈l):=by simp [ubL]
theorem za7e {n:Nat} {l:List Int} {k:Nat} (hk:k<n):(ubL n l).set k true=ubL n (l++[(k:Int)]):=by
 refine List.ext_getElem? fun i=>?_
 rw [List.getElem?_set,zmi]
 unfold ubL
 by_cases h:k=i
 · subst h
   simp [hk]
 · rw [if_neg h]
   rw [List.getElem?_map,List.getElem?_map]
   by_cases hi:i<n
   · rw [List.getElem?_range hi]
     simp only [Option.map_some,List.mem_append,List.mem_singleton]
     congr 2
     exact propext ⟨fun hh=>.inl hh,fun hh=>hh.elim id fun he=>absurd (by omega) h⟩
   · rw [List.getElem?_eq_none (by simpa using hi)]; rfl
section
variable {h : Hp} {s : TSketch} {S : PSk} {x : TStep} {item : Int} {u : List Int} {L : List PCon} {cs : List Int} {l ce : Sl} {Kb : Bool → Hp → Prop} {Ki : Int → Hp → Prop} {Ks : Sl → Hp → Prop}
theorem zp7 {k:Int} (H:Kb (decide (k=5∨k=6)) h):callP (F.zie k) Kb h:=by
 refine zah _ (fun K' hk=>?_) H
 unfold F.zie
 refine zaa (fun e=>?_) (fun e=>?_)
 · rw [decide_eq_true (.inl e)] at hk; exact hk
 · have:(k==6)=decide (k=5∨k=6):=by
    by_cases h6:k=6
    · rw [decide_eq_true (.inr h6)]; simpa using h6
    · rw [decide_eq_false (by rintro (hh | hh); exact e hh; exact h6 hh)]; simpa using h6
   rw [this]; exact hk
theorem zjl:(stepP L cs item u).1=5∨(stepP L cs item u).1=6↔item<0:=by
 unfold stepP
 by_cases h0:item<0
 · simp only [h0,if_true,iff_true]
   split<;>simp
 · simp only [h0,if_false,iff_false]
   split
   · simp
   · split
     · simp only; split<;>simp
     · simp
theorem zin:(stepP L cs item u).2.1=if item<0 then -1-item else item:=by
 unfold stepP
 split
 · rfl
 · split
   · rfl
   · split<;>rfl
theorem zio:(stepP L cs item u).2.2.1=u:=by
 unfold stepP
 split
 · rfl
 · split
   · rfl
   · split<;>rfl
theorem zmz (hx:STP h x (stepP L cs item u)) (hi:smI item) (H:Ki item h):callP (F.zi4 x) Ki h:=by
 refine zah _ (fun K' hk=>?_) H
 unfold F.zi4
 refine zp7 ?_
 have e1:x.kind=5∨x.kind=6↔item<0:=by rw [hx.1]; exact zjl
 have e2:x.target=if item<0 then -1-item else item:=by rw [hx.2.1]; exact zin
 unfold smI at hi
 refine za0 (fun h1=>?_) (fun h1=>?_)
 · have h2:=e1.1 h1
   rw [if_pos h2] at e2
   have:IntKind.i64.wrap (-1-x.target)=item:=by rw [e2,w64 (by omega)]; omega
   show K' (IntKind.i64.wrap ((-1)-x.target)) h
   rw [this]; exact hk
 · rw [if_neg fun hh=>h1 (e1.2 hh)] at e2
   rw [e2]; exact hk
theorem zuu (hx:STP h x (stepP L cs item u)) (hul:u.length≤most item) (hT:UT h) (H:Kb true h):callP (F.zjh x) Kb h:=by
 refine zah _ (fun K' hk=>?_) H
 unfold F.zjh
 obtain ⟨x1,x2,x3,x4⟩:=hx
 have xl:=x3.len
 rw [zio] at xl
 refine za3 (fun _ h'=>h'=h) ?_ ?_
 · rintro _ _ rfl
   have hb:x.branch=0∨(x.kind=3∧x.branch=1):=by
    rw [x1,x4]
    unfold stepP
    split
    · exact .inl rfl
    · split
      · exact .inl rfl
      · split
        · exact .inl rfl
        · simp only
          split
          · exact .inl rfl
          · exact .inr ⟨by trivial,by trivial⟩
   refine zaa (fun _=>hk) (fun e=>?_)
   rcases hb with hb | ⟨h3,h1⟩
   · exact absurd hb e
   · exact zaa (fun _=>zaa (fun _=>hk) (fun hh=>absurd h1 hh)) (fun hh=>absurd h3 hh)
 · have hkd:∃k:Nat,x.kind=(k:Int)∧1≤k∧k≤6∧((x.uses.len:Int))=([0,0,1,2,1,0,1]:List Int).getD k 0:=by
    rw [x1,xl]
    unfold most at hul
    unfold stepP
    by_cases h0:item<0
    · rw [if_pos h0] at hul ⊢
      by_cases hu:u.length=0
      · simp only [hu,if_true]; exact ⟨5,rfl,by decide,by decide,rfl⟩
      · have:u.length=1:=by omega
        simp only [this]; exact ⟨6,rfl,by decide,by decide,rfl⟩
    · rw [if_neg h0] at hul ⊢
      by_cases hu:u.length=0
      · simp only [hu,if_true]; exact ⟨1,rfl,by decide,by decide,rfl⟩
      · by_cases hu1:u.length=1
        · simp only [hu1,if_true]
          by_cases h2:eqK (L.getD (u.getD 0 0).toNat dC).kind=2
          · simp only [h2,if_true]; exact ⟨4,rfl,by decide,by decide,rfl⟩
          · simp only [h2,if_false]; exact ⟨2,rfl,by decide,by decide,rfl⟩
        · have:u.length=2:=by omega
          simp only [this]; exact ⟨3,rfl,by decide,by decide,rfl⟩
   obtain ⟨k,e,k1,k6,e2⟩:=hkd
   rw [e]
   have hc:h.cell ((⟨0,0,none⟩:Addr).add (((k:Nat):Int).toNat*1))=some (.int .i64 (([0,0,1,2,1,0,1]:List Int).getD k 0)):=by
    have:=hT k (by omega)
    rw [show ((k:Nat):Int).toNat*1=k by simp]
    exact this
   refine za0 (fun hh=>absurd hh (by omega)) (fun _=>za0 (fun hh=>absurd hh (by omega)) (fun _=>zrj (by omega) (by omega) ⟨([0,0,1,2,1,0,1]:List Int).getD k 0,hc,?_⟩))
   exact zb7 (fun hh=>absurd e2 hh) (fun _=>rfl)
theorem zwn (hx:STP h x (stepP L cs item u)) (hl:LR cc 5 CO h l L) (hc:IL h ce cs) (hin:∀i∈u,∃k:Nat,k<L.length∧i=k) (hok:∀c∈L,sC c∧cirOk c cs∧lenC c) (hul:u.length≤most item) (hw:wtL L u≤most item) (hsu:∀i∈u,suitP (L.getD i.toNat dC) cs item)
 (hge:∀i∈u,1≤eqK (L.getD i.toNat dC).kind) (H:∀h',h.le h'→Kb true h'):callP (F.zk5 x l ce) Kb h:=by
 refine za1 (fun b h'=>b=true) (fun K' hk=>?_) fun b h' hl hb=>by subst hb; exact H h' hl
 unfold F.zk5
 obtain ⟨x1,x2,x3,x4⟩:=hx
 have xl:=x3.len
 rw [zio] at x3 xl
 have m2:most item≤2:=by unfold most; split<;>omega
 refine zaa (fun e6=>?_) (fun e6=>?_)
 ·
  have h0:item<0:=zjl.1 (.inr (x1▸e6))
  have hu:u.length≠0:=fun hh=>by
   rw [x1] at e6
   unfold stepP at e6
   rw [if_pos h0,if_pos hh] at e6
   exact absurd (show (5:Int)=6 from e6) (by decide)
  have hu0:0<u.length:=by omega
  obtain ⟨k,hk1,hk2⟩:=hin _ (List.getElem_mem hu0)
  refine x3.get 0 rfl hu0 ?_
  rw [hk2]
  refine hl.get zad k rfl hk1 fun a y hy hcy=>⟨_,hcy 0 _ rfl,_,hcy 1 _ rfl,_,hcy 2 _ rfl,_,hcy 3 _ rfl,_,hcy 4 _ rfl,?_⟩
  obtain ⟨o1,o2,o3⟩:=hok _ (List.getElem_mem hk1)
  refine zq4 (x:=y) (k:=x.target) hy hc o1 o2 o3 fun b h1 hl1 hb=>hk _ _ hl1 ?_
  have hs:=hsu _ (List.getElem_mem hu0)
  rw [hk2,show ((k:Nat):Int).toNat=k from rfl,zbb hk1] at hs
  unfold suitP at hs
  rw [if_pos h0] at hs
  have ht:x.target=-1-item:=by rw [x2,zin,if_pos h0]
  rw [ht] at hb
  exact hb.2 hs
 · let ln:=fun q:Nat=>(u.take q).countP fun i=>decide (kindP (L.getD i.toNat dC) cs item=1)
   refine zbz (n:=u.length) (by omega) (fun q a h'=>h.le h'∧a=((ln q:Nat):Int)) ⟨Hp.le_refl _,rfl⟩ ?_
   rintro q a h1 hq ⟨hl1,rfl⟩ k hk2
   refine za0 (fun h2=>?_) (fun h2=>?_)
   · have hq':q<u.length:=by simp only at h2; omega
     have h0:¬item<0:=fun hh=>by
      have:x.kind=5:=by
       rcases zjl.2 hh with g | g
       · rw [x1]; exact g
       · exact absurd (x1.trans g) e6
      rw [x1] at this
      unfold stepP at this
      rw [if_pos hh] at this
      have hul0:u.length≠0:=by omega
      rw [if_neg hul0] at this
      exact absurd (show (6:Int)=5 from this) (by decide)
     have ht:x.target=item:=by rw [x2,zin,if_neg h0]
     have hlq:ln q≤q:=by
      refine Nat.le_trans List.countP_le_length ?_
      rw [List.length_take]; omega
     obtain ⟨j,hj1,hj2⟩:=hin _ (List.getElem_mem hq')
     refine za3 (fun st h'=>h.le h'∧st.1=((ln (q+1):Nat):Int)) (fun st h' hst=>hk2 _ _ hq' hst) ?_
     refine (x3.le hl1).get q rfl hq' ?_
     rw [hj2]
     refine (hl.le zad hl1).get zad j rfl hj1 fun a y hy hcy=>⟨_,hcy 0 _ rfl,_,hcy 1 _ rfl,_,hcy 2 _ rfl,_,hcy 3 _ rfl,_,hcy 4 _ rfl,?_⟩
     obtain ⟨o1,o2,o3⟩:=hok _ (List.getElem_mem hj1)
     have hg:L.getD ((j:Nat):Int).toNat dC=L[j]:=zbb hj1
     have hs:=hsu _ (List.getElem_mem hq')
     have hge1:=hge _ (List.getElem_mem hq')
     rw [hj2,hg] at hs hge1
     unfold suitP at hs
     rw [if_neg h0] at hs
     refine zrx (x:=y) (t:=x.target) hy (hc.le hl1) o1 o2 o3 fun h3 hl3=>?_
     rw [ht]
     have l3:=Hp.le_trans hl1 hl3
     have hst:ln (q+1)=ln q+(if kindP L[j] cs item=1 then 1 else 0):=by
      show List.countP _ (u.take (q+1))=_
      rw [←List.take_append_getElem hq',List.countP_append,List.countP_singleton,hj2,hg]
      simp only [decide_eq_true_iff]
      rfl
     have hkk:(x.kind=4∧kindP L[j] cs item=3)∨(x.kind≠4∧(kindP L[j] cs item=1∨kindP L[j] cs item=2)):=by
      have hul0:u.length≠0:=by omega
      by_cases hu1:u.length=1
      · have hq0:q=0:=by omega
        subst hq0
        have hu0:u.getD 0 0=(j:Int):=by rw [zbb hq',hj2]
        have hkd:x.kind=if eqK L[j].kind=2 then 4 else 2:=by
         rw [x1]
         unfold stepP
         rw [if_neg h0,if_neg hul0,if_pos hu1,hu0,hg]
        by_cases h2:eqK L[j].kind=2
        · rw [if_pos h2] at hs hkd; exact .inl ⟨hkd,hs⟩
        · rw [if_neg h2] at hs hkd; exact .inr ⟨by rw [hkd]; decide,hs⟩
      · have hkd:x.kind=3:=by
         rw [x1]
         unfold stepP
         rw [if_neg h0,if_neg hul0,if_neg hu1]
        have h2:eqK L[j].kind≠2:=fun hh=>by
         have hu2:u.length=2:=by omega
         obtain ⟨p,r,hpr⟩:∃p r,u=[p,r]:=by
          match u,hu2 with
          | [p,r],_=>exact ⟨p,r,rfl⟩
         have hp:=hge p (by rw [hpr]; simp)
         have hr:=hge r (by rw [hpr]; simp)
         have hw2:eqK (L.getD p.toNat dC).kind+eqK (L.getD r.toNat dC).kind≤2:=by
          have:wtL L u=eqK (L.getD p.toNat dC).kind+eqK (L.getD r.toNat dC).kind:=by rw [hpr]; simp [wtL]
          omega
         have hmem:(j:Int)=p∨(j:Int)=r:=by
          have:=List.getElem_mem hq'
          rw [hj2] at this
          rw [hpr] at this
          simpa using this
         rcases hmem with e | e
         · rw [←e,hg] at hw2; rw [hh] at hw2; omega
         · rw [←e,hg] at hw2; rw [hh] at hw2; omega
        rw [if_neg h2] at hs
        exact .inr ⟨by rw [hkd]; decide,hs⟩
     refine za3 (fun st h'=>h'=h3∧st.1=false) ?_ ?_
     · rintro ⟨b,_⟩ h4 ⟨rfl,hb⟩
       simp only at hb
       subst hb
       refine zal rfl (zaa (fun e1=>⟨l3,?_⟩) (fun e1=>⟨l3,?_⟩))
       · show IntKind.i64.wrap (((ln q:Nat):Int)+1)=_
         rw [hst,if_pos e1,w64 (by omega)]; rfl
       · show ((ln q:Nat):Int)=_
         rw [hst,if_neg e1]; rfl
     · rcases hkk with ⟨g1,g2⟩ | ⟨g1,g2⟩
       · refine zaa (fun _=>?_) (fun hh=>absurd g1 hh)
         refine zb7 (fun hh=>absurd g2 hh) (fun _=>?_)
         exact zb7 (fun hh=>absurd g1 hh) (fun _=>⟨rfl,rfl⟩)
       · refine zaa (fun hh=>absurd hh g1) (fun _=>?_)
         refine zb7 (fun _=>?_) (fun hh=>absurd hh g1)
         refine zb7 (fun hh=>⟨rfl,?_⟩) (fun _=>⟨rfl,rfl⟩)
         rcases g2 with g2 | g2
         · exact absurd g2 hh
         · simp [g2]
   · have:q=u.length:=by simp only at h2; omega
     subst this
     refine zb7 (fun _=>hk _ _ hl1 rfl) (fun e3=>hk _ _ hl1 ?_)
     rw [x1] at e3
     rw [x4]
     have hst:ln u.length=u.countP fun i=>decide (kindP (L.getD i.toNat dC) cs item=1):=by
      show List.countP _ (u.take u.length)=_
      rw [List.take_length]
     rw [hst]
     unfold stepP at e3 ⊢
     have h0:¬item<0:=fun h0=>by
      rw [if_pos h0] at e3
      split at e3
      · exact absurd (show (5:Int)=3 from e3) (by decide)
      · exact absurd (show (6:Int)=3 from e3) (by decide)
     rw [if_neg h0] at e3 ⊢
     have hu0:¬u.length=0:=fun hu0=>by
      rw [if_pos hu0] at e3
      exact absurd (show (1:Int)=3 from e3) (by decide)
     rw [if_neg hu0] at e3 ⊢
     have hu1:¬u.length=1:=fun hu1=>by
      rw [if_pos hu1] at e3
      simp only at e3
      split at e3<;>exact absurd e3 (by decide)
     rw [if_neg hu1]
     have hu2:u.length=2:=by omega
     obtain ⟨p,r,hpr⟩:∃p r,u=[p,r]:=by
      match u,hu2 with
      | [p,r],_=>exact ⟨p,r,rfl⟩
     rw [hpr]
     have q0:([p,r]:List Int).getD 0 0=p:=rfl
     have q1:([p,r]:List Int).getD 1 0=r:=rfl
     rw [q0,q1,List.countP_cons,List.countP_cons,List.countP_nil]
     generalize kindP (L.getD p.toNat dC) cs item=A
     generalize kindP (L.getD r.toNat dC) cs item=B
     by_cases g1:A=1<;>by_cases g2:B=1<;>simp [g1,g2]
theorem zsv (hx:SK h s S) (hs:sSk S) (H:∀y h',h.le h'→OI h h' y (cens S)→Ks y h'):callP (F.zky s) Ks h:=zsp hx hs H
theorem zwk {y:TConstraint} {c:PCon} (hx:CO h y c) (hc:IL h ce cs) (hs:sC c) (hok:cirOk c cs) (hcl:cs.length≤1000) (H:∀y h',h.le h'→OI h h' y (itemsC c cs)→Ks y h'):callP (F.zn2 y ce) Ks h:=zw2 hx hc hs hok hcl H
theorem zuw (hx:SK h s S) (hv:VS S) (hs:sSk S) (H:∀y h',h.le h'→LR cc 5 CO h' y (allC S)→Ks y h'):callP (F.zn1 s) Ks h:=by
 refine za1 (fun y h'=>LR cc 5 CO h' y (allC S)) (fun K' hk=>?_) fun b h' hl hb=>H b h' hl hb
 unfold F.zn1
 have s6:=hs.2.2.2.2.2.1
 have hi:=zoh S
 have s4:=hs.2.2.2.1
 refine znl hx hv hs fun r1 h1 hl1 hr1=>?_
 refine zuj (cells:=[Lf.sl.up s.constraints,Lf.sl.up r1]) 1 2 rfl fun p2 h2 hl2 hp2=>?_
 exact zor ((hx.le (Hp.le_trans hl1 hl2)).2.2.2.2.2) (hr1.le zad hl2) (by omega) hp2 fun lS h3 hl3 hL=>hk _ _ (Hp.le_trans hl1 (Hp.le_trans hl2 hl3)) hL
def knownL (R:List Int) (i:Nat):List Int:=(R.drop (R.length-i)).reverse
theorem zwf {R:List Int} {i:Nat} (hi:i<R.length):knownL R (i+1)=knownL R i++[R.getD (R.length-1-i) 0]:=by
 unfold knownL
 have h1:R.length-(i+1)<R.length:=by omega
 rw [List.drop_eq_getElem_cons h1,List.reverse_cons]
 have e1:R.length-(i+1)+1=R.length-i:=by omega
 have e2:R.length-1-i=R.length-(i+1):=by omega
 rw [e1,e2,zbb h1]
theorem zqr {S:PSk} {R:List Int} (h:SeqR S R) {i j:Nat} (hi:i≤R.length) (hj:j<R.length):R.getD j 0∈knownL R i↔R.length-i≤j:=by
 unfold knownL
 rw [List.mem_reverse]
 constructor
 · intro hm
   obtain ⟨k,hk,e⟩:=List.mem_iff_getElem.1 hm
   rw [List.length_drop] at hk
   rw [List.getElem_drop] at e
   have:=h.inj (i:=R.length-i+k) (j:=j) (by omega) hj (by rw [zbb (show R.length-i+k<R.length by omega)]; exact e)
   omega
 · intro hle
   refine List.mem_iff_getElem.2 ⟨j-(R.length-i),by rw [List.length_drop]; omega,?_⟩
   rw [List.getElem_drop,zbb hj]
   congr 1; omega
theorem zwl {p:TPlan} (hx:SK h s S) (hs:sSk S) (hv:VS S) (ht:GT h) (hT:UT h) (hleft:leftL (allS S) (peelS S (allS S))=[]) (hp:LR stc 4 STP h p.steps (planS S)) (hch:p.checks=nilS) (H:∀h',h.le h'→Kb true h'):callP (F.zk4 s p) Kb h:=by
 refine za1 (fun b h'=>b=true) (fun K' hk=>?_) fun b h' hl hb=>by subst hb; exact H h' hl
 unfold F.zk4
 have hf:=zse hleft
 obtain ⟨R,hR⟩:∃R,R=peelS S (allS S):=⟨_,rfl⟩
 rw [←hR] at hf
 have hplan:planS S=planN S R R.length:=by rw [hR]; rfl
 have hRl:R.length≤20:=by rw [hR]; exact zpu hs
 have hpl:(planS S).length=R.length:=by rw [hplan]; exact zd8 _
 have hn:=hf.len
 have s1:=hs.1
 have s2:=hs.2.1
 refine za3 (fun _ h'=>h.le h') ?_ ?_
 rotate_left
 · refine zp9 hx hs ht fun r h1 hl1 hr=>?_
   have hr0:=hr.2 hv
   subst hr0
   refine zb7 (fun hh=>absurd rfl hh) (fun _=>?_)
   have e1:=hp.len zcf
   have e2:=hx.1.len zcs
   have e3:=hx.2.1.len zdw
   rw [w64 (by omega)]
   exact zb7 (fun hh=>absurd (by omega) hh) (fun _=>hl1)
 · intro _ h1 hl1
   refine zuw (hx.le hl1) hv hs fun r3 h2 hl2 hL=>?_
   have hle2:=Hp.le_trans hl1 hl2
   refine zsv (hx.le hle2) hs fun r4 h3 hl3 hC=>?_
   have hle3:=Hp.le_trans hle2 hl3
   have hal:=zis hs
   have hok:=zf5 hv hs
   have hcc:=zkq (S:=S)
   have hL:=hL.le zad hl3
   have nL:=hL.len zad
   have hCi:=hC.il
   have hx3:=hx.le hle3
   have hp3:=hp.le zcf hle3
   have ht3:=ht.le hle3
   have hT3:=hT.le hle3
   have npl:=hp3.len zcf
   have hokL:∀c∈allC S,sC c∧cirOk c (cens S)∧lenC c:=fun c hc=>⟨(hok c hc).2,(hok c hc).1.cirOk,(hok c hc).1.lenC⟩
   refine za2o (l:=(allC S).length) (c:=(allC S).length) (size:=1) (by rw [nL]) (by rw [nL]) (Nat.le_refl _) (by omega) (by omega) rfl fun m5 h4 m5l m5c ho4=>?_
   have ho4:OB h3 h4 m5 (ubL (allC S).length []):=by
    have e:ubL (allC S).length []=List.replicate (allC S).length false:=by
     unfold ubL
     refine List.ext_getElem? fun i=>?_
     rw [List.getElem?_map,List.getElem?_replicate]
     by_cases hi:i<(allC S).length
     · rw [List.getElem?_range hi,if_pos hi]; rfl
     · rw [List.getElem?_eq_none (by simpa using hi),if_neg hi]; rfl
    unfold OB
    rw [e,←zv3 (f:=bc) (x:=false)]
    exact ho4
   refine zbz (n:=R.length) (by omega) (fun i M h'=>∃D,h3.le D∧OB D h' m5 (ubL (allC S).length (usedN S R i))∧M=tt (knownL R i)) ⟨h3,Hp.le_refl _,ho4,by unfold knownL; simp [tt]⟩ ?_
   rintro i M h5 hi ⟨D,hD,ho,rfl⟩ k hk2
   have l35:h3.le h5:=Hp.le_trans hD ho.1
   refine za0 (fun h6=>?_) (fun h6=>?_)
   · have hi':i<R.length:=by simp only at h6; omega
     obtain ⟨m,hm⟩:∃m,m=R.length-1-i:=⟨_,rfl⟩
     have hmR:m<R.length:=by omega
     obtain ⟨X,hX⟩:∃X,X=R.getD m 0:=⟨_,rfl⟩
     obtain ⟨u,hu⟩:∃u,u=us S R m:=⟨_,rfl⟩
     have hget:(planS S)[i]'(by omega)=stepP (allC S) (cens S) X u:=by
      have h7:(planS S)[i]?=some (stN S R (R.length-1-i)):=by rw [hplan]; exact zlf hi'
      rw [List.getElem?_eq_getElem (by omega)] at h7
      rw [Option.some.inj h7,hX,hu,←hm]
      rfl
     have hcan:=(hf.seq m hmR).1
     have hXa:=(hf.seq m hmR).2
     rw [←hX] at hcan hXa
     have hsm:=zrb hs hXa
     have hul:u.length≤most X:=by rw [hu,hX]; exact zrc hs hv (hf.seq m hmR).1
     have hw:wtL (allC S) u≤most X:=by rw [hu]; show wtL (allC S) (us S R m)≤_; unfold us; rw [←hX]; exact hcan.2.1
     have hin:∀c∈u,∃k:Nat,k<(allC S).length∧c=k:=fun c hc=>by
      rw [hu] at hc
      obtain ⟨k,k1,k2,_⟩:=zmj hc
      rw [ze0] at k1
      exact ⟨k,k1,k2⟩
     have hsu:∀c∈u,suitP ((allC S).getD c.toNat dC) (cens S) X:=fun c hc=>hcan.2.2 c (by rw [hu] at hc; unfold us at hc; rw [←hX] at hc; exact hc)
     have hge:∀c∈u,1≤eqK ((allC S).getD c.toNat dC).kind:=fun c hc=>(us_in hs hv (R:=R) (i:=m) (by rw [←hu]; exact hc)).1
     have m2:most X≤2:=by unfold most; split<;>omega
     have hnew:X∉knownL R i:=fun hh=>by
      have:=(zqr hf.seq (by omega) hmR).1 (hX▸hh)
      omega
     refine (hp3.le zcf hD).get zcf i rfl (by omega) fun a x hxD hcx=>⟨_,Hp.cell_le ho.1 (hcx 0 _ rfl),_,Hp.cell_le ho.1 (hcx 1 _ rfl),_,Hp.cell_le ho.1 (hcx 2 _ rfl),_,Hp.cell_le ho.1 (hcx 3 _ rfl),?_⟩
     rw [hget] at hxD
     have hxx:STP h5 x (stepP (allC S) (cens S) X u):=zcf.mono hxD ho.1
     have hxl:=hxx.2.2.1.len
     rw [zio] at hxl
     have hxu:=hxD.2.2.1
     rw [zio] at hxu
     refine za3 (fun st h'=>h'=h5∧st.1=if X<0 then (S.cir.length:Int) else S.pts.length) ?_ ?_
     rotate_left
     · refine zp7 ?_
       have e2:=hx3.1.len zcs
       have e3:=hx3.2.1.len zdw
       have e1:x.kind=5∨x.kind=6↔X<0:=by rw [hxx.1]; exact zjl
       refine za0 (fun hh=>⟨rfl,?_⟩) (fun hh=>⟨rfl,?_⟩)
       · rw [if_pos (e1.1 hh)]; show (s.circles.len:Int)=_; rw [e3]
       · rw [if_neg fun g=>hh (e1.2 g)]; show (s.points.len:Int)=_; rw [e2]
     · rintro ⟨mo,_⟩ h5 ⟨rfl,hmo⟩
       simp only at hmo
       subst hmo
       refine za3 (fun _ h'=>h'=h5) ?_ ?_
       rotate_left
       · refine zuu (x:=x) hxx hul (hT3.le l35) (zal rfl ?_)
         have htg:x.target=if X<0 then -1-X else X:=by rw [hxx.2.1]; exact zin
         have hX2:=zpq.1 (show X∈allI S.pts.length S.cir.length from hXa)
         refine za0 (fun hh=>?_) (fun _=>za0 (fun hh=>?_) (fun _=>?_))
         · have hh:x.target<0:=hh
           rw [htg] at hh
           split at hh<;>omega
         · have hh:x.target≥if X<0 then (S.cir.length:Int) else S.pts.length:=hh
           rw [htg] at hh
           split at hh<;>omega
         · refine zmz (x:=x) hxx hsm ?_
           rw [zrm,decide_eq_false hnew]
           exact zal rfl rfl
       · rintro _ h5 rfl
         refine zd0 (n:=u.length) (by omega) (fun q h'=>∃D',D.le D'∧OB D' h' m5 (ubL (allC S).length (usedN S R i++u.take q))) ⟨D,Hp.le_refl _,by rw [List.take_zero,List.append_nil]; exact ho⟩ ?_
         rintro q h7 hq ⟨D1,hD1,ho7⟩ k3 hk3
         have l3D1:=Hp.le_trans hD hD1
         refine za0 (fun h8=>?_) (fun h8=>?_)
         · have hq':q<u.length:=by have:(q:Int)<(x.uses.len:Int):=h8; omega
           obtain ⟨j,hj1,hj2⟩:=hin _ (List.getElem_mem hq')
           have hjn:(j:Int)∉usedN S R i++u.take q:=fun hh=>by
            rw [List.mem_append] at hh
            have hju:(j:Int)∈us S R m:=by rw [←hu,←hj2]; exact List.getElem_mem hq'
            rcases hh with hh | hh
            · obtain ⟨z,z1,z2,z3⟩:=(zh3 (by omega)).1 hh
              have:=zvk z1 hmR z3 hju
              omega
            · obtain ⟨z,z1,z2⟩:=List.mem_iff_getElem.1 hh
              rw [List.length_take] at z1
              rw [List.getElem_take,←hj2] at z2
              have hnd:u.Nodup:=by rw [hu]; exact zkc _
              have:=(List.getElem_inj hnd).1 z2
              omega
           refine (hxu.le (Hp.le_trans hD1 ho7.1)).get q rfl hq' ?_
           rw [hj2]
           refine za3 (fun _ h'=>h'=h7) ?_ ?_
           rotate_left
           · refine za0 (fun hh=>absurd (show (j:Int)<0 from hh) (by omega)) (fun _=>za0 (fun hh=>?_) (fun _=>?_))
             · have hh:(j:Int)≥(r3.len:Int):=hh
               omega
             · refine ho7.get j rfl (by rw [zmi]; exact hj1) ?_
               rw [zxv,decide_eq_false hjn]
               exact zal rfl rfl
           · rintro _ h7 rfl
             refine ho7.set j rfl (by rw [zmi]; exact hj1) fun h10 ho10 _=>?_
             rw [za7e hj1,List.append_assoc,←hj2,List.take_append_getElem hq'] at ho10
             refine (hL.le zad l3D1).get zad j rfl hj1 fun a21 y hy hcy=>⟨_,Hp.cell_le ho10.1 (hcy 0 _ rfl),_,Hp.cell_le ho10.1 (hcy 1 _ rfl),_,Hp.cell_le ho10.1 (hcy 2 _ rfl),_,Hp.cell_le ho10.1 (hcy 3 _ rfl),_,Hp.cell_le ho10.1 (hcy 4 _ rfl),?_⟩
             obtain ⟨o1,o2,o3⟩:=hokL _ (List.getElem_mem hj1)
             refine ho10.call (K1:=fun v h'=>IL h' v (itemsC (allC S)[j] (cens S))) (zwk (y:=y) hy (hCi.le l3D1) o1 o2 (by omega) fun v h' _ hv=>hv.il) fun r23 D2 h11 hD2 ho11 hr23=>?_
             have hr23:=hr23.le ho11.1
             have hilen:=zql (cs:=cens S) o1
             have hrl:=hr23.len
             refine zd0 (n:=(itemsC (allC S)[j] (cens S)).length) (by omega) (fun _ h'=>h'=h11) rfl ?_
             rintro z h11 hz rfl k4 hk4
             refine za0 (fun h12=>?_) (fun h12=>?_)
             · have hz':z<(itemsC (allC S)[j] (cens S)).length:=by have:(z:Int)<(r23.len:Int):=h12; omega
               refine za3 (fun _ h'=>h'=h11) (fun _ h' hh=>hk4 _ hz' hh) ?_
               refine hr23.get z rfl hz' ?_
               refine zmz (x:=x) (zcf.mono hxD (Hp.le_trans hD1 (Hp.le_trans hD2 ho11.1))) hsm ?_
               refine zb7 (fun hne=>?_) (fun _=>rfl)
               have hits:(its S)[j]'(by rw [ze0]; exact hj1)=itemsC (allC S)[j] (cens S):=by simp [its]
               obtain ⟨w,w1,w2,w3⟩:=hf.later hs hv (k:=j) (x:=(itemsC (allC S)[j] (cens S))[z]) hmR (by rw [ze0]; exact hj1) (by rw [←hu,←hj2]; exact List.getElem_mem hq') (by rw [hits]; exact List.getElem_mem hz')
               have hwm:w≠m:=fun hh=>hne (by rw [←w3,hh,←hX])
               have hkn:(itemsC (allC S)[j] (cens S))[z]∈knownL R i:=by
                rw [←w3]
                exact (zqr hf.seq (by omega) w2).2 (by omega)
               rw [zrm,decide_eq_true hkn]
               exact zal rfl rfl
             · exact hk3 _ hq' ⟨D2,Hp.le_trans hD1 hD2,ho11⟩
         · have:q=u.length:=by have:¬(q:Int)<(x.uses.len:Int):=h8; omega
           subst this
           rw [List.take_length] at ho7
           have hus:usedN S R (i+1)=usedN S R i++u:=by
            show usedN S R i++us S R (R.length-1-i)=_
            rw [←hm,←hu]
           rw [←hus] at ho7
           refine ho7.call (K1:=fun v _=>v=true) (zwn (x:=x) (zcf.mono hxD hD1) (hL.le zad l3D1) (hCi.le l3D1) hin hokL hul hw hsu hge fun _ _=>rfl) fun r33 D2 h11 hD2 ho11 hr33=>?_
           subst hr33
           refine zal rfl ?_
           refine zmz (x:=x) (zcf.mono hxD (Hp.le_trans hD1 (Hp.le_trans hD2 ho11.1))) hsm ?_
           rw [zxh hnew]
           refine hk2 _ _ hi' ⟨D2,Hp.le_trans hD (Hp.le_trans hD1 hD2),ho11,?_⟩
           rw [zwf hi',←hm,←hX]
   · have:i=R.length:=by simp only at h6; omega
     subst this
     have m5n:=ho.len
     rw [zmi] at m5n
     refine zbz (n:=(allC S).length) (by omega) (fun j y h'=>h'=h5∧y=nilS) ⟨rfl,rfl⟩ ?_
     rintro j _ h5 hj ⟨rfl,rfl⟩ k3 hk3
     refine za0 (fun h8=>?_) (fun h8=>?_)
     · have hj':j<(allC S).length:=by have:(j:Int)<(m5.len:Int):=h8; omega
       refine za3 (fun st h'=>h'=h5∧st.1=nilS) (fun st h' hh=>hk3 _ _ hj' ⟨hh.1,hh.2⟩) ?_
       refine ho.get j rfl (by rw [zmi]; exact hj') ?_
       obtain ⟨w,w1,w2⟩:=hf.cover hs hv (k:=j) (by rw [ze0]; exact hj')
       rw [zxv,decide_eq_true ((zh3 (Nat.le_refl _)).2 ⟨w,w1,by omega,w2⟩)]
       exact zal rfl ⟨rfl,rfl⟩
     · rw [hch]
       refine zlq IL.nil IL.nil (by simp) fun b h9 hl9 hb=>hk _ _ (Hp.le_trans hle3 (Hp.le_trans l35 hl9)) (hb.2 rfl)
theorem zyv {p:TPlan} {R:List Int} (hp:LR stc 4 STP h p.steps (planN S R R.length)) (hR:R.length≤1000) (H:Ki ((freeN S R R.length:Nat):Int) h):callP (F.zlg p) Ki h:=by
 refine zah _ (fun K' hk=>?_) H
 unfold F.zlg
 have npl:=hp.len zcf
 rw [zd8] at npl
 have hle:∀i,freeN S R i≤2*i:=by
  intro i
  induction i with
  | zero=>exact Nat.le_refl _
  | succ i ih=>
    unfold freeN freeK
    split
    · omega
    · split<;>omega
 refine zbz (n:=R.length) (by omega) (fun i a h'=>h'=h∧a=((freeN S R i:Nat):Int)) ⟨rfl,rfl⟩ ?_
 rintro i _ h hi ⟨rfl,rfl⟩ k hk2
 refine za0 (fun h1=>?_) (fun h1=>?_)
 · have hi':i<R.length:=by have:(i:Int)<(p.steps.len:Int):=h1; omega
   refine za3 (fun st h'=>h'=h∧st.1=((freeN S R (i+1):Nat):Int)) (fun st h' hh=>hk2 _ _ hi' ⟨hh.1,hh.2⟩) ?_
   refine hp.get zcf i rfl (by rw [zd8]; exact hi') fun a x hxx hcx=>⟨_,hcx 0 _ rfl,_,hcx 1 _ rfl,_,hcx 2 _ rfl,_,hcx 3 _ rfl,?_⟩
   have hg:(planN S R R.length)[i]'(by rw [zd8]; exact hi')=stN S R (R.length-1-i):=by
    have h7:=zlf (S:=S) (R:=R) hi'
    rw [List.getElem?_eq_getElem (by rw [zd8]; exact hi')] at h7
    exact Option.some.inj h7
   rw [hg] at hxx
   have hl:=hle i
   have hst:freeN S R (i+1)=freeN S R i+freeK x.kind:=by rw [hxx.1]; rfl
   rw [hst]
   refine zaa (fun e=>⟨rfl,?_⟩) (fun e1=>?_)
   · show IntKind.i64.wrap (((freeN S R i:Nat):Int)+2)=_
     rw [w64 (by omega)]
     unfold freeK
     rw [if_pos e]; omega
   · refine za3 (fun st h'=>h'=h∧st.1=decide (x.kind=2∨x.kind=5)) ?_ ?_
     · rintro ⟨b,_⟩ h ⟨rfl,hb⟩
       simp only at hb
       subst hb
       refine za0 (fun e=>⟨rfl,?_⟩) (fun e=>⟨rfl,?_⟩)
       · show IntKind.i64.wrap (((freeN S R i:Nat):Int)+1)=_
         rw [w64 (by omega)]
         unfold freeK
         rw [if_neg e1,if_pos e]; omega
       · show ((freeN S R i:Nat):Int)=_
         unfold freeK
         rw [if_neg e1,if_neg e]; omega
     · refine zaa (fun e=>⟨rfl,?_⟩) (fun e=>⟨rfl,?_⟩)
       · show (x.kind==2)=_
         rw [decide_eq_true (.inl e),e]; rfl
       · show (x.kind==5)=_
         by_cases h5:x.kind=5
         · rw [decide_eq_true (.inr h5),h5]; rfl
         · rw [decide_eq_false (by rintro (hh | hh); exact e hh; exact h5 hh)]; simpa using h5
 · have:i=R.length:=by have:¬(i:Int)<(p.steps.len:Int):=h1; omega
   subst this
   exact hk
theorem zv0 (hx:SK h s S) (hs:sSk S) (hv:VS S) (H:∀h',h.le h'→Ki ((eqT S:Nat):Int) h'):callP (F.zii s) Ki h:=by
 refine za1 (fun y h'=>y=((eqT S:Nat):Int)) (fun K' hk=>?_) fun b h' hl hb=>by subst hb; exact H h' hl
 unfold F.zii
 refine za36 hx hv hs fun r1 h1 hl1 hL=>?_
 have nL:=hL.len zad
 have hal:=zis hs
 have hok:=zf5 hv hs
 have hle:∀i,(((allC S).take i).map fun c=>eqK c.kind).sum≤2*i:=by
  intro i
  have key:∀l:List PCon,(l.map fun c=>eqK c.kind).sum≤2*l.length:=by
   intro l
   induction l with
   | nil=>simp
   | cons a r ih=>
     have:=znx a.kind
     rw [List.map_cons,List.sum_cons,List.length_cons]; omega
  have:=key ((allC S).take i)
  rw [List.length_take] at this
  omega
 refine zbz (n:=(allC S).length) (by omega) (fun i a h'=>h1.le h'∧a=(((((allC S).take i).map fun c=>eqK c.kind).sum:Nat):Int)) ⟨Hp.le_refl _,by simp⟩ ?_
 rintro i _ h2 hi ⟨hl2,rfl⟩ k hk2
 refine za0 (fun h3=>?_) (fun h3=>?_)
 · have hi':i<(allC S).length:=by have:(i:Int)<(r1.len:Int):=h3; omega
   refine (hL.le zad hl2).get zad i rfl hi' fun a y hy hcy=>⟨_,hcy 0 _ rfl,_,hcy 1 _ rfl,_,hcy 2 _ rfl,_,hcy 3 _ rfl,_,hcy 4 _ rfl,?_⟩
   have hki:=(hok _ (List.getElem_mem hi')).1.1
   refine zr0 (x:=y) hy.1 hki fun h4 hl4=>hk2 _ _ hi' ⟨Hp.le_trans hl2 hl4,?_⟩
   have hl:=hle i
   have he:=znx (allC S)[i].kind
   rw [←List.take_append_getElem hi',List.map_append,List.sum_append,w64 (by omega)]
   simp
 · have:i=(allC S).length:=by have:¬(i:Int)<(r1.len:Int):=h3; omega
   subst this
   refine hk _ _ (Hp.le_trans hl1 hl2) ?_
   rw [List.take_length]; rfl
theorem za4k (hx:SK h s S) (ht:GT h) (hT:UT h) (hk:∀h',h.le h'→Kb true h'):F.zgb s Kb h:=by
 unfold F.zgb
 refine za3 (fun _ h'=>h.le h'∧sSk S) ?_ ?_
 · rintro _ h1 ⟨hl1,hs⟩
   refine znm (hx.le hl1) hs (ht.le hl1) fun r h2 hl2 hr=>?_
   have hle2:=Hp.le_trans hl1 hl2
   rcases hr with ⟨hv,rfl⟩ | ⟨hv,hne,rfl⟩ | ⟨hv,hleft,h0,hch,hp⟩
   · refine zb7 (fun _=>?_) (fun hh=>absurd hh (by decide))
     refine zn3 (ps:=[]) (qs:=[]) LR.nil LR.nil rfl rfl (by simp) (by simp) fun h3 hl3=>?_
     rw [decide_eq_true rfl]; exact hk _ (Hp.le_trans hle2 hl3)
   · refine zb7 (fun _=>?_) (fun hh=>absurd hh (by decide))
     refine zn3 (ps:=[]) (qs:=[]) LR.nil LR.nil rfl rfl (by simp) (by simp) fun h3 hl3=>?_
     rw [decide_eq_true rfl]; exact hk _ (Hp.le_trans hle2 hl3)
   · refine zb7 (fun hh=>absurd h0 hh) (fun _=>?_)
     have hf:=zse hleft
     obtain ⟨R,hR⟩:∃R,R=peelS S (allS S):=⟨_,rfl⟩
     rw [←hR] at hf
     have hplan:planS S=planN S R R.length:=by rw [hR]; rfl
     have hRl:R.length≤20:=by rw [hR]; exact zpu hs
     have hn:=hf.len
     have s1:=hs.1
     have s2:=hs.2.1
     have hal:=zis hs
     have npl:=hp.len zcf
     rw [hplan,zd8] at npl
     have hul:=hf.used_len hs hv
     refine zbz (n:=R.length) (by omega) (fun i M h'=>h'=h2∧M=tt (usedN S R i)) ⟨rfl,rfl⟩ ?_
     rintro i _ h2 hi ⟨rfl,rfl⟩ k hk2
     refine za0 (fun h3=>?_) (fun h3=>?_)
     · have hi':i<R.length:=by have:(i:Int)<(r.1.steps.len:Int):=h3; omega
       obtain ⟨m,hm⟩:∃m,m=R.length-1-i:=⟨_,rfl⟩
       have hmR:m<R.length:=by omega
       refine hp.get zcf i rfl (by rw [hplan,zd8]; exact hi') fun a x hxx hcx=>⟨_,hcx 0 _ rfl,_,hcx 1 _ rfl,_,hcx 2 _ rfl,_,hcx 3 _ rfl,?_⟩
       have hg:(planS S)[i]'(by rw [hplan,zd8]; exact hi')=stN S R m:=by
        have h7:=zlf (S:=S) (R:=R) hi'
        rw [←hplan,List.getElem?_eq_getElem (by rw [hplan,zd8]; exact hi'),←hm] at h7
        exact Option.some.inj h7
       rw [hg] at hxx
       have hxu:=hxx.2.2.1
       unfold stN at hxu
       rw [zio] at hxu
       have hxl:=hxu.len
       have huL:(us S R m).length≤2:=by
        have h8:(us S R m).length≤most (R.getD m 0):=zrc hs hv (hf.seq m hmR).1
        unfold most at h8
        split at h8<;>omega
       refine zbz (n:=(us S R m).length) (by omega) (fun q M h'=>h'=h2∧M=tt (usedN S R i++(us S R m).take q)) ⟨rfl,by rw [List.take_zero,List.append_nil]⟩ ?_
       rintro q _ h2 hq ⟨rfl,rfl⟩ k3 hk3
       refine za0 (fun h4=>?_) (fun h4=>?_)
       · have hq':q<(us S R m).length:=by have:(q:Int)<(x.uses.len:Int):=h4; omega
         have hjn:(us S R m)[q]∉usedN S R i++(us S R m).take q:=fun hh=>by
          rw [List.mem_append] at hh
          rcases hh with hh | hh
          · obtain ⟨z,z1,z2,z3⟩:=(zh3 (by omega)).1 hh
            have:=zvk z1 hmR z3 (List.getElem_mem hq')
            omega
          · obtain ⟨z,z1,z2⟩:=List.mem_iff_getElem.1 hh
            rw [List.length_take] at z1
            rw [List.getElem_take] at z2
            have hnd:(us S R m).Nodup:=zkc _
            have:=(List.getElem_inj hnd).1 z2
            omega
         refine hxu.get q rfl hq' ?_
         rw [zrm,decide_eq_false hjn]
         refine zal rfl ?_
         rw [zxh hjn]
         refine hk3 _ _ hq' ⟨rfl,?_⟩
         rw [List.append_assoc,List.take_append_getElem hq']
       · have:q=(us S R m).length:=by have:¬(q:Int)<(x.uses.len:Int):=h4; omega
         subst this
         refine hk2 _ _ hi' ⟨rfl,?_⟩
         rw [List.take_length,hm]; rfl
     · have:i=R.length:=by have:¬(i:Int)<(r.1.steps.len:Int):=h3; omega
       subst this
       refine zwl (p:=r.1) (hx.le hle2) hs hv (ht.le hle2) (hT.le hle2) hleft hp hch fun h4 hl4=>zcd rfl ?_
       have hle4:=Hp.le_trans hle2 hl4
       refine znh (hx.le hle4) hv hs fun r14 h5 hl5 hr14=>?_
       have hle5:=Hp.le_trans hle4 hl5
       have e1:=hx.2.2.2.2.2.len zad
       have e2:=hr14.len zad
       have e3:(allC S).length=S.con.length+(imp S).length:=by unfold allC; rw [List.length_append]
       rw [w64 (by omega)]
       have e4:(tt (usedN S R R.length)).length=(allC S).length:=by unfold tt; rw [List.length_map]; exact hul
       refine zaa (fun _=>?_) (fun hh=>absurd (by rw [e4]; omega) hh)
       refine zyv (R:=R) (by rw [←hplan]; exact hp.le zcf (Hp.le_trans hl4 hl5)) (by omega) ?_
       have e5:=hf.free hs hv
       have e6:=hx.1.len zcs
       have e7:=hx.2.1.len zdw
       refine zah (((2*S.pts.length+S.cir.length:Nat):Int)) (fun K' hk'=>?_) ?_
       · unfold F.zn6
         rw [w64 (n:=2*(s.points.len:Int)) (by omega),w64 (by omega)]
         have:2*(s.points.len:Int)+(s.circles.len:Int)=((2*S.pts.length+S.cir.length:Nat):Int):=by rw [e6,e7]; omega
         rw [this]; exact hk'
       · refine zv0 (hx.le hle5) hs hv fun h6 hl6=>?_
         rw [w64 (by omega)]
         have:(((freeN S R R.length:Nat):Int)==((2*S.pts.length+S.cir.length:Nat):Int)-((eqT S:Nat):Int))=true:=by
          rw [beq_iff_eq]; omega
         rw [this]
         exact hk _ (Hp.le_trans hle5 hl6)
 · refine znp ht fun h1 hl1=>zal rfl ?_
   refine zva (hx.le hl1) fun b h2 hl2 hb=>?_
   have hle2:=Hp.le_trans hl1 hl2
   exact za7 (fun h3=>znp (ht.le hle2) fun h3 hl3=>hk _ (Hp.le_trans hle2 hl3)) (fun h3=>⟨hle2,(hb (by simpa using h3)).1⟩)
end
end Den
end

section
namespace Den
open Go Iv Lx Go.Proofs Go.Proofs.YthifcokendanpaaGreatDoor
open Go.ChangeShapes Go.WideShapes Go.ChangeAt Go.RowKit
theorem gUses:Tryz.prog.globalNamed "setsquare/plan.uses"=some 0:=by kernel_rfl
theorem tUses:(Tryz.prog.globals[0]?).map (·.type)=some 165:=by kernel_rfl
theorem ut_of {W:World} {l:List (String×DataW Unit)} (h:laidMet Tryz.prog l W) (h1:("setsquare/plan.uses",Rows.laid_setsquare_plan_uses)∈l):UT (hpW W):=by
 obtain ⟨ps,hv,_⟩:=h
 intro i hi
 obtain ⟨g,t,cs,fuel,p,hg,ht,hvar,hd⟩:=zgt hv h1
 obtain rfl:=Option.some.inj (gUses.symm.trans hg)
 obtain rfl:=Option.some.inj (tUses.symm.trans ht)
 have hd':DataW.trod (fun _=>()) Tryz.prog W 0 (fun _=>true) false fuel 165 cs.toList=some (.agg (([0,0,1,2,1,0,1]:List Int).map fun z=>.lit (.int .i64 z)),p):=hd
 have:=zkw Tryz.underlying165 Tryz.underlying3 c_int hd' i hi
 rw [zkv,zq7,World.var?_cell hg hvar i,←Array.getElem?_toList,this]
end Den
end
