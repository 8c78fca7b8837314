/-
  Part 8 of the tools and contracts from which the statement is proved.
-/
import Derived.Test.YtijmjfcnjfnpgaaGreatDoorPartr7
set_option linter.all false
open Go.IntKind
open Nat renaming le_refl→Ja,lt_or_ge→Jo,le_trans→Jt,zero_le→Ga
open List renaming getElem?_eq_getElem→Jc,length_append→Je,getD_eq_getElem?_getD→Jf,getElem_mem→Jh,take_append_getElem→Jk,eq_nil_of_length_eq_zero→Jn,range→Jp,replicate→Jr,mem_cons→Ju,take_length→Jw,getElem?_eq_none→J5,mem_singleton→J6,countP_singleton→Uc,not_mem_nil→Uk,countP_append→Uo,mem_range→Uv,getElem?_map→Uw,length_set→Gl,append_nil→Gt,mem_filter→Ta,getElem_map→Ts,filter_eq_self→P7
open Option.some renaming inj→J9
section
namespace Den
open Go Iv Lx
def z8e:List (Int×Int):=[(0,1),(0,2),(1,2),(1,3),(2,3)]
def Zip:List (Int×Int):=[(0,0),(2,0),(1,2),(3,2)]
theorem Ziq:HI 4 z8e Zip:=by
 have h2:HI 2 [(0,1)] [(0,0),(2,0)]:=by
  refine⟨Ja _,⟨by omega,λe he=>?_,λj hj=>?_⟩,rfl,X3.bar,Tq.Free.bar (.inl ?_),rfl⟩
  . rw[J6.1 he];simp
  . simp at hj
  . unfold zci;simp
 have g3:GV ((2+1:Nat):Int) [(0,1),(0,2),(1,2)]:=by
  refine⟨by omega,λe he=>?_,λj hj=>?_⟩
  . simp only[Ju,Uk,or_false]at he;rcases he with rfl | rfl | rfl<;>simp
  . have:j=0\/j=1:=by simp at hj;omega
    rcases this with rfl | rfl<;>simp[z29]
 have h3:HI 3 [(0,1),(0,2),(1,2)] [(0,0),(2,0),(1,2)]:=h2.step (a:=0) (b:=1) (x:=(1,2)) (by omega) (by omega) (by omega) (List.Perm.refl _) g3 (by decide);have g4:GV ((3+1:Nat):Int) z8e:=by
  refine⟨by omega,λe he=>?_,λj hj=>?_⟩
  . simp only[z8e,Ju,Uk,or_false]at he;rcases he with rfl | rfl | rfl | rfl | rfl<;>simp
  . have:j=0\/j=1\/j=2\/j=3:=by simp[z8e]at hj;omega
    rcases this with rfl | rfl | rfl | rfl<;>simp[z29,z8e]
 exact h3.step (a:=1) (b:=2) (x:=(3,2)) (by omega) (by omega) (by omega) (List.Perm.refl _) g4 (by decide)
theorem zs0{us:List PTr}{i j k:Nat}{x y z x0 y0 z0:Int}(hF:First us i j k x y z)(h0:z9o (us.getD 0 (.leaf 0 0)) (us.getD 1 (.leaf 0 0)) (us.getD 2 (.leaf 0 0))=some (x0,y0,z0)):i=0/\j=1/\k=2/\x=x0/\y=y0/\z=z0:=by
 have hij:=hF.ij;have hjk:=hF.jk;have hlt:=hF.lt;by_cases h:i=0/\j=1/\k=2
 . obtain⟨rfl,rfl,rfl⟩:=h;have:=hF.can;rw[h0]at this;cases this;exact⟨rfl,rfl,rfl,rfl,rfl,rfl⟩
 . have:=hF.first 0 1 2 (by omega) (by omega) (by omega) (by omega);rw[h0]at this;cases this
theorem zpt{es:List (Int×Int)}{l:List Int}(hl:l.Pairwise (·<·))(hm:∀v,v∈l↔∃e∈es,v=e.1\/v=e.2):z30 es=l:=
 zof (R:=(·<·)) (λa=>Int.lt_irrefl a) (λa b h1 h2=>absurd (Int.lt_trans h1 h2) (Int.lt_irrefl _)) zj7 hl λv=>by rw[zdo,hm]
theorem Zsh{a b v:Int}{e:Int×Int}(h1:e.1=a)(h2:e.2=b):v∈[a,b]↔∃x∈[e],v=x.1\/v=x.2:=by
 subst h1 h2;simp
def zn6:PTr:=.node 1 0 2 (.leaf 0 1) (.leaf 0 2) (.leaf 1 2)
def zyz:PTr:=.node 2 1 3 zn6 (.leaf 1 3) (.leaf 2 3)
theorem zl9{a b:Int}(h:a<b):z30 (PTr.leaf a b).bars=[a,b]:=zpt (by simp[h]) λv=>Zsh rfl rfl
theorem Zk0:z30 zn6.bars=[0,1,2]:=zpt (by decide) λv=>by
 have e:zn6.bars=[(0,1),(0,2),(1,2)]:=rfl;rw[e];simp only[Ju,Uk,or_false,exists_eq_or_imp,exists_eq_left];omega
theorem Zk1:z30 zyz.bars=[0,1,2,3]:=zpt (by decide) λv=>by
 have e:zyz.bars=[(0,1),(0,2),(1,2),(1,3),(2,3)]:=rfl;rw[e];simp only[Ju,Uk,or_false,exists_eq_or_imp,exists_eq_left];omega
theorem Z3q:z9o (.leaf 0 1) (.leaf 0 2) (.leaf 1 2)=some (0,2,1):=by
 unfold z9o;rw[zl9 (by decide),zl9 (by decide),zl9 (by decide)];decide
theorem Z3r:z9o zn6 (.leaf 1 3) (.leaf 2 3)=some (1,3,2):=by
 unfold z9o;rw[zl9 (by decide),zl9 (by decide),Zk0];decide
theorem Z0p{ts:List PTr}(h:Reach (z8e.map lfE) ts):ts=z8e.map lfE\/ts=[zn6,.leaf 1 3,.leaf 2 3]\/ts=[zyz]:=by
 generalize hs:z8e.map lfE=s at h;induction h with
 | refl=>exact .inl rfl
 | step i j k x y z _ hF ih=>
   subst hs;rcases ih with rfl | rfl | rfl
   . obtain⟨rfl,rfl,rfl,rfl,rfl,rfl⟩:=zs0 hF Z3q;exact .inr (.inl rfl)
   . obtain⟨rfl,rfl,rfl,rfl,rfl,rfl⟩:=zs0 hF Z3r;exact .inr (.inr rfl)
   . have:=hF.ij;have:=hF.jk;have:=hF.lt;simp at this;omega
theorem Zir{ts:List PTr}(h:Reach (z8e.map lfE) ts)(hn:Ze6 ts):∃t,ts=[t]/\((z30 t.bars).length:Int)=4:=by
 rcases Z0p h with rfl | rfl | rfl
 . have:=hn 0 1 2 (by decide) (by decide) (by decide);have e:z9o (.leaf 0 1) (.leaf 0 2) (.leaf 1 2)=none:=this;rw[Z3q]at e;cases e
 . have:=hn 0 1 2 (by decide) (by decide) (by decide);have e:z9o zn6 (.leaf 1 3) (.leaf 2 3)=none:=this;rw[Z3r]at e;cases e
 . exact⟨zyz,rfl,by rw[Zk1];rfl⟩
theorem Z3p{T:List Int}(h:IsCore 4 z8e T):T=[]:=by
 have hm:=λi (hi:i∈T)=>h.mem hi
 have hd:=h.deg;have key:∀i∈T,(We z8e T i)<=(We z8e [0,1,2,3] i):=λi hi=>zgy λx hx=>by
  have:=hm x hx;simp only[Ju,Uk,or_false];omega
 have n0:(0:Int)∉T:=λhi=>by
  have h1:=hd 0 hi;have h2:=key 0 hi;have h3:We z8e [0,1,2,3] 0=2:=by decide
  omega
 have n3:(3:Int)∉T:=λhi=>by
  have h1:=hd 3 hi;have h2:=key 3 hi;have h3:We z8e [0,1,2,3] 3=2:=by decide
  omega
 have key2:∀i∈T,(We z8e T i)<=(We z8e [1,2] i):=λi hi=>zgy λx hx=>by
  have:=hm x hx;have:x≠0:=λhh=>n0 (hh▸hx)
  have:x≠3:=λhh=>n3 (hh▸hx)
  simp only[Ju,Uk,or_false];omega
 have no:∀i,i∉T:=λi hi=>by
  have h4:=hm i hi;have h1:=hd i hi;have h2:=key2 i hi;have h5:i=1\/i=2:=by
   have:i≠0:=λhh=>n0 (hh▸hi)
   have:i≠3:=λhh=>n3 (hh▸hi)
   omega
  have h6:We z8e [1,2] 1=1:=by decide
  have h7:We z8e [1,2] 2=1:=by decide
  rcases h5 with rfl | rfl<;>omega
 exact List.eq_nil_iff_forall_not_mem.2 no
def Z2c(c:PCon):PCon:={ c with vals:=[] }
theorem zzt{L:List PCon}{i:Nat}:(L.map Z2c).getD i dC=Z2c (L.getD i dC):=by
 rw[Jf,Jf,Uw];cases L[i]?<;>rfl
theorem Zeu{L:List PCon}{cs R:List Int}{item:Int}:zeg (L.map Z2c) cs R item=zeg L cs R item:=by
 have e1:(L.map Z2c).map (λc=>Qq c cs)=L.map λc=>Qq c cs:=by rw[List.map_map];rfl
 have e2:∀l,wtL (L.map Z2c) l=wtL L l:=λl=>by
  unfold wtL;congr 1;refine List.map_congr_left λi _=>?_
  rw[zzt];rfl
 have e3:zfb (L.map Z2c) cs R item↔zfb L cs R item:=by
  unfold zfb;rw[e1,e2];refine and_congr Iff.rfl (and_congr Iff.rfl (forall_congr' λi=>forall_congr' λ_=>?_));rw[zzt];exact Iff.rfl
 unfold zeg;exact decide_eq_decide.2 e3
theorem zz4:z5r (some ((5:Int):Rat))=true:=by
 have h:z7m 40 0 ((5:Int):Rat)=true:=by
  show(if ((5:Int):Rat).den=1 then decide (siz 0 (dgt ((5:Int):Rat).num.natAbs)<=40)else z7m 39 (0+1) (((5:Int):Rat)*((10:Int):Rat)))=true;rw[Rat.den_intCast,if_pos rfl,Rat.num_intCast];decide +kernel
 unfold z5r;simp only[h,Rat.num_intCast];decide
theorem Zi8{e:Int×Int}{x:TRat}{n:Int}(h:0<=e.1/\e.1<n/\0<=e.2/\e.2<n/\e.1≠e.2)(hx:x.num.mag.len<=2/\x.den.mag.len<=2):VC (z27 e x) n 0/\sC (z27 e x):=by
 have hE:vE (.mk 1 x (some ((5:Int):Rat)) Y3 [])=true:=by
  have hd:dep (.mk 1 x (some ((5:Int):Rat)) Y3 [])=1:=rfl;have hf:zk9 []=true:=rfl;unfold vE fmd shp;rw[zz4,if_pos rfl,hd,hf];decide
 refine⟨⟨by show(1:Int)<=2/\(2:Int)<=17;omega,⟨rfl,λv hv=>?_⟩,⟨rfl,λv hv=>absurd hv Uk⟩,rfl,λv hv=>?_,?_,?_⟩,by show 2<=10;omega,by show 0<=10;omega,by show 1<=10;omega,λv hv=>?_⟩
 . have hv:v∈[e.1,e.2]:=hv;simp only[Ju,Uk,or_false]at hv;omega
 . have hv:v∈[PEx.mk 1 x (some ((5:Int):Rat)) Y3 []]:=hv;rw[J6.1 hv];exact hE
 . rw[if_neg (by show ¬(shK 2).2.2.2.2=true;decide)];rfl
 . rw[if_neg (by show ¬z2d 2;decide)];refine⟨?_,List.nodup_nil⟩;show [e.1,e.2].Nodup;simp[h.2.2.2.2]
 . have hv:v∈[PEx.mk 1 x (some ((5:Int):Rat)) Y3 []]:=hv;rw[J6.1 hv];refine⟨⟨by show 0<=4;omega,by show Y3.size<=40;decide,by omega,by omega,trivial⟩,?_⟩;show 0+1<=61;omega
theorem Zis{S:PSk}(h:FSk z8e Zip S):sSk S/\VS S/\z0q S=[]:=by
 obtain⟨p,ci,sg,ar,ch,co⟩:=S;obtain⟨h1,h2,h3,h4,h5,xs,hx1,hx2,h6⟩:=h;simp only at h1 h2 h3 h4 h5 h6;subst h2 h3 h4 h5;obtain⟨y,hy⟩:∃y:Nat->TRat,y=λi=>xs.getD i ⟨⟨false,zf⟩,⟨false,zf⟩⟩:=⟨_,rfl⟩
 have hyl:∀i,(y i).num.mag.len<=2/\(y i).den.mag.len<=2:=λi=>by
  rw[hy];simp only;rw[Jf];rcases Jo i xs.length with hi | hi
  . rw[Jc hi];exact hx2 _ (Jh hi)
  . rw[J5 hi];exact⟨Ga _,Ga _⟩
 have e6:co=[z27 (0,1) (y 0),z27 (0,2) (y 1),z27 (1,2) (y 2),z27 (1,3) (y 3),z27 (2,3) (y 4)]:=by rw[h6,hy];rfl
 have e1:p=[ptF (0,0),ptF (2,0),ptF (1,2),ptF (3,2)]:=h1;subst e6 e1;have hc:∀c∈[z27 (0,1) (y 0),z27 (0,2) (y 1),z27 (1,2) (y 2),z27 (1,3) (y 3),z27 (2,3) (y 4)],VC c 4 0/\sC c:=λc hc=>by
  simp only[Ju,Uk,or_false]at hc;rcases hc with rfl | rfl | rfl | rfl | rfl<;>exact Zi8 (by simp) (hyl _)
 refine⟨⟨by simp,by simp,by simp,by simp,by simp,by simp,by simp,λc h=>(hc c h).2⟩,⟨λp hp=>?_,by simp,by simp,by simp,by simp,λc h=>(hc c h).1⟩,?_⟩
 . simp only[Ju,Uk,or_false]at hp;rcases hp with rfl | rfl | rfl | rfl<;>exact⟨rfl,rfl⟩
 . have ec:∀R,zeg [z27 (0,1) (y 0),z27 (0,2) (y 1),z27 (1,2) (y 2),z27 (1,3) (y 3),z27 (2,3) (y 4)] [] R=zeg [⟨2,[0,1],[],[],0⟩,⟨2,[0,2],[],[],0⟩,⟨2,[1,2],[],[],0⟩,⟨2,[1,3],[],[],0⟩,⟨2,[2,3],[],[],0⟩] [] R:=λR=>by
    funext item;exact(Zeu (L:=[z27 (0,1) (y 0),z27 (0,2) (y 1),z27 (1,2) (y 2),z27 (1,3) (y 3),z27 (2,3) (y 4)]) (cs:=[]) (R:=R) (item:=item)).symm
   show Xp (zjj 4 0) (Zh2 (zeg [z27 (0,1) (y 0),z27 (0,2) (y 1),z27 (1,2) (y 2),z27 (1,3) (y 3),z27 (2,3) (y 4)] []) (zjj 4 0))=[];rw[funext ec];decide +kernel
end Den
end

section
namespace Den
open Go Iv Lx
def bc(b:Bool):Value:=.bool b
theorem zfu{α:Type}{f:α->Value}:∀ys:List α,ys.map f=ys.flatMap λz=>[f z]
 | []=>rfl
 | a :: r=>by rw[List.map_cons,List.flatMap_cons,zfu r];rfl
def gl(gn:List Bool):List Int:=((Jp gn.length).filter λi=>!(gn.getD i true)).map λi:Nat=>(i:Int)
theorem zhb{gn:List Bool}{x:Int}:x∈gl gn↔∃i:Nat,x=i/\∃h:i<gn.length,gn[i]=false:=by
 unfold gl;rw[List.mem_map];constructor
 . rintro⟨i,hi,rfl⟩;rw[Ta,Uv]at hi;refine⟨i,rfl,hi.1,?_⟩;have:=hi.2;rw[qf hi.1]at this;simpa using this
 . rintro⟨i,rfl,hi,hg⟩;refine⟨i,Ta.2 ⟨Uv.2 hi,?_⟩,rfl⟩;rw[qf hi,hg];rfl
theorem z0z{gn:List Bool}{i:Nat}(hi:i<gn.length):(i:Int)∈gl gn↔gn[i]=false:=by
 rw[zhb];constructor
 . rintro⟨j,hj,h1,h2⟩;have:j=i:=by omega
   subst this;exact h2
 . intro h;exact⟨i,rfl,hi,h⟩
theorem Zjk{gn:List Bool}{N:Nat}(hN:gn.length=N):gl gn=(z8h N).filter λx=>decide (x∈gl gn):=by
 conv=>lhs;unfold gl
 unfold z8h;rw[List.filter_map,hN];congr 1;refine List.filter_congr λi hi=>?_
 have hi':i<gn.length:=by rw[hN];exact Uv.1 hi
 rw[Bool.eq_iff_iff,Function.comp_apply,decide_eq_true_iff,z0z hi',qf hi'];simp
def zdz(gn:List Bool):Nat:=gn.countP λb=>!b
theorem Z3e{gn:List Bool}:∀{i:Nat} (hi:i<gn.length),gn[i]=false->zdz (gn.set i true)+1=zdz gn:=by
 induction gn with
 | nil=>intro i hi;simp at hi
 | cons a r ih=>
   intro i hi hg;cases i with
   | zero=>
     simp only[List.getElem_cons_zero]at hg;subst hg;simp[zdz]
   | succ i=>
     have:=ih (i:=i) (by simpa using hi) (by simpa using hg);unfold zdz at this |-
     simp only[List.set_cons_succ,List.countP_cons];omega
section
variable {h D : Hp} {g : TGraph} {es : List (Int × Int)} {l m : Sl} {gn : List Bool} {ds : List Int} {Kb : Bool → Hp → Prop} {Ki : Int → Hp → Prop} {Ks : Sl → Hp → Prop}
def OB(D h:Hp)(l:Sl)(gn:List Bool):Prop:=Own D h 1 l (gn.map bc)
theorem OB.len(ho:OB D h l gn):l.len=gn.length:=by have:=ho.2.1;simp at this;omega
theorem OB.get{i:Int}{K:Bool->Prop}(ho:OB D h l gn)(k:Nat)(hi:i=k)(hk:k<gn.length)(H:K gn[k]):zg l i 1 λa=>ldL .bool a K h:=by
 have hr:Rd h 1 l (gn.flatMap λz=>[bc z]):=by rw[<-zfu];exact ho.rd
 refine zle (c:=λz:Bool=>[bc z]) (n:=1) (λ_=>rfl) (by decide) hr k hi hk λa ha=>?_
 have:=ha 0 _ (by decide) rfl;rw[Zw]at this;exact⟨_,this,H⟩
theorem OB.set{i:Int}{v:Bool}{K:Hp->Prop}(k:Nat)(ho:OB D h l gn)(hi:i=k)(hk:k<gn.length)(H:∀h',OB D h' l (gn.set k v)->(∀j,(∀a,l.a=some a->j≠a.block)->h' j=h j)->K h'):zg l i 1 λa=>stP a [.bool v] K h:=by
 unfold OB at ho;rw[zfu]at ho;refine zq9 (c:=λz:Bool=>[bc z]) (n:=1) (λ_=>rfl) (by decide) k ho hi hk rfl λh' h1 h2=>H h' ?_ h2
 unfold OB;rw[zfu];exact h1
theorem zll{α:Type}{f:α->Value}{x:α}:∀n,yn n [f x]=(Jr n x).map f
 | 0=>rfl
 | n+1=>by
   have:=zll (f:=f) (x:=x) n;unfold yn at this |-
   rw[List.replicate_succ,List.flatten_cons,this,List.replicate_succ,List.map_cons];rfl
theorem Ze8{h':Hp}{n1 n2:Nat}{cs1 cs2:List Value}(h1:Own D h n1 l cs1)(h2:Own h h' n2 m cs2):Apt l m:=λa b ha hb hh=>by
 have h3:=Z9z h2 hb;obtain⟨_,_,_,g4⟩:=h1;rw[ha]at g4;obtain⟨_,_,_,x,g5,_⟩:=g4;rw[<-hh,g5]at h3;cases h3
def z8d(es:List (Int×Int))(T:List Int)(N:Nat):List Int:=(Jp N).map λi:Nat=>((We es T (i:Int):Nat):Int)
theorem zfj{es:List (Int×Int)}{T:List Int}{N i:Nat}(hi:i<N):(z8d es T N)[i]?=some ((We es T (i:Int):Nat):Int):=by
 unfold z8d;rw[Uw,List.getElem?_range hi];rfl
theorem Vv{es:List (Int×Int)}{T:List Int}{N:Nat}:(z8d es T N).length=N:=by simp[z8d]
theorem Z3m{es:List (Int×Int)}{T:List Int}{N:Nat}{e:Int×Int}(hn:¬(e.1∈T/\e.2∈T)):z8d (es++[e]) T N=z8d es T N:=by
 unfold z8d;refine List.map_congr_left λi _=>?_
 rw[zgz,if_neg (λhh=>hn ⟨hh.1,hh.2.1⟩)];rfl
theorem Zdn{es:List (Int×Int)}{T:List Int}{N a b:Nat}(ha:a<N)(hb:b<N)(hab:a≠b)(hT:(a:Int)∈T/\(b:Int)∈T) :
 ((z8d es T N).set a (((We es T (a:Int):Nat):Int)+1)).set b (((We es T (b:Int):Nat):Int)+1)=z8d (es++[((a:Int),(b:Int))]) T N:=by
 refine List.ext_getElem? λi=>?_
 rcases Jo i N with h1 | h1
 . rw[zfj h1,zgz];simp only[hT.1,hT.2,true_and];rw[List.getElem?_set];by_cases hib:b=i
   . subst hib;rw[if_pos rfl,if_pos (by simp[Vv];exact h1),if_pos (.inr rfl)];rfl
   . rw[if_neg hib,List.getElem?_set];by_cases hia:a=i
     . subst hia;rw[if_pos rfl,if_pos (by simp[Vv];exact h1),if_pos (.inl rfl)];rfl
     . rw[if_neg hia,zfj h1,if_neg (by omega)];rfl
 . rw[J5 (by simp[Vv];exact h1),J5 (by rw[Vv];exact h1)]
theorem zjf(hg:LR a2c 2 A2P h g.edges es)(hlen:es.length<=1000000)(H0:∀h',h.le h'->¬GV g.n es->Ks zf h')(H:∀y T h',h.le h'->GV g.n es->IL h' y T->IsCore g.n.toNat es T->Ks y h'):zc (F.z7l g) Ks h:=by
 refine zd (λy h'=>(¬GV g.n es/\y=zf)\/(GV g.n es/\∃T,IL h' y T/\IsCore g.n.toNat es T)) (λK' hk=>?_) λy h' hl hb=>by
  rcases hb with ⟨h1,rfl⟩ | ⟨h1,T,h2,h3⟩
  . exact H0 h' hl h1
  . exact H y T h' hl h1 h2 h3
 unfold F.z7l;refine z0x hg (by omega) λb h1 hl1 hb=>?_
 refine zi (λh2=>hk _ _ hl1 (.inl ⟨λhv=>(by rw[hb.2 hv]at h2;cases h2),rfl⟩)) (λh2=>?_);have hv:=hb.1 (by simpa using h2);obtain⟨N,hN⟩:∃N:Nat,g.n=N:=⟨g.n.toNat,by have:=hv.1.1;omega⟩;have hN60:N<=60:=by have:=hv.1.2;omega
 rw[hN,show((N:Nat):Int).toNat=N from rfl]at hk;rw[hN]at hv;rw[hN];have hgl:=hg.len yb;have hes:=hv.2.1;refine zpp (size:=1) N N rfl rfl (Ja _) (by omega) (by omega) rfl λm2 h3 hm2 _ ho3=>?_
 have ho3:OB h1 h3 m2 (Jr N false):=by unfold OB;rw[<-zll];exact ho3
 refine zdj (λf st h'=>∃gn:List Bool,OB h1 h' m2 gn/\gn.length=N/\(∀C:List Int,(∀x∈C,0<=x/\x<N)->(∀x∈C,3<=We es C x)->∀x∈C,x∈gl gn) /\
  (st.1=false->∀x∈gl gn,3<=We es (gl gn) x)/\zdz gn*2+(if st.1=true then 1 else 0)<=f) (n0:=zdz (Jr N false)*2+1)
  ⟨_,ho3,by simp,λC hC _ x hx=>?_,λhh=>(by cases hh),by simp⟩ ?_
 . obtain⟨c1,c2⟩:=hC x hx;obtain⟨i,rfl⟩:∃i:Nat,x=i:=⟨x.toNat,by omega⟩;rw[z0z (by simp;omega)];simp
 rintro f ⟨ch,_⟩ h4 ⟨gn,ho,hgn,hgr,hst,hf⟩ K2 hK2;simp only at hst hf;have hle4:=Hp.le_trans hl1 ho.1;have hml:=ho.len;refine zi (λh5=>?_) (λh5=>?_)
 . 
  simp only at h5;rw[if_pos h5]at hf;refine zpp (size:=1) N N rfl rfl (Ja _) (by omega) (by omega) rfl λm5 h6 hm5 _ ho6=>?_
  have ho6:OI h4 h6 m5 (z8d [] (gl gn) N):=by
   have e:z8d [] (gl gn) N=Jr N 0:=by
    unfold z8d;refine List.ext_getElem (by simp) λi h1 h2=>?_
    simp[We]
   unfold OI;rw[e,<-zll];exact ho6
  refine yg (n:=es.length) (by omega) (λi h'=>OI h4 h' m5 (z8d (es.take i) (gl gn) N)) (by simpa using ho6) ?_;intro q h7 hq ho7 k hk2;have hle7:=Hp.le_trans hle4 ho7.dle;have hob7:OB h1 h7 m2 gn:=Own.le ho ho7.dle;refine ze (λh8=>?_) (λh8=>?_)
  . have hq':q<es.length:=by simp only at h8;omega
    have heq:=hes _ (Jh hq');obtain⟨a,ha⟩:∃a:Nat,es[q].1=a:=⟨es[q].1.toNat,by omega⟩;obtain⟨b,hb'⟩:∃b:Nat,es[q].2=b:=⟨es[q].2.toNat,by omega⟩;have haN:a<N:=by omega
    have hbN:b<N:=by omega
    have hst:es.take (q+1)=es.take q++[es[q]]:=(Jk hq').symm;refine zh (λ_ h'=>OI h4 h' m5 (z8d (es.take (q+1)) (gl gn) N)) (λ_ h' hh=>hk2 _ hq' hh) ?_;refine(hg.le yb hle7).get yb q rfl hq' λa10 x hxx hcx=>⟨_,hcx 0 _ rfl,_,hcx 1 _ rfl,?_⟩
    obtain⟨x1,x2⟩:=hxx;rw[x1,x2,ha,hb'];have same:¬(es[q].1∈gl gn/\es[q].2∈gl gn)->OI h4 h7 m5 (z8d (es.take (q+1)) (gl gn) N):=λhn=>by rw[hst,Z3m hn];exact ho7
    refine hob7.get a rfl (by omega) ?_;refine zi (λh9=>?_) (λh9=>same λhh=>?_)
    . refine hob7.get b rfl (by omega) ?_;refine zi (λh10=>?_) (λh10=>same λhh=>?_)
      . have hT:(a:Int)∈gl gn/\(b:Int)∈gl gn:=⟨(z0z (by omega)).2 (by simpa using h9),(z0z (by omega)).2 (by simpa using h10)⟩;have hdl:∀i,We (es.take q) (gl gn) i<=es.length:=λi=>Jt Zdm (by rw[List.length_take];omega)
        have hga:∀{i:Nat} (hi:i<N) (hh:i<(z8d (es.take q) (gl gn) N).length),(z8d (es.take q) (gl gn) N)[i]=((We (es.take q) (gl gn) (i:Int):Nat):Int):=λhi hh=>by
         have:=zfj (es:=es.take q) (T:=gl gn) hi;rw[Jc hh]at this;exact J9 this
        refine ho7.il.get a rfl (by rw[Vv];exact haN) ?_;rw[hga haN (by rw[Vv];exact haN)];have d1:=hdl (a:Int);have d2:=hdl (b:Int);rw[w64 (by omega)];refine ho7.set a rfl (by rw[Vv];exact haN) λh11 ho11=>?_
        refine ho11.il.get b rfl (by rw[Gl,Vv];exact hbN) ?_;have hab:a≠b:=by omega
        rw[List.getElem_set_ne hab,hga hbN (by rw[Vv];exact hbN),w64 (by omega)];refine ho11.set b rfl (by rw[Gl,Vv];exact hbN) λh12 ho12=>?_
        show OI _ _ _ _;rw[hst];have he2:es[q]=((a:Int),(b:Int)):=Prod.ext ha hb';rw[he2,<-Zdn haN hbN hab hT];exact ho12
      . rw[hb',z0z (by omega)]at hh;rw[hh.2]at h10;cases h10
    . rw[ha,z0z (by omega)]at hh;rw[hh.1]at h9;cases h9
  . have:q=es.length:=by simp only at h8;omega
    subst this;rw[Jw]at ho7;have hap:Apt m2 m5:=Ze8 ho ho7;have hod:OI h1 h7 m5 (z8d es (gl gn) N):=OI.base ho7 ho.1;have hml7:=hob7.len;refine Zp (λst h'=>∃(i:Nat) (gn':List Bool),st.2.1=(i:Int)/\i<=N/\OB h1 h' m2 gn'/\OI h1 h' m5 (z8d es (gl gn) N)/\gn'.length=N /\
     (∀j (hj:j<N),i<=j->gn'.getD j true=gn.getD j true)/\(∀j (hj:j<N),gn'.getD j true=true->gn.getD j true=true\/We es (gl gn) (j:Int)<=2)/\(∀j (hj:j<N),gn.getD j true=true->gn'.getD j true=true) /\
     (∀j (hj:j<N),j<i->gn'.getD j true=false->3<=We es (gl gn) (j:Int))/\(st.1=false->gn'=gn)/\(st.1=true->zdz gn'<zdz gn)/\zdz gn'<=zdz gn) (λst=>(N-st.2.1).toNat)
     ⟨0,gn,rfl,by omega,hob7,hod,hgn,λj hj _=>rfl,λj hj hh=>.inl hh,λj hj hh=>hh,λj hj hji=>by omega,λ_=>rfl,λhh=>(by cases hh),Ja _⟩ ?_
    clear hob7 hod ho7 hk2;rintro⟨c9,i9,_⟩ h9 ⟨i,gn',hi9,hi,hob,hod,hgn',r1,r2,r3,r4,r5,r6,r7⟩;simp only at hi9;subst hi9;have hobl:=hob.len;refine ze (λh10=>?_) (λh10=>?_)
    . have hi':i<N:=by simp only at h10;omega
      have hcur:=r1 i hi' (Ja _);rw[qf (by omega)]at hcur;refine zh (λs h'=>∃gn'':List Bool,OB h1 h' m2 gn''/\OI h1 h' m5 (z8d es (gl gn) N)/\gn''.length=N /\
       (∀j (hj:j<N),i+1<=j->gn''.getD j true=gn.getD j true)/\(∀j (hj:j<N),gn''.getD j true=true->gn.getD j true=true\/We es (gl gn) (j:Int)<=2)/\(∀j (hj:j<N),gn.getD j true=true->gn''.getD j true=true) /\
       (∀j (hj:j<N),j<i+1->gn''.getD j true=false->3<=We es (gl gn) (j:Int))/\(s.1=false->gn''=gn)/\(s.1=true->zdz gn''<zdz gn)/\zdz gn''<=zdz gn) ?_ ?_
      . rintro⟨c,_⟩ h11 ⟨gn'',q1,q2,q3,q4,q5,q6,q7,q8,q9,q10⟩;exact⟨⟨i+1,gn'',by(try simp only);rw[w64 (by omega)];rfl,by omega,q1,q2,q3,q4,q5,q6,q7,q8,q9,q10⟩,by(try simp only);rw[w64 (by omega)];omega⟩
      . refine hob.get i rfl (by omega) ?_;have hd3:∀j (hj:j<N),j<i+1->gn'.getD j true=false->(j=i->3<=We es (gl gn) (i:Int))->3<=We es (gl gn) (j:Int):=λj hj hji hh hc=>by
         rcases Jo j i with h1 | h1
         . exact r4 j hj h1 hh
         . have:j=i:=by omega
           subst this;exact hc rfl
        refine zi (λh11=>?_) (λh11=>⟨gn',hob,hod,hgn',λj hj hij=>r1 j hj (by omega),r2,r3,λj hj hji hh=>hd3 j hj hji hh λe=>?_,r5,r6,r7⟩)
        . refine hod.il.get i rfl (by rw[Vv];exact hi') ?_;have hgi:(z8d es (gl gn) N)[i]'(by rw[Vv];exact hi')=((We es (gl gn) (i:Int):Nat):Int):=by
           have:=zfj (es:=es) (T:=gl gn) hi';rw[Jc (by rw[Vv];exact hi')]at this;exact J9 this
          rw[hgi];have hfal:gn'[i]'(by omega)=false:=by simpa using h11
          refine ze (λh12=>?_) (λh12=>⟨gn',hob,hod,hgn',λj hj hij=>r1 j hj (by omega),r2,r3,λj hj hji hh=>hd3 j hj hji hh λe=>by have h12:¬((We es (gl gn) (i:Int):Nat):Int)<=2:=h12;omega,r5,r6,r7⟩);have h12:((We es (gl gn) (i:Int):Nat):Int)<=2:=h12;refine hob.set i rfl (by omega) λh13 hob13 hs13=>?_
          have hod13:OI h1 h13 m5 (z8d es (gl gn) N):=Za0 hod hap hob13.1 hs13;have hcs:=Z3e (gn:=gn') (i:=i) (by omega) hfal;have gd:∀j,(gn'.set i true).getD j true=if j=i then true else gn'.getD j true:=λj=>by
           rw[Jf,List.getElem?_set];by_cases hji:i=j
           . subst hji;rw[if_pos rfl,if_pos (by omega),if_pos rfl];rfl
           . rw[if_neg hji,if_neg (λh=>hji h.symm),Jf]
          refine⟨gn'.set i true,hob13,hod13,by simpa using hgn',λj hj hij=>?_,λj hj hh=>?_,λj hj hh=>?_,λj hj hji hh=>?_,λhh=>(by cases hh),λ_=>by omega,by omega⟩
          . rw[gd,if_neg (by omega)];exact r1 j hj (by omega)
          . rw[gd]at hh;split at hh
            . rename_i e;subst e;exact .inr (by omega)
            . exact r2 j hj hh
          . rw[gd];split
            . rfl
            . exact r3 j hj hh
          . rw[gd]at hh;split at hh
            . cases hh
            . exact hd3 j hj hji hh λe=>by rename_i e2;exact absurd e e2
        . subst e;have hh2:gn'[j]'(by omega)=false:=by rw[qf (by omega)]at hh;exact hh
          rw[hh2]at h11;cases h11
    . have hiN:i=N:=by simp only at h10;omega
      subst hiN;have sub:∀x,x∈gl gn'->x∈gl gn:=λx hx=>by
       obtain⟨j,rfl,hj,hg2⟩:=zhb.1 hx;rw[z0z (by omega)];cases hgj:gn[j]'(by omega)with
       | false=>rfl
       | true=>
         have:=r3 j (by omega) (by rw[qf (by omega)];exact hgj);rw[qf (by omega),hg2]at this;cases this
      have hgr':∀C:List Int,(∀x∈C,0<=x/\x<i)->(∀x∈C,3<=We es C x)->∀x∈C,x∈gl gn':=λC hC hC3 x hx=>by
       have hx2:=hgr C hC hC3 x hx;obtain⟨j,rfl,hj,hg2⟩:=zhb.1 hx2;rw[z0z (by omega)];cases hgj:gn'[j]'(by omega)with
       | false=>rfl
       | true=>
         rcases r2 j (by omega) (by rw[qf (by omega)];exact hgj)with h1 | h1
         . rw[qf (by omega),hg2]at h1;cases h1
         . exact absurd hx (znf hC3 (hgr C hC hC3) h1)
      cases hc:c9 with
      | false=>
        have e:=r5 hc;subst e;refine hK2 (zdz gn'*2) _ _ (by omega) ⟨gn',hob,hgn,hgr',λ_ x hx=>?_,by simp⟩;obtain⟨j,rfl,hj,hg2⟩:=zhb.1 hx;exact r4 j (by omega) (by omega) (by rw[qf (by omega)];exact hg2)
      | true=>
        have e:=r6 hc;exact hK2 (zdz gn'*2+1) _ _ (by omega) ⟨gn',hob,hgn',hgr',λhh=>(by cases hh),by simp⟩
 . simp only at h5;have hdeg:=hst h5;refine Yq (n:=N) (by omega) (λi y h'=>OI h4 h' y ((gl gn).filter λx=>decide (x<i))) (by
    have e:(gl gn).filter (λx=>decide (x<((0:Nat):Int)))=[]:=by
     rw[List.filter_eq_nil_iff];intro x hx;obtain⟨j,rfl,_⟩:=zhb.1 hx;simp
    rw[e];exact OI.nil) ?_
   intro i y h6 hi ho6 k hk2;have hob6:OB h1 h6 m2 gn:=Own.le ho ho6.dle;have hob6l:=hob6.len;refine ze (λh7=>?_) (λh7=>?_)
   . have hi':i<N:=by simp only at h7;omega
     have hstep:(gl gn).filter (λx=>decide (x<((i+1:Nat):Int)))=(gl gn).filter (λx=>decide (x<(i:Int)))++(if gn[i]'(by omega)=false then [(i:Int)]else []):=by
      have key:∀n:Nat,(gl gn).filter (λx=>decide (x<(n:Int)))=((Jp gn.length).filter λj=>!(gn.getD j true)&&decide (j<n)).map λj:Nat=>(j:Int):=λn=>by
       unfold gl;rw[List.filter_map,List.filter_filter];congr 1;refine List.filter_congr λj _=>?_
       simp only[Function.comp_apply];rw[Bool.and_comm];congr 1;simp
      have key2:∀n:Nat,n<=gn.length->(Jp gn.length).filter (λj=>!(gn.getD j true)&&decide (j<n))=(Jp n).filter λj=>!(gn.getD j true):=λn hn=>by
       have e1:(Jp gn.length).filter (λj=>!(gn.getD j true)&&decide (j<n))=((Jp gn.length).filter λj=>decide (j<n)).filter λj=>!(gn.getD j true):=by rw[List.filter_filter]
       have e2:(Jp gn.length).filter (λj=>decide (j<n))=Jp n:=by
        obtain⟨d,hd⟩:∃d,gn.length=n+d:=⟨gn.length-n,by omega⟩;rw[hd,List.range_add,List.filter_append];have f1:(Jp n).filter (λj=>decide (j<n))=Jp n:=by
         rw[P7];intro j hj;exact decide_eq_true (Uv.1 hj)
        have f2:((Jp d).map (n+·)).filter (λj=>decide (j<n))=[]:=by
         rw[List.filter_eq_nil_iff];intro j hj;obtain⟨q,_,rfl⟩:=List.mem_map.1 hj;simp
        rw[f1,f2,Gt]
       rw[e1,e2]
      rw[key,key,key2 _ (by omega),key2 _ (by omega),List.range_succ,List.filter_append,List.map_append];congr 1;have hgi:gn.getD i true=gn[i]'(by omega):=qf (by omega);rw[zwh,hgi];cases hg2:gn[i]'(by omega)<;>rfl
     have hfl:((gl gn).filter λx=>decide (x<(i:Int))).length<=60:=by
      refine Jt (List.length_filter_le _ _) ?_;unfold gl;rw[List.length_map];refine Jt (List.length_filter_le _ _) ?_;rw[List.length_range];omega
     refine zh (λs h'=>OI h4 h' s.1 ((gl gn).filter λx=>decide (x<((i+1:Nat):Int)))) (λs h' hs=>hk2 _ _ hi' hs) ?_;refine hob6.get i rfl (by omega) ?_;refine zi (λh8=>?_) (λh8=>?_)
     . refine ho6.app (by omega) λw h9 ho9=>?_
       show OI _ _ _ _;rw[hstep,if_pos (by simpa using h8)];exact ho9
     . show OI _ _ _ _;rw[hstep,if_neg (by simpa using h8),Gt];exact ho6
   . have:i=N:=by simp only at h7;omega
     subst this;have e:(gl gn).filter (λx=>decide (x<(i:Int)))=gl gn:=by
      rw[P7];intro x hx;obtain⟨j,rfl,hj,_⟩:=zhb.1 hx;exact decide_eq_true (by omega)
     rw[e]at ho6;exact hk _ _ (Hp.le_trans hle4 ho6.dle) (.inr ⟨hv,gl gn,ho6.il,Zjk hgn,hdeg,hgr⟩)
def ze1(es:List (Int×Int))(T:List Int):Nat:=es.countP λe=>decide (e.1∈T)&&decide (e.2∈T)
end
end Den
end

section
namespace Den
open Go Iv Lx
section
variable {h : Hp} {Kb : Bool → Hp → Prop}
theorem Z3o{K:TGraph->Hp->Prop}(H:∀s h',h.le h'->LR a2c 2 A2P h' s z8e->K ⟨4,s⟩ h'):zc F.z1u K h:=by
 refine zd (λg h'=>∃s,g=⟨4,s⟩/\LR a2c 2 A2P h' s z8e) (λK' hk=>?_) λg h' hl hg=>by obtain⟨s,rfl,hs⟩:=hg;exact H s h' hl hs
 unfold F.z1u;refine zce 2 5 rfl λp1 h1 hl1 hr=>hk _ _ hl1 ⟨_,rfl,EL.lr ⟨?_,Ja _⟩⟩
 exact hr
theorem Z1z{n:Int}{es:List (Int×Int)}{t:PTr}(hr:Reach (es.map lfE) [t]):t.right/\t.bars.Perm es:=by
 obtain⟨h1,h2⟩:=hr.keep;refine⟨h1 t (List.mem_cons_self ..),?_⟩;have e:[t].flatMap PTr.bars=t.bars:=by simp
 rwa [e]at h2
theorem zee(ht:GT h)(H:∀h',h.le h'->Kb true h'):zc F.Xu Kb h:=by
 refine zd (λb h'=>b=true) (λK' hk=>?_) λb h' hl hb=>by subst hb;exact H h' hl
 unfold F.Xu;have hh:=Ziq;have hgv:GV 4 z8e:=hh.gv;have hok:=GV.okE (m:=4) hgv;refine Z3o λs h1 hl1 hs1=>?_
 refine zce 2 4 rfl λp2 h2 hl2 hr2=>?_
 have hat:AT h2 ⟨some p2,4,4⟩ Zip:=⟨hr2,by decide⟩;have hs2:=hs1.le yb hl2;refine zkb (G:=⟨4,s⟩) (n:=4) hs2 rfl (by decide) (by decide) hok hat rfl λy h3 hl3 hy=>?_
 refine Z28 hy hh.indep (by decide) (by decide) (by decide) (by decide) λy2 h4 hl4 hy2=>?_
 have hs4:=hs2.le yb (Hp.le_trans hl3 hl4);refine zux (G:=⟨4,s⟩) hs4 hgv (by show(4:Int)<=12;omega) (λX h5 t hl5 hX hre hpt=>?_) (λX e h5 ts hl5 he hre hn hne=>?_)
 . have hs5:=hs4.le yb hl5;obtain⟨tr,tp⟩:=Z1z (n:=4) hre;refine zu (λ_=>?_) (λhh=>absurd rfl hh);refine zu (λ_=>?_) (λhh=>absurd (by simp only;rw[hy2];rfl) hh);refine zx7 (G:=⟨4,s⟩) hs5 hgv hh.sp rfl λh6 hl6=>Z4 rfl ?_
   refine zu (λ_=>?_) (λhh=>absurd rfl hh);refine ztm (G:=⟨4,s⟩) (t:=t) (hs5.le yb hl6) hgv (by show(4:Int)<=12;omega) (hX.le hl6) tr tp hpt λh7 hl7=>Z4 rfl ?_
   have hle7:h2.le h7:=Hp.le_trans hl3 (Hp.le_trans hl4 (Hp.le_trans hl5 (Hp.le_trans hl6 hl7)));refine z9k (G:=⟨4,s⟩) (n:=4) (hs2.le yb hle7) rfl (by decide) (by decide) (hat.le hle7) rfl λsk S h8 hl8 hsk hfs=>?_
   obtain⟨k1,k2,k3⟩:=Zis hfs;have hle8:=Hp.le_trans (Hp.le_trans hl1 hl2) (Hp.le_trans hle7 hl8);refine z7k hsk k1 (ht.le hle8) λb h9 hl9 hb=>?_
   rw[hb.2 ⟨k2,k3⟩];refine Z4 rfl ?_;refine zjf (g:=⟨4,s⟩) (hs2.le yb (Hp.le_trans hle7 (Hp.le_trans hl8 hl9))) (by decide) (λh10 hl10 hng=>absurd hgv hng) λy T h10 hl10 _ hT hc=>hk _ _ (Hp.le_trans hle8 (Hp.le_trans hl9 hl10)) ?_
   have e:=Z3p hc;subst e;have:=hT.len;rw[this];rfl
 . obtain⟨t,rfl,h6⟩:=Zir hre hn;exact absurd h6 (hne t rfl)
end
end Den
end

section
namespace Den
open Go Iv Lx
section
variable {h : Hp} {es : List (Int × Int)} {g : TGraph} {K : Bool → Hp → Prop}
theorem Z9a(hg:LR a2c 2 A2P h g.edges es)(ht:GT h)(hlen:es.length<=140737488355328){k:Unit->Hp->Prop}(hk:∀h',h.le h'->K true h')(hm:∀h',h.le h'->GV g.n es->g.n<=8->es.length<=20->k () h') :
 zc F.Xu (λr8 h7=>ifP (!r8) (zc F.Xu (λr9 h8=>K r9 h8) h7) (zc (F.zdt g) (λr10 h9=>ifP (!r10) (zc F.Xu (λr11 h10=>K r11 h10) h9) (zc (F.z63 g) (λr12 h11=>ifP (!r12) (zc F.Xu (λr13 h12=>K r13 h12) h11) (k () h11)) h9)) h7)) h:=by
 have hgl:=hg.len yb;refine zee ht λh1 hl1=>zr rfl ?_
 refine zd (λb h'=>b=decide (g.n<=8/\es.length<=20)) (λK2 hk2=>?_) λb h2 hl2 hb=>?_
 . unfold F.zdt;refine ze (λh3=>hk2 _ _ (Hp.le_refl _) ?_) (λh3=>hk2 _ _ (Hp.le_refl _) ?_)
   . rw[hgl];by_cases h4:es.length<=20
     . rw[decide_eq_true (by omega),decide_eq_true ⟨h3,h4⟩]
     . rw[decide_eq_false (by omega),decide_eq_false (λhh=>h4 hh.2)]
   . rw[decide_eq_false (λhh=>h3 hh.1)]
 . subst hb;have hle:=Hp.le_trans hl1 hl2;by_cases h3:g.n<=8/\es.length<=20
   . rw[decide_eq_true h3];refine zr rfl ?_;refine zmg (hg.le yb hle) hlen λb h4 hl4 hb=>?_
     cases b with
     | true=>exact zr rfl (hm _ (Hp.le_trans hle hl4) (hb.1 rfl) h3.1 h3.2)
     | false=>exact Z4 rfl (zee (ht.le (Hp.le_trans hle hl4)) λh5 hl5=>hk _ (Hp.le_trans (Hp.le_trans hle hl4) hl5))
   . rw[decide_eq_false h3];exact Z4 rfl (zee (ht.le hle) λh5 hl5=>hk _ (Hp.le_trans hle hl5))
end
end Den
end

section
namespace Den
open Go Iv Lx
section
variable {h : Hp} {g : TGraph} {es : List (Int × Int)} {S : PSk} {Kb : Bool → Hp → Prop}
end
theorem DCL.get{z:Int}:∀{l:List PCon} {q:List (Int×Int)},DCL z l q->∀{k:Nat} (h1:k<l.length) (h2:k<q.length),DC z l[k] q[k]
 | [],_,_,k,h1,_=>by simp at h1
 | a :: r,b :: q,h,0,_,_=>h.1
 | a :: r,b :: q,h,k+1,h1,h2=>DCL.get h.2 (by simpa using h1) (by simpa using h2)
 | a :: r,[],h,_,_,_=>h.elim
theorem DSK.allC{z:Int}{S:PSk}{n:Nat}{es:List (Int×Int)}(h:DSK z S n es):Den.Yw S=S.con:=by
 unfold Den.Yw imp zfq;rw[h.2.2.2.2.1];simp
theorem DSK.its{z:Int}{S:PSk}{n:Nat}{es:List (Int×Int)}(h:DSK z S n es):Den.its S=es.map λe=>[e.1,e.2]:=by
 have hl:=h.2.2.2.2.2.2.len;unfold Den.its;rw[h.allC];refine List.ext_getElem (by simp[hl]) λk h1 h2=>?_
 rw[Ts,Ts];obtain⟨x,_,e⟩:=h.2.2.2.2.2.2.get (k:=k) (by simpa using h1) (by simpa using h2);rw[e];simp[Qq]
theorem DSK.all{z:Int}{S:PSk}{n:Nat}{es:List (Int×Int)}(h:DSK z S n es):Xd S=z8h n:=by
 unfold Xd zjj z8h;rw[h.1,h.2.2.1];simp
theorem DSK.kind{z:Int}{S:PSk}{n:Nat}{es:List (Int×Int)}(h:DSK z S n es){k:Nat}(hk:k<es.length):(Den.Yw S).getD k dC=⟨2,[es[k].1,es[k].2],[],((Den.Yw S).getD k dC).vals,0⟩:=by
 have hl:=h.2.2.2.2.2.2.len;rw[h.allC,qf (by omega)];obtain⟨x,_,e⟩:=h.2.2.2.2.2.2.get (k:=k) (by omega) hk;rw[e]
theorem Zd0{z:Int}{S:PSk}{n:Nat}{es:List (Int×Int)}(h:DSK z S n es){T R:List Int}(hT:∀e∈es,(e.1∈T↔e.1∉R)/\(e.2∈T↔e.2∉R)){i:Int}:∀k,k<=es.length->wtL (Den.Yw S) (zbk (Den.its S) i R k)=We (es.take k) T i
 | 0,_=>by simp[zbk,wtL,We]
 | k+1,hk=>by
   have hk':k<es.length:=by omega
   have ih:=Zd0 h hT (i:=i) k (by omega);have hg:(Den.its S).getD k []=[es[k].1,es[k].2]:=by
    rw[h.its,qf (by simpa using hk'),Ts]
   have hstep:zbk (Den.its S) i R (k+1)=zbk (Den.its S) i R k++(if zc8 ((Den.its S).getD k []) i R then [(k:Int)]else []):=rfl;rw[<-Jk hk',zgz,<-ih,hstep,hg];have ht:=hT _ (Jh hk');have e:zc8 [es[k].1,es[k].2] i R↔(es[k].1∈T/\es[k].2∈T/\(es[k].1=i\/es[k].2=i)):=by
    unfold zc8;simp only[Ju,Uk,or_false,forall_eq_or_imp,forall_eq];rw[ht.1,ht.2];constructor
    . rintro⟨h1,h2,h3⟩;exact⟨h2,h3,h1.imp Eq.symm Eq.symm⟩
    . rintro⟨h2,h3,h1⟩;exact⟨h1.imp Eq.symm Eq.symm,h2,h3⟩
   by_cases hh:es[k].1∈T/\es[k].2∈T/\(es[k].1=i\/es[k].2=i)
   . rw[if_pos (e.2 hh),if_pos hh,ztz,show((k:Nat):Int).toNat=k from rfl,h.kind hk'];rfl
   . rw[if_neg (λh=>hh (e.1 h)),if_neg hh,Gt];rfl
theorem zys{z:Int}{S:PSk}{n:Nat}{es:List (Int×Int)}(h:DSK z S n es){T R:List Int}(hT:∀e∈es,(e.1∈T↔e.1∉R)/\(e.2∈T↔e.2∉R)){i:Int}(hi:0<=i):zfb (Den.Yw S) (qw S) R i↔i∉R/\We es T i<=2:=by
 have e0:(Den.Yw S).map (λc=>Qq c (qw S))=Den.its S:=rfl;have hlen:(Den.its S).length=es.length:=by rw[h.its];simp
 have hw:=Zd0 h hT (i:=i) es.length (Ja _);rw[Jw]at hw;unfold zfb;rw[e0];have hm:zae i=2:=by unfold zae;rw[if_neg (by omega)]
 have hr:zat (Den.its S) i R=zbk (Den.its S) i R es.length:=by unfold zat;rw[hlen]
 rw[hm,hr,hw];constructor
 . exact λhh=>⟨hh.1,hh.2.1⟩
 . rintro⟨h1,h2⟩;refine⟨h1,h2,λj hj=>?_⟩;obtain⟨k,hk,rfl,hkp⟩:=zli.1 hj;rw[show((k:Nat):Int).toNat=k from rfl,h.kind hk];have hg:(Den.its S).getD k []=[es[k].1,es[k].2]:=by
    rw[h.its,qf (by simpa using hk),Ts]
   have hmem:i∈[es[k].1,es[k].2]:=by rw[<-hg];exact hkp.1
   unfold z8z;rw[if_neg (by omega),if_neg (by show ¬eqK 2=2;decide)];right;unfold zc9;simp only;rw[if_neg (by decide),if_neg (by decide),if_neg (by decide),if_neg (λhn=>hn hmem),if_neg (by decide),if_pos trivial]
theorem Zdl{z:Int}{S:PSk}{n:Nat}{es:List (Int×Int)}(h:DSK z S n es)(hes:∀e∈es,0<=e.1/\e.1<e.2/\e.2<n):IsCore n es (z0q S):=by
 have hmem:∀{R:List Int} {x:Int},x∈Xp (Xd S) R↔(0<=x/\x<n)/\x∉R:=λ{R x}=>by
  unfold Xp;rw[Ta,h.all,z9n];simp
 have hT:∀R:List Int,∀e∈es,(e.1∈Xp (Xd S) R↔e.1∉R)/\(e.2∈Xp (Xd S) R↔e.2∉R):=λR e he=>by
  have:=hes e he;rw[hmem,hmem];exact⟨⟨λh=>h.2,λh=>⟨by omega,h⟩⟩,⟨λh=>h.2,λh=>⟨by omega,h⟩⟩⟩
 refine⟨?_,λi hi=>?_,λC hC hC3 i hi=>?_⟩
 . have e0:z0q S=(z8h n).filter λx=>decide (x∉z12 S (Xd S)):=by
    rw[<-h.all];rfl
   refine e0.trans (List.filter_congr λx hx=>?_);have:x∈z0q S↔x∉z12 S (Xd S):=by
    unfold z0q;rw[hmem];exact⟨λh=>h.2,λh=>⟨z9n.1 hx,h⟩⟩
   simp only[this]
 . have hi2:=hmem.1 hi;have he:=Z1o (S:=S) (pref:=Xd S) (x:=i) (by rw[h.all,z9n];exact hi2.1);rw[zys h (hT _) (by omega)]at he;have:We es (z0q S) i=We es (Xp (Xd S) (z12 S (Xd S))) i:=rfl;rw[this];exact Nat.lt_of_not_le λhh=>he ⟨hi2.2,hh⟩
 . suffices H:∀k,k<=(z12 S (Xd S)).length->∀x∈(z12 S (Xd S)).take k,x∉C by
    have:=H _ (Ja _);rw[Jw]at this;exact hmem.2 ⟨hC i hi,λhp=>this i hp hi⟩
   intro k;induction k with
   | zero=>intro _ x hx;simp at hx
   | succ k ih=>
     intro hk x hx;have hk':k<(z12 S (Xd S)).length:=by omega
     rw[<-Jk hk',List.mem_append]at hx;rcases hx with hx | hx
     . exact ih (by omega) x hx
     . rw[J6]at hx;obtain⟨h1,h2⟩:=Za2 (S:=S) (pref:=Xd S) hk';rw[qf hk',<-hx]at h1 h2;rw[h.all,z9n]at h2;rw[zys h (hT _) h2.1]at h1;exact znf hC3 (λy hy=>hmem.2 ⟨hC y hy,λhp=>ih (by omega) y hp hy⟩) h1.2
theorem Zpc{z:Int}{S:PSk}{n:Nat}{es:List (Int×Int)}(h:DSK z S n es)(T:List Int):(wiS S T).length=ze1 es T:=by
 unfold wiS;have hl:(Den.its S).length=es.length:=by rw[h.its];simp
 rw[hl]
 suffices H:∀k,k<=es.length->(wiN (Den.its S) T k).length=ze1 (es.take k) T by
  have:=H _ (Ja _)
  rwa [Jw]at this
 intro k;induction k with
 | zero=>intro _;simp[wiN,ze1]
 | succ k ih=>
   intro hk;have hk':k<es.length:=by omega
   have hg:(Den.its S).getD k []=[es[k].1,es[k].2]:=by
    rw[h.its,qf (by simpa using hk'),Ts]
   unfold wiN;rw[Je,ih (by omega),hg,<-Jk hk'];unfold ze1;rw[Uo,Uc];congr 1;have e:zi8 [es[k].1,es[k].2] T↔es[k].1∈T/\es[k].2∈T:=by unfold zi8;simp
   by_cases hh:es[k].1∈T/\es[k].2∈T
   . rw[if_pos (e.2 hh),if_pos (by simp[hh.1,hh.2])];rfl
   . rw[if_neg (λh3=>hh (e.1 h3)),if_neg]
     . rfl
     . intro h3;simp only[Bool.and_eq_true,decide_eq_true_iff]at h3;exact hh h3
section
variable {h : Hp} {s : TSketch} {S : PSk} {Kb : Bool → Hp → Prop}
end
end Den
end

section
namespace Den
open Go Iv Lx
theorem Zil{z:Int}{f:Nat->Int×Int->PCon}:∀{es:List (Int×Int)},(∀i e,DC z (f i e) e)->DCL z ((Jp es.length).map λi=>f i (es.getD i (0,0))) es:=by
 intro es H;have key:∀k,k<=es.length->DCL z ((Jp k).map λi=>f i (es.getD i (0,0))) (es.take k):=by
  intro k;induction k with
  | zero=>intro _;exact trivial
  | succ k ih=>
    intro hk;rw[List.range_succ,List.map_append,List.map_singleton,<-Jk (by omega)];have e:es.getD k (0,0)=es[k]:=by rw[Jf,Jc (by omega)];rfl
    rw[e];exact DCL.snoc (H k _) (ih (by omega))
 have:=key es.length (Ja _);rw[Jw]at this;exact this
theorem FSk.dsk{es ps:List (Int×Int)}{S:PSk}{n:Nat}(h:FSk es ps S)(hn:ps.length=n):DSK 5 S n es:=by
 obtain⟨h1,h2,h3,h4,h5,xs,hx1,hx2,h6⟩:=h;refine⟨by rw[h1,List.length_map,hn],λp hp=>?_,h2,h3,h4,h5,?_⟩
 . rw[h1,List.mem_map]at hp;obtain⟨q,_,rfl⟩:=hp;exact⟨rfl,rfl⟩
 . rw[h6];refine Zil (f:=λi e=>z27 e (xs.getD i ⟨⟨false,zf⟩,⟨false,zf⟩⟩)) λi e=>⟨_,?_,rfl⟩
   rw[Jf];rcases Jo i xs.length with hi | hi
   . rw[Jc hi];have:=hx2 _ (Jh hi);exact⟨by show(xs[i]).num.mag.len<=4;omega,by show(xs[i]).den.mag.len<=4;omega⟩
   . rw[J5 hi];exact⟨Ga _,Ga _⟩
theorem Z9b(x:Int):-128<=i8.wrap x/\i8.wrap x<=127:=by
 simp[IntKind.wrap,IntKind.signed,IntKind.bits];omega
section
variable {h : Hp} {es : List (Int × Int)} {g : TGraph} {K : Bool → Hp → Prop}
theorem zii{l m:Sl}{xs ys:List Int}{Kb:Bool->Hp->Prop}(hx:IL h l xs)(hy:IL h m ys)(hlen:xs.length<=1000000)(H:∀h',h.le h'->Kb (decide (xs=ys)) h'):zc (F.z3y l m) Kb h:=ztc hx hy hlen H
theorem zml{T:List Int}{ts:Sl}{Ks:Sl->Hp->Prop}(hg:LR a2c 2 A2P h g.edges es)(hlen:es.length<=1000000)(hv:GV g.n es)(ht:IL h ts T)(hT:T.length<=1000000)(H:∀y h',h.le h'->y.len=ze1 es T->Ks y h'):zc (F.z59 g ts) Ks h:=by
 refine zd (λy h'=>y.len=ze1 es T) (λK' hk=>?_) λy h' hl hb=>H y h' hl hb
 unfold F.z59;have hgl:=hg.len yb;refine z0x hg (by omega) λb h0 hl0 hb=>?_
 rw[hb.2 hv];refine zr rfl ?_;refine Yq (n:=es.length) (by omega) (λi y h'=>∃xs:List (Int×Int),LO a2c 2 A2P h0 h' y xs/\xs.length=ze1 (es.take i) T) ⟨[],LO.nil,by simp[ze1]⟩ ?_;rintro i y h1 hi ⟨xs,ho,hx⟩ k hk2;have hle:=Hp.le_trans hl0 ho.dle;have hcl:ze1 (es.take i) T<=i:=Jt List.countP_le_length (by rw[List.length_take];omega);refine ze (λh2=>?_) (λh2=>?_)
 . have hi':i<es.length:=by simp only at h2;omega
   have hst:ze1 (es.take (i+1)) T=ze1 (es.take i) T+(if es[i].1∈T/\es[i].2∈T then 1 else 0):=by
    unfold ze1;rw[<-Jk hi',Uo,Uc];congr 1;by_cases hh:es[i].1∈T/\es[i].2∈T
    . rw[if_pos hh,if_pos (by simp[hh.1,hh.2])]
    . rw[if_neg hh,if_neg];intro h3;simp only[Bool.and_eq_true,decide_eq_true_iff]at h3;exact hh h3
   refine zh (λs h'=>∃xs:List (Int×Int),LO a2c 2 A2P h0 h' s.1 xs/\xs.length=ze1 (es.take (i+1)) T) (λs h' hs=>hk2 _ _ hi' hs) ?_;refine(hg.le yb hle).get yb i rfl hi' λa x hxx hcx=>⟨_,hcx 0 _ rfl,_,hcx 1 _ rfl,?_⟩
   rw[hxx.1,hxx.2];have same:∀h',h1.le h'->¬(es[i].1∈T/\es[i].2∈T)->∃xs:List (Int×Int),LO a2c 2 A2P h0 h' y xs/\xs.length=ze1 (es.take (i+1)) T:=λh' hl hn=>⟨xs,ho.le hl,by rw[hst,if_neg hn];exact hx⟩
   refine Qz (ht.le hle) hT λh4 hl4=>?_
   refine ze (λh5=>?_) (λh5=>same _ hl4 λhh=>h5 hh.1);refine Qz (ht.le (Hp.le_trans hle hl4)) hT λh6 hl6=>?_
   have l6:=Hp.le_trans hl4 hl6;refine ze (λh7=>?_) (λh7=>same _ l6 λhh=>h7 hh.2);refine(ho.le l6).app (x:=(⟨es[i].1,es[i].2⟩:A2_Int)) (b:=es[i]) yb rfl (by omega) (by omega) ⟨rfl,rfl⟩ λw h8 ho8=>⟨_,ho8,?_⟩
   rw[hst,if_pos ⟨h5,h7⟩,Je,hx];rfl
 . have:i=es.length:=by simp only at h2;omega
   subst this;rw[Jw]at hx;exact hk _ _ hle (by rw[ho.len yb];exact hx)
theorem Zgx(hg:LR a2c 2 A2P h g.edges es)(hlen:es.length<=140737488355328)(ht:GT h)(hk:∀h',h.le h'->K true h'):F.zd1 g K h:=by
 unfold F.zd1;refine zh (λ_ h'=>h.le h'/\GV g.n es/\g.n<=8/\es.length<=20) ?_ ?_
 . rintro _ h1 ⟨hl1,hv,h8,h20⟩;have hgl:=hg.len yb;obtain⟨N,hN⟩:∃N:Nat,g.n=N:=⟨g.n.toNat,by have:=hv.1.1;omega⟩;have hv':=hv;have hes:=hv.2.1;rw[hN]at hes;refine zpp (size:=2) N N hN hN (Ja _) (by omega) (by omega) rfl λm3 h2 hm2 _ ho2=>?_
   refine yg (n:=N) (by omega) (λi h'=>∃ps:List (Int×Int),Own h1 h' 2 m3 (ps.flatMap zwe)/\ps.length=N/\∀p∈ps,-128<=p.1/\p.1<=127/\-128<=p.2/\p.2<=127) ⟨Jr N (0,0),?_,by simp,λp hp=>by rw[List.eq_of_mem_replicate hp];decide⟩ ?_
   . have e:yn N [Value.int .i8 0,Value.int .i8 0]=(Jr N ((0:Int),(0:Int))).flatMap zwe:=by
      unfold yn;rw[List.flatMap_def,List.map_replicate];rfl
     rw[<-e];exact ho2
   rintro i h3 hi ⟨ps,ho3,hpl,hpr⟩ k hk2;refine ze (λh4=>?_) (λh4=>?_)
   . have hi':i<N:=by simp only at h4;omega
     refine zq9 (c:=zwe) (n:=2) (x:=(_,_)) (λ_=>rfl) (by decide) i ho3 rfl (by omega) rfl λh' g1 _=>hk2 _ hi' ⟨_,g1,by rw[Gl,hpl],λp hp=>?_⟩
     rcases List.mem_or_eq_of_mem_set hp with hp | rfl
     . exact hpr p hp
     . have r1:=Z9b (i64.wrap (3*(i:Int)));have r2:=Z9b (i64.wrap ((i:Int)*(i:Int)));exact⟨r1.1,r1.2,r2.1,r2.2⟩
   have hl3:=Hp.le_trans hl1 ho3.1;have hat:AT h3 m3 ps:=⟨ho3.rd,hpr⟩;refine z9k (hg.le yb hl3) hN (by omega) (by omega) hat hpl λs4 S4 h4 hl4 hx4 hf4=>?_
   have hle4:=Hp.le_trans hl3 hl4;have hd4:=hf4.dsk hpl;have v4:VS S4:=hd4.vs zz4 hes;have ss4:sSk S4:=hd4.ss (by omega) h20;have k4:=Zdl hd4 hes;have hcl:=zn1 ss4;refine zq6 hx4 ss4 λr5 h5 hl5 hr5=>?_
   rw[hr5.2 v4];refine zr rfl ?_;have hle5:=Hp.le_trans hle4 hl5;refine Z04 (hx4.le hl5) ss4 (ht.le hle5) λr6 h6 hl6 hr6=>?_
   have hle6:=Hp.le_trans hle5 hl6;obtain⟨i1,i2⟩:IL h6 r6.1 (z0q S4)/\r6.2.len=ze1 es (z0q S4):=by
    rcases hr6 with ⟨_,_,h6,h7⟩ | ⟨h6,h7⟩
    . exact⟨h6,by rw[h7.len,Zpc hd4]⟩
    . rcases h6 with h6 | h6
      . exact absurd v4 h6
      . rw[h6,h7];refine⟨IL.nil,?_⟩;show 0=_;unfold ze1;simp
   refine zjf (hg.le yb hle6) (by omega) (λ_ _ hn=>absurd hv hn) (λy T h7 hl7 _ hi7 hc7=>?_);have hc7':=hc7;rw[hN,show((N:Nat):Int).toNat=N from rfl]at hc7;rw[hc7.unique k4]at hi7 hc7';have hle7:=Hp.le_trans hle6 hl7;have hx7:=(hx4.le hl5).le (Hp.le_trans hl6 hl7);refine zgn hx7 ss4 (ht.le hle7) (λ_ _ hn=>absurd v4 hn) λa b h9 hl9 _ ha hb=>?_
   have hle9:=Hp.le_trans hle7 hl9;have hyl:y.len=(z0q S4).length:=hi7.len;refine zh (λ_ h'=>h9.le h') ?_ ?_
   . rintro _ h10 hl10;refine z7k (hx7.le (Hp.le_trans hl9 hl10)) ss4 (ht.le (Hp.le_trans hle9 hl10)) λb11 h11 hl11 hb11=>?_
     have hle11:=Hp.le_trans (Hp.le_trans hle9 hl10) hl11;have e:(b11==((y.len:Int)==0))=true:=by
      rw[hyl];by_cases hc:z0q S4=[]
      . rw[hb11.2 ⟨v4,hc⟩,hc];rfl
      . have hb:b11=false:=by
         cases hbb:b11 with
         | false=>rfl
         | true=>exact absurd (hb11.1 hbb).2 hc
        have h1:(((z0q S4).length:Int)==0)=false:=by
         rw[beq_eq_false_iff_ne];intro hh;exact hc (Jn (by omega))
        rw[hb,h1];rfl
     rw[e];refine zr rfl ?_;refine ze (λh12=>hk _ hle11) (λh12=>?_);have hnil:z0q S4=[]:=Jn (by omega);rw[hnil]at k4;have hsp:X3 g.n.toNat es:=by rw[hN];exact zrn (n:=N) (by rw[<-hN];exact hv) k4
     refine z9m (hg.le yb hle11) hv hsp (by omega) λr15 h13 hl13 hr15=>?_
     have e2:((r15.len:Int)==(g.edges.len:Int))=true:=by
      rw[hr15.len,hgl];simp[z8h]
     rw[e2];exact hk _ (Hp.le_trans hle11 hl13)
   . have j6:IL h9 r6.1 (z0q S4):=i1.le (Hp.le_trans hl7 hl9);have j7:IL h9 y (z0q S4):=hi7.le hl9;refine zii j6 j7 (by omega) λh10 hl10=>?_
     refine zr (by rw[decide_eq_true rfl];rfl) ?_;have jb:IL h10 b (z0q S4):=hb.le hl10;refine zii jb (j7.le hl10) (by omega) λh11 hl11=>?_
     refine zr (by rw[decide_eq_true rfl];rfl) ?_;have l11:=Hp.le_trans hl10 hl11;refine zml (hg.le yb (Hp.le_trans hle9 l11)) (by omega) hv' (j7.le l11) (by omega) λy12 h12 hl12 hy12=>?_
     rw[i2,hy12];exact Z2 (λhh=>absurd rfl hh) (λ_=>Hp.le_trans l11 hl12)
 . exact Z9a (k:=λ_ h'=>h.le h'/\GV g.n es/\g.n<=8/\es.length<=20) hg ht hlen hk λh' hl h1 h2 h3=>⟨hl,h1,h2,h3⟩
end
end Den
end
