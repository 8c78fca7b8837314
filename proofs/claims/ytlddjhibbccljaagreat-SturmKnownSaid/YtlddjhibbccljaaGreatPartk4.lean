/-
  Part 4 of the tools and contracts from which the statement is proved.
-/
import Derived.Test.YtlddjhibbccljaaGreatPartk3
import Derived.Test.YtlddjhibbccljaaGreatProg
import Derived.Laws.Externs
import Derived.RangeFuncBox
import Derived.RangeFuncLeaves
import Derived.Shelf.Abstract
import Derived.WalkKit
import Derived.OwnWalkIn
import Derived.TacticsInMore
import Derived.LoopNIn
import Derived.LoopIn
set_option linter.unusedVariables false
open Go.IntKind
section
namespace Pq
def sm(n:Nat)(f:Nat->Rat):Rat:=match n with | 0=>0 | n+1=>sm n f+f n
theorem sm_zero{f:Nat->Rat}:sm 0 f=0:=rfl
theorem sm_succ{n:Nat}{f:Nat->Rat}:sm (n+1) f=sm n f+f n:=rfl
theorem sm_congr{n:Nat}{f g:Nat->Rat}(h:∀i,i<n->f i=g i):sm n f=sm n g:=by
 induction n with
 | zero=>rfl
 | succ n ih=>rw[sm_succ,sm_succ,ih (λi hi=>h i (by omega)),h n (by omega)]
theorem sm_add{n:Nat}{f g:Nat->Rat}:sm n (λi=>f i+g i)=sm n f+sm n g:=by
 induction n with
 | zero=>simp only[sm_zero];grind
 | succ n ih=>simp only[sm_succ,ih];grind
theorem sm_mul{n:Nat}{f:Nat->Rat}{c:Rat}:sm n (λi=>c*f i)=c*sm n f:=by
 induction n with
 | zero=>simp only[sm_zero];grind
 | succ n ih=>simp only[sm_succ,ih];grind
theorem sm_zeros{n:Nat}{f:Nat->Rat}(h:∀i,i<n->f i=0):sm n f=0:=by
 induction n with
 | zero=>rfl
 | succ n ih=>rw[sm_succ,ih (λi hi=>h i (by omega)),h n (by omega)];grind
theorem sm_head{n:Nat}{f:Nat->Rat}:sm (n+1) f=f 0+sm n (λi=>f (i+1)):=by
 induction n with
 | zero=>simp only[sm_succ,sm_zero];grind
 | succ n ih=>rw[sm_succ,ih,sm_succ];grind
theorem sm_rev{n:Nat}{f:Nat->Rat}:sm n f=sm n (λi=>f (n-1-i)):=by
 induction n with
 | zero=>rfl
 | succ n ih=>
   rw[sm_succ,sm_head (f:=λi=>f (n+1-1-i)),ih]
   have e:sm n (λi=>f (n-1-i))=sm n (λi=>f (n+1-1-(i+1))):=sm_congr λi hi=>by congr 1;omega
   rw[e]
   have e2:n+1-1-0=n:=by omega
   rw[e2];grind
theorem sm_one{n k:Nat}{f:Nat->Rat}(hk:k<n)(h:∀i,i<n->i≠k->f i=0):sm n f=f k:=by
 induction n with
 | zero=>omega
 | succ n ih=>
   rw[sm_succ]
   by_cases h1:k=n
   . subst h1
     rw[sm_zeros λi hi=>h i (by omega) (by omega)];grind
   . rw[ih (by omega) (λi hi h2=>h i (by omega) h2),h n (by omega) (by omega)];grind
theorem sm_more{n m:Nat}{f:Nat->Rat}(hm:n<=m)(h:∀i,n<=i->i<m->f i=0):sm m f=sm n f:=by
 induction m with
 | zero=>
           have:n=0:=by omega
           subst this;rfl
 | succ m ih=>
   by_cases h1:n=m+1
   . subst h1;rfl
   . rw[sm_succ,ih (by omega) (λi h2 h3=>h i h2 (by omega)),h m (by omega) (by omega)];grind
def co(p:List Rat)(i:Nat):Rat:=p.getD i 0
theorem co_nil{i:Nat}:co [] i=0:=rfl
theorem co_cons_zero{c:Rat}{p:List Rat}:co (c :: p) 0=c:=rfl
theorem co_cons_succ{c:Rat}{p:List Rat}{i:Nat}:co (c :: p) (i+1)=co p i:=rfl
theorem co_ge{p:List Rat}{i:Nat}(h:p.length<=i):co p i=0:=by
 unfold co;rw[List.getD_eq_getElem?_getD,List.getElem?_eq_none h];rfl
theorem co_lt{p:List Rat}{i:Nat}(h:i<p.length):co p i=p[i]:=by
 unfold co;rw[List.getD_eq_getElem?_getD,List.getElem?_eq_getElem h];rfl
theorem co_take{p:List Rat}{n i:Nat}:co (p.take n) i=if i<n then co p i else 0:=by
 unfold co
 rw[List.getD_eq_getElem?_getD,List.getD_eq_getElem?_getD,List.getElem?_take]
 split<;>rfl
theorem co_append{p q:List Rat}{i:Nat}:co (p++q) i=if i<p.length then co p i else co q (i-p.length):=by
 unfold co
 rw[List.getD_eq_getElem?_getD,List.getD_eq_getElem?_getD,List.getD_eq_getElem?_getD,List.getElem?_append]
 split<;>rfl
theorem co_set{p:List Rat}{k i:Nat}{c:Rat}(hk:k<p.length):co (p.set k c) i=if i=k then c else co p i:=by
 unfold co
 rw[List.getD_eq_getElem?_getD,List.getD_eq_getElem?_getD,List.getElem?_set]
 by_cases h:k=i
 . subst h;rw[if_pos rfl,if_pos rfl,if_pos hk];rfl
 . rw[if_neg h,if_neg (λhh=>h hh.symm)]
theorem co_replicate{n i:Nat}:co (List.replicate n 0) i=0:=by
 unfold co
 rw[List.getD_eq_getElem?_getD,List.getElem?_replicate]
 split<;>rfl
theorem co_map{f:Rat->Rat}(h0:f 0=0){p:List Rat}{i:Nat}:co (p.map f) i=f (co p i):=by
 unfold co
 rw[List.getD_eq_getElem?_getD,List.getD_eq_getElem?_getD,List.getElem?_map]
 cases p[i]? with
 | none=>exact h0.symm
 | some x=>rfl
def nf(p:List Rat):Prop:=p=[]\/co p (p.length-1)≠0
theorem nf_nil:nf []:=.inl rfl
theorem nf_len{p:List Rat}{n:Nat}(hp:nf p)(h:∀i,n<=i->co p i=0):p.length<=n:=by
 rcases hp with rfl | hp
 . simp
 . refine Nat.le_of_not_lt λhh=>hp (h _ (by omega))
theorem nf_top{p:List Rat}(hp:nf p)(h:p≠[]):co p (p.length-1)≠0:=by
 rcases hp with h1 | h1
 . exact absurd h1 h
 . exact h1
theorem nf_ext{p q:List Rat}(hp:nf p)(hq:nf q)(h:∀i,co p i=co q i):p=q:=by
 have h1:p.length<=q.length:=nf_len hp λi hi=>by rw[h,co_ge hi]
 have h2:q.length<=p.length:=nf_len hq λi hi=>by rw[<-h,co_ge hi]
 refine List.ext_getElem (by omega) λi h3 h4=>?_
 rw[<-co_lt h3,<-co_lt h4,h]
theorem nf_eq_nil{p:List Rat}(hp:nf p)(h:∀i,co p i=0):p=[]:=nf_ext hp nf_nil h
theorem nf_take{p:List Rat}{n:Nat}(hn:n<=p.length)(h:n=0\/co p (n-1)≠0):nf (p.take n):=by
 rcases Nat.eq_zero_or_pos n with h0 | h0
 . subst h0;exact .inl rfl
 . right
   rw[List.length_take,Nat.min_eq_left hn,co_take,if_pos (by omega)]
   rcases h with h | h
   . omega
   . exact h
def trim:List Rat->List Rat
 | []=>[]
 | c :: r=>match trim r with
   | []=>if c=0 then []else [c]
   | d :: t=>c :: d :: t
theorem co_trim:∀{p:List Rat} {i:Nat},co (trim p) i=co p i
 | [],_=>rfl
 | c :: r,i=>by
   have ih:∀j,co (trim r) j=co r j:=λj=>co_trim
   unfold trim
   split
   . rename_i h
     rw[h]at ih
     have h0:∀j,co r j=0:=λj=>(ih j).symm
     split
     . rename_i hc
       cases i with
       | zero=>rw[co_cons_zero,hc];rfl
       | succ i=>rw[co_cons_succ,h0];rfl
     . cases i with
       | zero=>rfl
       | succ i=>rw[co_cons_succ,co_cons_succ,h0];rfl
   . rename_i d t h
     cases i with
     | zero=>rfl
     | succ i=>rw[co_cons_succ,co_cons_succ,<-h];exact ih i
theorem nf_trim:∀{p:List Rat},nf (trim p)
 | []=>.inl rfl
 | c :: r=>by
   have ih:nf (trim r):=nf_trim
   unfold trim
   split
   . split
     . exact .inl rfl
     . rename_i h;exact .inr h
   . rename_i d t h
     rw[h]at ih
     have h3:=nf_top ih (by simp)
     have e1:(d :: t).length-1=t.length:=by simp
     have e2:(c :: d :: t).length-1=t.length+1:=by simp
     right
     rw[e1]at h3
     rw[e2]
     exact h3
theorem trim_of{p r:List Rat}(hr:nf r)(h:∀i,co r i=co p i):r=trim p:=nf_ext hr nf_trim λi=>by rw[h,co_trim]
theorem trim_nf{p:List Rat}(hp:nf p):trim p=p:=(trim_of hp λ_=>rfl).symm
theorem trim_len{p:List Rat}:(trim p).length<=p.length:=nf_len nf_trim λi hi=>by rw[co_trim,co_ge hi]
def conv(f g:Nat->Rat)(n:Nat):Rat:=sm (n+1) λi=>f i*g (n-i)
theorem conv_comm{f g:Nat->Rat}{n:Nat}:conv f g n=conv g f n:=by
 unfold conv
 rw[sm_rev]
 refine sm_congr λi hi=>?_
 have e1:n+1-1-i=n-i:=by omega
 have e2:n-(n-i)=i:=by omega
 rw[e1,e2,Rat.mul_comm]
theorem conv_add{f g k:Nat->Rat}{n:Nat}:conv f (λi=>g i+k i) n=conv f g n+conv f k n:=by
 unfold conv
 rw[<-sm_add]
 exact sm_congr λi _=>by grind
theorem conv_congr{f g f' g':Nat->Rat}{n:Nat}(h1:∀i,f i=f' i)(h2:∀i,g i=g' i):conv f g n=conv f' g' n:=by
 unfold conv
 exact sm_congr λi _=>by rw[h1,h2]
def part(f g:Nat->Rat)(m n:Nat):Rat:=sm m λi=>if i<=n then f i*g (n-i)else 0
theorem part_conv{f g:Nat->Rat}{m n:Nat}(h:∀i,m<=i->f i=0):part f g m n=conv f g n:=by
 unfold part conv
 rcases Nat.le_total m (n+1)with h1 | h1
 . rw[sm_more h1 λi h2 h3=>by rw[h i h2];grind]
   exact sm_congr λi hi=>if_pos (by omega)
 . rw[sm_more h1 λi h2 h3=>if_neg (by omega)]
   exact sm_congr λi hi=>if_pos (by omega)
theorem conv_zero_of{f g:Nat->Rat}{a b n:Nat}(h1:∀i,a<=i->f i=0)(h2:∀i,b<=i->g i=0)(hn:a+b<=n+1):conv f g n=0:=by
 unfold conv
 refine sm_zeros λi hi=>?_
 by_cases h3:a<=i
 . rw[h1 i h3];grind
 . rw[h2 (n-i) (by omega)];grind
theorem conv_top{f g:Nat->Rat}{a b:Nat}(h1:∀i,a<i->f i=0)(h2:∀i,b<i->g i=0):conv f g (a+b)=f a*g b:=by
 unfold conv
 rw[sm_one (k:=a) (by omega) λi hi h3=>?_]
 . congr 2;omega
 . by_cases h4:a<i
   . rw[h1 i h4];grind
   . rw[h2 (a+b-i) (by omega)];grind
end Pq
end

section
namespace Pq
def der(f:Nat->Rat)(n:Nat):Rat:=((n+1:Nat):Rat)*f (n+1)
theorem cast_split{n i:Nat}(h:i<=n):((n:Nat):Rat)=((i:Nat):Rat)+((n-i:Nat):Rat):=by
 rw[<-Rat.natCast_add];congr 1;omega
theorem der_conv{f g:Nat->Rat}{n:Nat}:der (conv f g) n=conv (der f) g n+conv f (der g) n:=by
 unfold der
 have e1:((n+1:Nat):Rat)*conv f g (n+1)=sm (n+2) (λi=>(((i:Nat):Rat)*f i)*g (n+1-i))+sm (n+2) (λi=>f i*(((n+1-i:Nat):Rat)*g (n+1-i))):=by
  unfold conv
  rw[<-sm_mul,<-sm_add]
  refine sm_congr λi hi=>?_
  rw[cast_split (show i<=n+1 by omega)];grind
 have e2:sm (n+2) (λi=>(((i:Nat):Rat)*f i)*g (n+1-i))=conv (λn=>((n+1:Nat):Rat)*f (n+1)) g n:=by
  rw[sm_head]
  unfold conv
  have h0:((0:Nat):Rat)=0:=rfl
  rw[h0,Rat.zero_mul,Rat.zero_mul,Rat.zero_add]
  refine sm_congr λi hi=>?_
  have:n+1-(i+1)=n-i:=by omega
  rw[this]
 have e3:sm (n+2) (λi=>f i*(((n+1-i:Nat):Rat)*g (n+1-i)))=conv f (λn=>((n+1:Nat):Rat)*g (n+1)) n:=by
  rw[sm_succ]
  unfold conv
  have h0:n+1-(n+1)=0:=by omega
  have h1:((0:Nat):Rat)=0:=rfl
  rw[h0,h1,Rat.zero_mul,Rat.mul_zero,Rat.add_zero]
  refine sm_congr λi hi=>?_
  have:n+1-i=n-i+1:=by omega
  rw[this]
 rw[e1,e2,e3]
def addL:List Rat->List Rat->List Rat
 | [],q=>q
 | p,[]=>p
 | a :: p,b :: q=>(a+b) :: addL p q
def mulL:List Rat->List Rat->List Rat
 | [],_=>[]
 | c :: r,q=>addL (q.map (c*·)) (0 :: mulL r q)
def ev:List Rat->Rat->Rat
 | [],_=>0
 | c :: r,x=>c+ev r x*x
theorem co_addL:∀{p q:List Rat} {i:Nat},co (addL p q) i=co p i+co q i
 | [],q,i=>by rw[addL,co_nil,Rat.zero_add]
 | a :: p,[],i=>by rw[addL,co_nil,Rat.add_zero];simp
 | a :: p,b :: q,0=>rfl
 | a :: p,b :: q,i+1=>by rw[addL,co_cons_succ,co_cons_succ,co_cons_succ];exact co_addL
theorem conv_cons{c:Rat}{r:List Rat}{g:Nat->Rat}{n:Nat}:conv (co (c :: r)) g n=c*g n+(match n with | 0=>0 | n+1=>conv (co r) g n):=by
 unfold conv
 rw[sm_head]
 cases n with
 | zero=>simp only[sm_zero];rw[co_cons_zero]
 | succ n=>
   simp only[co_cons_zero,co_cons_succ,Nat.sub_zero]
   congr 1
   refine sm_congr λi hi=>?_
   have:n+1-(i+1)=n-i:=by omega
   rw[this]
theorem conv_nil{g:Nat->Rat}{n:Nat}:conv (co []) g n=0:=sm_zeros λi _=>by rw[co_nil,Rat.zero_mul]
theorem co_mulL:∀{p q:List Rat} {n:Nat},co (mulL p q) n=conv (co p) (co q) n
 | [],q,n=>by rw[mulL,conv_nil];rfl
 | c :: r,q,n=>by
   rw[mulL,co_addL,conv_cons,co_map (f:=(c*·)) (Rat.mul_zero c)]
   congr 1
   cases n with
   | zero=>rfl
   | succ n=>rw[co_cons_succ];exact co_mulL
theorem ev_addL:∀{p q:List Rat} {x:Rat},ev (addL p q) x=ev p x+ev q x
 | [],q,x=>by rw[addL,ev,Rat.zero_add]
 | a :: p,[],x=>by simp only[addL,ev];grind
 | a :: p,b :: q,x=>by simp only[addL,ev];rw[ev_addL];grind
theorem ev_map{c:Rat}:∀{p:List Rat} {x:Rat},ev (p.map (c*·)) x=c*ev p x
 | [],x=>by simp only[List.map_nil,ev];grind
 | a :: p,x=>by simp only[List.map_cons,ev];rw[ev_map];grind
theorem ev_mulL:∀{p q:List Rat} {x:Rat},ev (mulL p q) x=ev p x*ev q x
 | [],q,x=>by simp only[mulL,ev];grind
 | c :: r,q,x=>by simp only[mulL];rw[ev_addL,ev_map];simp only[ev];rw[ev_mulL];grind
theorem ev_trim:∀{p:List Rat} {x:Rat},ev (trim p) x=ev p x
 | [],x=>rfl
 | c :: r,x=>by
   have ih:=ev_trim (p:=r) (x:=x)
   unfold trim
   split
   . rename_i h
     rw[h]at ih
     simp only[ev]at ih
     split
     . rename_i hc;simp only[ev];rw[<-ih,hc];grind
     . simp only[ev];rw[<-ih]
   . rename_i d t h
     rw[h]at ih
     rw[show ev (c :: d :: t) x=c+ev (d :: t) x*x from rfl,ih];rfl
theorem ev_congr{p q:List Rat}{x:Rat}(h:∀i,co p i=co q i):ev p x=ev q x:=by
 have e:trim p=trim q:=nf_ext nf_trim nf_trim λi=>by rw[co_trim,co_trim,h]
 rw[<-ev_trim (p:=p),<-ev_trim (p:=q),e]
theorem ev_drop{p:List Rat}{i:Nat}(hi:i<p.length)(x:Rat):ev (p.drop i) x=p[i]+ev (p.drop (i+1)) x*x:=by
 rw[List.drop_eq_getElem_cons hi];rfl
theorem top_of{f:Nat->Rat}:∀{n:Nat},(∀i,n<=i->f i=0)->(∀i,f i=0)\/∃k,k<n/\f k≠0/\∀i,k<i->f i=0
 | 0,h=>.inl λi=>h i (Nat.zero_le _)
 | n+1,h=>by
   by_cases h0:f n=0
   . rcases top_of (f:=f) (n:=n) λi hi=>by
      rcases Nat.lt_or_ge n i with h1 | h1
      . exact h i h1
      . have:i=n:=by omega
        subst this;exact h0 with h2 | ⟨k,h2,h3⟩
     . exact .inl h2
     . exact .inr ⟨k,by omega,h3⟩
   . exact .inr ⟨n,by omega,h0,λi hi=>h i hi⟩
theorem div_unique{q q' b r r':Nat->Rat}{d n:Nat}(hb:b d≠0)(hb2:∀i,d<i->b i=0)(hq:∀i,n<=i->q i=0)(hq':∀i,n<=i->q' i=0)
 (hr:∀i,d<=i->r i=0) (hr':∀i,d<=i->r' i=0) (h:∀i,conv q b i+r i=conv q' b i+r' i):(∀i,q i=q' i)/\∀i,r i=r' i:=by
 have hs:∀i,conv b (λi=>q i+(-1)*q' i) i=r' i-r i:=λi=>by
  have e:conv b (λi=>(-1)*q' i) i=(-1)*conv b q' i:=by
   unfold conv
   rw[<-sm_mul]
   exact sm_congr λi _=>by grind
  have:=h i
  rw[conv_comm (f:=q),conv_comm (f:=q')]at this
  rw[conv_add,e];grind
 rcases top_of (f:=λi=>q i+(-1)*q' i) (n:=n) λi hi=>by rw[hq i hi,hq' i hi];grind with h0 | ⟨k,_,h1,h2⟩
 . have hqq:∀i,q i=q' i:=λi=>by have:=h0 i;grind
   refine⟨hqq,λi=>?_⟩
   have:=h i
   rw[conv_congr (g:=b) hqq (λ_=>rfl)]at this;grind
 . exfalso
   have e:=conv_top (f:=b) (g:=λi=>q i+(-1)*q' i) (a:=d) (b:=k) hb2 h2
   rw[hs,hr' _ (by omega),hr _ (by omega)]at e
   have e2:b d*(q k+(-1)*q' k)=0:=by rw[<-e];grind
   rcases Rat.mul_eq_zero.1 e2 with h3 | h3
   . exact hb h3
   . exact h1 h3
end Pq
end

section
namespace Pq
end Pq
end

section
namespace Den
open Go Iv Pq
theorem zadx{h:Hp}{b:Nat}{xs:List TRat}{n:Nat}{el:TypeId}{K:Sl->Hp->Prop}(hb:h b=none)(hn:n=xs.length)(hlen:xs.length<=1000000000000)
 (H:∀y h',Own h h' 4 y (xs.flatMap qc)->K y h') :
 appP 4 64 [.bool false,.slice nilS.a nilS.len nilS.cap,.bool false,.slice nilS.a nilS.len nilS.cap] ⟨some ⟨b,0,none⟩,0,0⟩ n (xs.flatMap qc) K (h.ins b ⟨[],el,(0,0)⟩):=by
 have ho:Own h (h.ins b ⟨[],el,(0,0)⟩) 4 ⟨some ⟨b,0,none⟩,0,0⟩ []:=⟨Hp.le_ins hb,rfl,Nat.le_refl _,rfl,rfl,hb,_,Hp.ins_same _ _ _,rfl,rfl,rfl⟩
 have hl:(xs.flatMap qc).length=n*4:=by rw[ze4 zdu,hn]
 refine zk6 ho hl rfl ?_ (by simp only;omega) (by simp only;omega) λy h' hy hyl=>H y h' ?_
 . rw[List.all_flatMap,List.all_eq_true]
   intro x _;exact zuo x
 . simpa using hy
section
variable {h : Hp} {B : Nat} {l : Sl} {p : List Rat} {K : Sl → Hp → Prop}
theorem zwc{x:Sl}{lo hi:Int}{n:Nat}{K:Sl->Prop}(a b:Nat)(ha:lo=a)(hb:hi=b)(hab:a<=b)(hc:b<=x.cap)(H:K (x.cut a b n)):slP x lo hi n K:=by
 subst ha hb
 exact⟨by omega,by omega,by omega,H⟩
theorem cut0(x:Sl)(n size:Nat)(h:n<=x.cap):(x.cut 0 n size).len=n/\(x.cut 0 n size).cap=x.cap/\(x.cut 0 n size).a=x.a:=by
 refine⟨rfl,rfl,?_⟩
 show(if x.cap=0 then x.a else x.a.map (·.add (0*size)))=x.a
 split
 . rfl
 . cases x.a with
   | none=>rfl
   | some a=>simp only[Option.map_some,Nat.zero_mul,zky]
theorem zjf{h:Hp}{a:Addr}:∀{n m:Nat} {l:List Value},cellsAt h a m=some l->n<=m->cellsAt h a n=some (l.take n)
 | n,0,l,e,hn=>by
   have:n=0:=by omega
   subst this
   simp[cellsAt]
 | n,m+1,l,e,hn=>by
   have hl:=zk8 e
   by_cases h1:n=m+1
   . subst h1;rw[e,List.take_of_length_le (by omega)]
   . unfold cellsAt at e
     split at e
     . rename_i l1 h2
       split at e
       . rename_i v hv
         simp only[Option.some.injEq]at e
         subst e
         have h3:=zk8 h2
         rw[zjf h2 (show n<=m by omega),List.take_append_of_le_length (by omega)]
       . cases e
     . cases e
theorem zw1{α:Type}{c:α->List Value}{n:Nat}(hc:∀x,(c x).length=n):∀{xs:List α} {k:Nat},(xs.flatMap c).take (k*n)=(xs.take k).flatMap c
 | [],k=>by simp
 | x :: r,0=>by simp
 | x :: r,k+1=>by
   have e1:(k+1)*n=n+k*n:=by rw[Nat.add_mul];omega
   rw[List.flatMap_cons,e1,List.take_append,hc,Nat.add_sub_cancel_left,List.take_of_length_le (by rw[hc];omega),zw1 hc]
   simp
theorem PL.cut(hp:PL h B l p){n:Nat}(hn:n<=p.length):PL h B (l.cut 0 n 4) (p.take n):=by
 have hlen:=hp.len
 obtain⟨xs,h1,h2,h3⟩:=hp
 have hx:=h2.1
 obtain⟨c1,c2,c3⟩:=cut0 l n 4 (by omega)
 refine⟨xs.take n,⟨?_,?_⟩,h2.take,by rw[c1,c2];omega⟩
 . rw[c1,ze4 zdu,List.length_take,Nat.min_eq_left (by omega)]
 . rw[c3,<-zw1 zdu]
   have hl:((xs.flatMap qc).take (n*4)).length=n*4:=by rw[List.length_take,ze4 zdu];omega
   rw[hl]
   have h4:=h1.2
   cases ha:l.a with
   | some a=>
     rw[ha]at h4
     exact zjf h4 (by rw[ze4 zdu];omega)
   | none=>
     rw[ha]at h4
     simp only[cellsAtO]at h4 |-
     split at h4
     . rename_i h5
       simp only[Option.some.injEq]at h4
       rw[ze4 zdu]at h5
       have:n=0:=by omega
       subst this
       simp
     . cases h4
theorem zaft(hp:PL h B l p)(hlen:p.length<=1000000000000)(H:∀y h',OL h h' B y p->K y h'):callP (F.zbb l) K h:=by
 refine za3 (λy h'=>OL h h' B y p) (λK' hk=>?_) λy h' _ hy=>H y h' hy
 unfold F.zbb
 refine zcp (λh1=>?_) (λh1=>?_)
 . have hp0:p=[]:=by
    obtain⟨xs,g1,g2,g3⟩:=hp
    have:=g1.2
    have ha:l.a=none:=by cases hl:l.a with
     | none=>rfl
     | some a=>rw[hl]at h1;cases h1
    rw[ha]at this
    simp only[cellsAtO]at this
    split at this
    . rename_i h5
      rw[ze4 zdu]at h5
      have:=g2.1
      exact List.eq_nil_of_length_eq_zero (by omega)
    . cases this
   subst hp0
   exact hk _ _ (Hp.le_refl _) ⟨h,Hp.le_refl _,OD.nil⟩
 . intro b el hb
   obtain⟨xs,g1,g2,g3⟩:=hp
   refine⟨xs.flatMap qc,zhr (Hp.le_ins hb) (by rw[g1.1];exact g1.2),?_⟩
   refine zadx hb (by rw[RdQ.len g1]) (by rw[g2.1];exact hlen) λy h' hy=>?_
   exact hk _ _ hy.1 ⟨h,Hp.le_refl _,xs,hy,g2⟩
theorem za08{v:Rat}:v.num.sign=0↔v=0:=by rw[Int.sign_eq_zero_iff_zero,Rat.num_eq_zero]
theorem zj8{n:Nat}(hn:n<=p.length)(h0:∀i,n<=i->co p i=0)(h1:n=0\/co p (n-1)≠0):p.take n=trim p:=by
 refine Pq.trim_of (nf_take hn h1) λi=>?_
 rw[co_take]
 split
 . rfl
 . rw[h0 i (by omega)]
theorem zeg(hp:PL h B l p)(hlen:p.length<=1000000000000)(hB:B<=1000000000000)(H:∀y h',OL h h' B y (trim p)->K y h'):callP (F.zav l) K h:=by
 refine za3 (λy h'=>OL h h' B y (trim p)) (λK' hk=>?_) λy h' _ hy=>H y h' hy
 unfold F.zav
 have hl:=hp.len
 have hcap:=hp.cap
 refine za9 (λs h'=>h'=h/\∃n:Nat,s.1=(n:Int)/\n<=p.length/\p.take n=trim p) ?_ ?_
 . rintro⟨_,_⟩ h1 ⟨rfl,n,hn,hn2,ht⟩
   simp only at hn
   subst hn
   refine zwc 0 n rfl rfl (Nat.zero_le _) (by omega) ?_
   refine zaft (hp.cut hn2) (by rw[List.length_take];omega) λy h' hy=>?_
   rw[ht]at hy
   exact hk _ _ hy.hle hy
 . refine zaa (λst h'=>h'=h/\∃n:Nat,st.1=(n:Int)/\n<=p.length/\∀i,n<=i->co p i=0) (λst=>st.1.toNat) ⟨rfl,p.length,by simp only;rw[hl],Nat.le_refl _,λi hi=>co_ge hi⟩ ?_
   rintro⟨_,_⟩ h1 ⟨rfl,n,hn,hn2,h0⟩
   simp only at hn
   subst hn
   refine za9 (λ_ h'=>h'=h1/\0<n/\co p (n-1)=0) ?_ ?_
   . rintro _ h2 ⟨rfl,hpos,hz⟩
     have e:i64.wrap ((n:Int)-1)=((n-1:Nat):Int):=by rw[w64 (by omega)];omega
     refine⟨⟨rfl,n-1,e,by omega,λi hi=>?_⟩,by simp only;rw[e];omega⟩
     by_cases hi2:i=n-1
     . rw[hi2];exact hz
     . exact h0 i (by omega)
   . refine za5 (λh3=>?_) (λh3=>?_)
     . have hpos:0<n:=by omega
       have e:i64.wrap ((n:Int)-1)=((n-1:Nat):Int):=by rw[w64 (by omega)];omega
       refine hp.get (n-1) e (by omega) λx hx bx=>?_
       refine zjz hx bx hB (zbl (λh4=>⟨rfl,hpos,?_⟩) (λh4=>⟨rfl,n,rfl,hn2,zj8 hn2 h0 (.inr ?_)⟩))
       . rw[co_lt (by omega)];exact za08.1 h4
       . rw[co_lt (by omega)];exact λhh=>h4 (za08.2 hh)
     . exact⟨rfl,n,rfl,hn2,zj8 hn2 h0 (.inl (by omega))⟩
theorem zsg(hp:PL h B l p)(hlen:p.length<=1000000000000)(hB:B<=1000000000000)(H:∀y h',OL h h' B y (trim p)->K y h'):callP (F.zh6 l) K h:=by
 refine za3 (λy h'=>OL h h' B y (trim p)) (λK' hk=>?_) λy h' _ hy=>H y h' hy
 unfold F.zh6
 have hl:=hp.len
 have hcap:=hp.cap
 refine za9 (λs h'=>h'=h/\∃n:Nat,s.1=(n:Int)/\n<=p.length/\p.take n=trim p) ?_ ?_
 . rintro⟨_,_⟩ h1 ⟨rfl,n,hn,hn2,ht⟩
   simp only at hn
   subst hn
   intro b el hb
   refine zwc 0 n rfl rfl (Nat.zero_le _) (by omega) ?_
   obtain⟨xs,g1,g2,g3⟩:=hp.cut hn2
   refine⟨xs.flatMap qc,zhr (Hp.le_ins hb) (by rw[g1.1];exact g1.2),?_⟩
   refine zadx hb (by rw[RdQ.len g1]) (by rw[g2.1,List.length_take];omega) λy h' hy=>?_
   refine hk _ _ hy.1 ⟨h1,Hp.le_refl _,xs,hy,?_⟩
   rw[<-ht];exact g2
 . refine zaa (λst h'=>h'=h/\∃n:Nat,st.1=(n:Int)/\n<=p.length/\∀i,n<=i->co p i=0) (λst=>st.1.toNat) ⟨rfl,p.length,by simp only;rw[hl],Nat.le_refl _,λi hi=>co_ge hi⟩ ?_
   rintro⟨_,_⟩ h1 ⟨rfl,n,hn,hn2,h0⟩
   simp only at hn
   subst hn
   refine za9 (λ_ h'=>h'=h1/\0<n/\co p (n-1)=0) ?_ ?_
   . rintro _ h2 ⟨rfl,hpos,hz⟩
     have e:i64.wrap ((n:Int)-1)=((n-1:Nat):Int):=by rw[w64 (by omega)];omega
     refine⟨⟨rfl,n-1,e,by omega,λi hi=>?_⟩,by simp only;rw[e];omega⟩
     by_cases hi2:i=n-1
     . rw[hi2];exact hz
     . exact h0 i (by omega)
   . refine za5 (λh3=>?_) (λh3=>?_)
     . have hpos:0<n:=by omega
       have e:i64.wrap ((n:Int)-1)=((n-1:Nat):Int):=by rw[w64 (by omega)];omega
       refine hp.get (n-1) e (by omega) λx hx bx=>?_
       refine zag5 hx bx hB (zbl (λh4=>⟨rfl,hpos,?_⟩) (λh4=>⟨rfl,n,rfl,hn2,zj8 hn2 h0 (.inr ?_)⟩))
       . rw[co_lt (by omega)];exact za08.1 h4
       . rw[co_lt (by omega)];exact λhh=>h4 (za08.2 hh)
     . exact⟨rfl,n,rfl,hn2,zj8 hn2 h0 (.inl (by omega))⟩
theorem zmn{Ki:Int->Hp->Prop}(hp:PL h B l p)(hlen:p.length<=1000000000000)(hB:B<=1000000000000)(H:∀h',h.le h'->Ki (((trim p).length:Int)-1) h'):callP (F.zcx l) Ki h:=by
 refine za3 (λr h'=>r=((trim p).length:Int)-1) (λK' hk=>?_) λr h' hl hr=>by subst hr;exact H h' hl
 unfold F.zcx
 refine zeg hp hlen hB λy h' hy=>?_
 have:=trim_len (p:=p)
 rw[hy.len,w64 (by omega)]
 exact hk _ _ hy.hle rfl
end
end Den
end

section
namespace Den
open Go Iv Pq
theorem PL.getle{h0 h:Hp}{B:Nat}{l:Sl}{p:List Rat}{i:Int}{K:Bool->Sl->Bool->Sl->Prop}(k:Nat)(hp:PL h0 B l p)(hl:h0.le h)(hi:i=k)(hk:k<p.length)
 (H:∀x:TRat,NR h0 x p[k]->BR B p[k]->K x.num.neg x.num.mag x.den.neg x.den.mag) :
 idxP l i 4 λa=>ldL .bool (a.add 0) (λx0=>ldL .sl (a.add 1) (λx1=>ldL .bool (a.add 2) (λx2=>ldL .sl (a.add 3) (λx3=>K x0 x1 x2 x3) h) h) h) h:=by
 obtain⟨xs,h1,h2,h3⟩:=hp
 have hk':k<xs.length:=by rw[h2.1];exact hk
 have:=h2.2 k hk' hk
 exact zaby k (h1.le hl) hi hk' (H _ this.1 this.2)
theorem OL.base{h h0 h1:Hp}{B:Nat}{l:Sl}{p:List Rat}(ho:OL h1 h B l p)(hl:h0.le h1):OL h0 h B l p:=by
 obtain⟨D,a,b⟩:=ho
 exact⟨D,Hp.le_trans hl a,b⟩
theorem zar{p q:List Rat}(h:∀i,co p i=co q i):trim p=trim q:=nf_ext nf_trim nf_trim λi=>by rw[co_trim,co_trim,h]
theorem BR.co{B:Nat}{p:List Rat}(hp:∀v∈p,BR B v)(h1:1<=B)(i:Nat):BR B (co p i):=by
 rcases Nat.lt_or_ge i p.length with h2 | h2
 . rw[co_lt h2];exact hp _ (List.getElem_mem h2)
 . rw[co_ge h2];exact zme.mono h1
theorem zmh{c:Rat}{p:List Rat}{i:Nat}:co (p.map (c*·)) i=c*co p i:=co_map (f:=(c*·)) (Rat.mul_zero c)
section
variable {h : Hp} {A B : Nat} {l m : Sl} {p q : List Rat} {K : Sl → Hp → Prop} {KR : TRat → Hp → Prop} {Kb : Bool → Hp → Prop} {c : Rat} {x : TRat}
theorem zx4(hp:PL h A l p)(hx:NR h x c)(bc:BR B c)(hlen:p.length<=1000000000000)(hA:A<=400000000000)(hB:B<=400000000000)(H:∀y h',OL h h' (A+B) y (trim (p.map (c*·)))->K y h'):callP (F.zi4 l x) K h:=by
 refine za3 (λy h'=>OL h h' (A+B) y (trim (p.map (c*·)))) (λK' hk=>?_) λy h' _ hy=>H y h' hy
 unfold F.zi4
 have hl:=hp.len
 refine zaa (λst h'=>∃D,h.le D/\∃i:Nat,st.2.1=(i:Int)/\i<=p.length/\OD D h' (A+B) st.1 ((p.take i).map (c*·))) (λst=>(p.length-st.2.1).toNat)
  ⟨h,Hp.le_refl _,0,rfl,Nat.zero_le _,by simpa using OD.nil⟩ ?_
 rintro⟨s,_,_⟩ h1 ⟨D,hD,i,hi,hi2,ho⟩
 simp only at hi ho
 subst hi
 refine za5 (λh3=>?_) (λh3=>?_)
 . have hi':i<p.length:=by simp only at h3;omega
   refine hp.getle i (Hp.le_trans hD ho.dle) rfl hi' λy hy by_=>?_
   refine ho.call (K1:=λz D'=>NR D' z (p[i]*c)) (zaig (hy.le hD) (hx.le hD) by_ bc hA hB λz D' hl' hz=>hz) λz D' h2 hl' ho' hz=>?_
   refine ho'.app (by simp;omega) hz (by_.mul bc) λw h3 hw=>⟨⟨D',Hp.le_trans hD hl',i+1,?_,hi',?_⟩,?_⟩
   . simp only;rw[w64 (by omega)];rfl
   . rw[List.take_succ_eq_append_getElem hi',List.map_append]
     simp only[List.map_cons,List.map_nil]
     rw[Rat.mul_comm]at hw
     exact hw
   . simp only;rw[w64 (by omega)];omega
 . have hi':i=p.length:=by simp only at h3;omega
   subst hi'
   rw[List.take_length]at ho
   refine zsg ho.pl (by simpa using hlen) (by omega) λy h' hy=>hk _ _ ?_ (hy.base ?_)
   . exact Hp.le_trans hD (Hp.le_trans ho.dle hy.hle)
   . exact Hp.le_trans hD ho.dle
theorem za4e(H:∀z h',h.le h'->NR h' z 0->KR z h'):callP F.zh7 KR h:=by
 refine za3 (λz h'=>NR h' z 0) (λK' hk=>?_) λz h' hl hz=>H z h' hl hz
 unfold F.zh7
 exact zcj (by decide) (by decide) λz h' hl hz=>hk _ _ hl hz
theorem zafw{i:Int}(k:Nat)(hp:PL h A l p)(hi:i=k)(H:∀z h',h.le h'->NR h' z (co p k)->KR z h'):callP (F.zos l i) KR h:=by
 refine za3 (λz h'=>NR h' z (co p k)) (λK' hk=>?_) λz h' hl hz=>H z h' hl hz
 unfold F.zos
 subst hi
 have hl:=hp.len
 refine zuf (za5 (λh1=>by omega) (λh1=>za5 (λh2=>?_) (λh2=>?_)))
 . refine za4e λz h' hl' hz=>hk _ _ hl' ?_
   rw[co_ge (by omega)];exact hz
 . have hk':k<p.length:=by omega
   refine hp.get k rfl hk' λy hy _=>hk _ _ (Hp.le_refl _) ?_
   rw[co_lt hk'];exact hy
theorem zlr{f:Nat->Rat}{n i:Nat}:co ((List.range n).map f) i=if i<n then f i else 0:=by
 rcases Nat.lt_or_ge i n with h1 | h1
 . rw[co_lt (by simpa using h1),if_pos h1];simp
 . rw[co_ge (by simpa using h1),if_neg (by omega)]
theorem za4g(hp:PL h A l p)(hq:PL h B m q)(hlen:p.length<=100000000)(hlen2:q.length<=100000000)(hA:1<=A/\A<=400000000000)(hB:1<=B/\B<=400000000000){C:Nat}(hC:∀i,BR C (co p i+co q i))(hC2:C<=1000000000000)
 (H:∀y h',OL h h' C y (trim (addL p q))->K y h'):callP (F.zm1 l m) K h:=by
 refine za3 (λy h'=>OL h h' C y (trim (addL p q))) (λK' hk=>?_) λy h' _ hy=>H y h' hy
 unfold F.zm1
 have hl:=hp.len
 have hl2:=hq.len
 have bA:=λi=>BR.co hp.bound hA.1 i
 have bB:=λi=>BR.co hq.bound hB.1 i
 refine za9 (λs h'=>∃D,h.le D/\∃n:Nat,p.length<=n/\q.length<=n/\n<=100000000000/\OD D h' C s.1 ((List.range n).map λi=>co p i+co q i)) ?_ ?_
 . rintro⟨s,_⟩ h1 ⟨D,hD,n,hn1,hn2,hn3,ho⟩
   refine zsg ho.pl (by simp;omega) hC2 λy h' hy=>hk _ _ (Hp.le_trans hD (Hp.le_trans ho.dle hy.hle)) ?_
   have e:trim ((List.range n).map λi=>co p i+co q i)=trim (addL p q):=zar λi=>by
    rw[zlr,co_addL]
    split
    . rfl
    . rw[co_ge (by omega),co_ge (by omega)];exact(Rat.add_zero 0).symm
   rw[e]at hy
   exact hy.base (Hp.le_trans hD ho.dle)
 . refine zaa (λst h'=>∃D,h.le D/\∃i:Nat,st.2.1=(i:Int)/\i<=max p.length q.length/\OD D h' C st.1 ((List.range i).map λi=>co p i+co q i)) (λst=>((max p.length q.length:Nat)-st.2.1).toNat)
    ⟨h,Hp.le_refl _,0,rfl,Nat.zero_le _,OD.nil⟩ ?_
   rintro⟨s,_,_⟩ h1 ⟨D,hD,i,hi,hi2,ho⟩
   simp only at hi ho
   subst hi
   refine za9 (λ_ h'=>h'=h1/\i<max p.length q.length) ?_ ?_
   . rintro _ h2 ⟨rfl,hi3⟩
     refine ho.call (K1:=λz D'=>NR D' z (co p i)) (zafw i (hp.le hD) rfl λz D1 hl1 hz=>hz) λz1 D1 h3 hl1 ho1 hz1=>?_
     have hD1:=Hp.le_trans hD hl1
     refine ho1.call (K1:=λz D'=>NR D' z (co q i)) (zafw i (hq.le hD1) rfl λz D1 hl1 hz=>hz) λz2 D2 h4 hl2 ho2 hz2=>?_
     have hD2:=Hp.le_trans hD1 hl2
     refine ho2.call (K1:=λz D'=>NR D' z (co p i+co q i)) (zaif (hz1.le hl2) hz2 (bA i) (bB i) hA.2 hB.2 λz D1 hl1 hz=>hz) λz3 D3 h5 hl3 ho3 hz3=>?_
     refine ho3.app (by simp;omega) hz3 (hC i) λw h6 hw=>⟨⟨D3,Hp.le_trans hD2 hl3,i+1,?_,by omega,?_⟩,?_⟩
     . simp only;rw[w64 (by omega)];rfl
     . rw[List.range_succ,List.map_append]
       exact hw
     . simp only;rw[w64 (by omega)];omega
   . refine za5 (λh3=>⟨rfl,by simp only at h3;omega⟩) (λh3=>za5 (λh4=>⟨rfl,by simp only at h4;omega⟩) (λh4=>?_))
     simp only at h3 h4
     exact⟨D,hD,i,by omega,by omega,by omega,ho⟩
theorem zald{p q:List Rat}:trim (addL p (trim q))=trim (addL p q):=zar λi=>by rw[co_addL,co_addL,co_trim]
def negL(q:List Rat):List Rat:=q.map ((((-1:Int):Rat))*·)
theorem zab7{q:List Rat}{i:Nat}:co (negL q) i=- co q i:=by
 unfold negL
 rw[zmh]
 have:(((-1:Int):Rat))=-1:=rfl
 rw[this];grind
theorem BR_m1:BR 1 (((-1:Int):Rat)):=⟨by unfold Lt;decide,by unfold Lt;decide⟩
theorem zaid(hp:PL h A l p)(hq:PL h B m q)(hlen:p.length<=100000000)(hlen2:q.length<=100000000)(hA:1<=A/\A<=300000000000)(hB:1<=B/\B<=300000000000){C:Nat}(hC:∀i,BR C (co p i-co q i))(hC2:C<=1000000000000)
 (H:∀y h',OL h h' C y (trim (addL p (negL q)))->K y h'):callP (F.zpn l m) K h:=by
 refine za3 (λy h'=>OL h h' C y (trim (addL p (negL q)))) (λK' hk=>?_) λy h' _ hy=>H y h' hy
 unfold F.zpn
 refine zcj (by decide) (by decide) λz h1 hl1 hz=>?_
 refine zx4 (hq.le hl1) hz BR_m1 (by omega) (by omega) (by omega) λy h2 hy=>?_
 have ht:=trim_len (p:=q.map ((((-1:Int):Rat))*·))
 rw[List.length_map]at ht
 have hl2:=Hp.le_trans hl1 hy.hle
 refine za4g (hp.le hl2) hy.pl hlen (by omega) (by omega) (by omega) (C:=C) (λi=>?_) hC2 λw h3 hw=>?_
 . rw[co_trim]
   have:=hC i
   have e:co p i+co (q.map ((((-1:Int):Rat))*·)) i=co p i-co q i:=by
    have:=zab7 (q:=q) (i:=i)
    unfold negL at this
    rw[this];grind
   rw[e];exact this
 . rw[zald]at hw
   exact hk _ _ (Hp.le_trans hl2 hw.hle) (hw.base hl2)
theorem zag4(hp:PL h A l p)(hq:PL h B m q)(hlen:p.length<=100000000)(hlen2:q.length<=100000000)(hA:1<=A/\A<=300000000000)(hB:1<=B/\B<=300000000000)
 (H:∀h',h.le h'->Kb (decide (trim p=trim q)) h'):callP (F.zmw l m) Kb h:=by
 refine za3 (λb h'=>b=decide (trim p=trim q)) (λK' hk=>?_) λb h' hl hb=>by subst hb;exact H h' hl
 unfold F.zmw
 refine zaid hp hq hlen hlen2 hA hB (C:=A+B+1) (λi=>(BR.co hp.bound hA.1 i).sub (BR.co hq.bound hB.1 i)) (by omega) λy h' hy=>hk _ _ hy.hle ?_
 have e:(trim (addL p (negL q))).length=0↔trim p=trim q:=by
  rw[List.length_eq_zero_iff]
  constructor
  . intro h1
    refine zar λi=>?_
    have h2:co (trim (addL p (negL q))) i=0:=by rw[h1];rfl
    rw[co_trim,co_addL,zab7]at h2
    grind
  . intro h1
    refine nf_eq_nil nf_trim λi=>?_
    have h2:co (trim p) i=co (trim q) i:=by rw[h1]
    rw[co_trim,co_trim]at h2
    rw[co_trim,co_addL,zab7,h2];grind
 rw[hy.len]
 by_cases h1:trim p=trim q
 . rw[decide_eq_true h1,e.2 h1];rfl
 . rw[decide_eq_false h1]
   have:(trim (addL p (negL q))).length≠0:=λhh=>h1 (e.1 hh)
   simp only[beq_eq_false_iff_ne,ne_eq]
   omega
theorem zac1(hp:PL h A l p)(hq:PL h B m q)(hlen:p.length<=100000000)(hlen2:q.length<=100000000)(hA:1<=A/\A<=300000000000)(hB:1<=B/\B<=300000000000)
 (H:∀h',h.le h'->Kb (decide (p.length=q.length/\trim p=trim q)) h'):callP (F.zi3 l m) Kb h:=by
 refine za3 (λb h'=>b=decide (p.length=q.length/\trim p=trim q)) (λK' hk=>?_) λb h' hl hb=>by subst hb;exact H h' hl
 unfold F.zi3
 have hl:=hp.len
 have hl2:=hq.len
 refine zbl (λh1=>?_) (λh1=>hk _ _ (Hp.le_refl _) (decide_eq_false λhh=>h1 (by rw[hl,hl2,hh.1])).symm)
 refine zag4 hp hq hlen hlen2 hA hB λh' hl'=>hk _ _ hl' ?_
 have:p.length=q.length:=by omega
 by_cases h2:trim p=trim q
 . rw[decide_eq_true h2,decide_eq_true ⟨this,h2⟩]
 . rw[decide_eq_false h2,decide_eq_false λhh=>h2 hh.2]
theorem OD.apps{D:Hp}{Ks:Sl->Hp->Prop}{xs:List TRat}{n:Nat}(ho:OD D h B l p)(hn:n=xs.length)(hlen:p.length+xs.length<=1000000000000)(hq:QL D B xs q)(H:∀y h',OD D h' B y (p++q)->Ks y h') :
 appP 4 64 [.bool false,.slice nilS.a nilS.len nilS.cap,.bool false,.slice nilS.a nilS.len nilS.cap] l n (xs.flatMap qc) Ks h:=by
 have hl:=ho.len
 obtain⟨ys,h1,h2⟩:=ho
 refine zk6 h1 (n:=n) (new:=xs.flatMap qc) (by rw[ze4 zdu,hn]) rfl ?_ (by omega) (by omega) λy h' hy hyl=>H y h' ⟨ys++xs,?_,?_⟩
 . rw[List.all_flatMap,List.all_eq_true]
   intro x _;exact zuo x
 . rw[List.flatMap_append];exact hy
 . have hl2:=h2.1
   have hl3:=hq.1
   refine⟨by simp[hl2,hl3],λk k1 k2=>?_⟩
   rcases Nat.lt_or_ge k ys.length with h3 | h3
   . rw[List.getElem_append_left h3,List.getElem_append_left (by omega)]
     exact h2.2 k h3 (by omega)
   . rw[List.getElem_append_right h3,List.getElem_append_right (by omega)]
     have:=hq.2 (k-ys.length) (by simp at k1;omega) (by simp at k1;omega)
     simpa [hl2] using this
theorem zafx{n:Nat}(hp:PL h B l p)(hlen:p.length+n<=100000000000)(hB:1<=B/\B<=1000000000000)(H:∀y h',OL h h' B y (trim (List.replicate n 0++p))->K y h'):callP (F.zkp l (n:Int)) K h:=by
 refine za3 (λy h'=>OL h h' B y (trim (List.replicate n 0++p))) (λK' hk=>?_) λy h' _ hy=>H y h' hy
 unfold F.zkp
 refine zaa (λst h'=>∃D,h.le D/\∃i:Nat,st.2.1=(i:Int)/\i<=n/\OD D h' B st.1 (List.replicate i 0)) (λst=>((n:Int)-st.2.1).toNat)
  ⟨h,Hp.le_refl _,0,rfl,Nat.zero_le _,OD.nil⟩ ?_
 rintro⟨s,_,_⟩ h1 ⟨D,hD,i,hi,hi2,ho⟩
 simp only at hi ho
 subst hi
 refine za5 (λh3=>?_) (λh3=>?_)
 . simp only at h3
   refine ho.call (K1:=λz D'=>NR D' z 0) (za4e λz D' _ hz=>hz) λz D' h2 hl' ho' hz=>?_
   refine ho'.app (by simp;omega) hz (zme.mono hB.1) λw h3 hw=>⟨⟨D',Hp.le_trans hD hl',i+1,?_,by omega,?_⟩,?_⟩
   . simp only;rw[w64 (by omega)];rfl
   . rw[List.replicate_succ'];exact hw
   . simp only;rw[w64 (by omega)];omega
 . simp only at h3
   have hi':i=n:=by omega
   subst hi'
   obtain⟨xs,g1,g2,g3⟩:=hp
   refine⟨xs.flatMap qc,by rw[g1.1];exact zhr (Hp.le_trans hD ho.dle) g1.2,?_⟩
   refine ho.apps (RdQ.len g1) (by rw[g2.1];simp;omega) (g2.le hD) λy h2 hy=>?_
   refine zsg hy.pl (by simp;omega) hB.2 λw h3 hw=>hk _ _ (Hp.le_trans hD (Hp.le_trans hy.dle hw.hle)) (hw.base (Hp.le_trans hD hy.dle))
theorem zam0{n i:Nat}:co (List.replicate n 0++p) i=if i<n then 0 else co p (i-n):=by
 rw[co_append,List.length_replicate,co_replicate]
theorem zaic{C:Nat}(hp:PL h A l p)(hq:PL h B m q)(hlen:p.length<=1000)(hlen2:q.length<=1000)(hA:1<=A/\A<=100000000000)(hB:1<=B/\B<=100000000000)(hC:∀k n,k<=q.length->BR C (part (co q) (co p) k n))(hC2:1<=C/\C<=400000000000)
 (H:∀y h',h.le h'->PL h' C y (if q=[]then []else trim (mulL p q))->K y h'):callP (F.zm2 l m) K h:=by
 have hfin:∀r,nf r->(∀n,co r n=part (co q) (co p) q.length n)->r=(if q=[]then []else trim (mulL p q)):=λr h1 h2=>by
  have h3:r=trim (mulL p q):=Pq.trim_of h1 λi=>by rw[h2,co_mulL,conv_comm,part_conv λi hi=>co_ge hi]
  split
  . rename_i hh
    refine nf_eq_nil h1 λi=>?_
    rw[h2,hh];rfl
  . exact h3
 refine za3 (λy h'=>PL h' C y (if q=[]then []else trim (mulL p q))) (λK' hk=>?_) λy h' hl hy=>H y h' hl hy
 unfold F.zm2
 have hl:=hp.len
 have hl2:=hq.len
 refine zaa (λst h'=>h.le h'/\∃i:Nat,st.2.1=(i:Int)/\i<=q.length/\∃r,PL h' C st.1 r/\nf r/\r.length<=p.length+i/\∀n,co r n=part (co q) (co p) i n) (λst=>((q.length:Int)-st.2.1).toNat)
  ⟨Hp.le_refl _,0,rfl,Nat.zero_le _,[],PL.nil,.inl rfl,Nat.zero_le _,λn=>rfl⟩ ?_
 rintro⟨s,_,_⟩ h1 ⟨hl1,i,hi,hi2,r,hr,nr,lr,cr⟩
 simp only at hi hr
 subst hi
 refine za5 (λh3=>?_) (λh3=>?_)
 . simp only at h3
   have hi':i<q.length:=by omega
   refine(hq.le hl1).get i rfl hi' λy hy by_=>?_
   refine zx4 (hp.le hl1) hy by_ (by omega) (by omega) (by omega) λy2 h2 hy2=>?_
   have ht:=trim_len (p:=p.map (q[i]*·))
   rw[List.length_map]at ht
   refine zafx (n:=i) hy2.pl (by omega) (by omega) λy3 h3 hy3=>?_
   have ht3:=trim_len (p:=List.replicate i 0++trim (p.map (q[i]*·)))
   rw[List.length_append,List.length_replicate]at ht3
   have hl3:=Hp.le_trans hy2.hle hy3.hle
   have cnew:∀n,co r n+co (trim (List.replicate i 0++trim (p.map (q[i]*·)))) n=part (co q) (co p) (i+1) n:=λn=>by
    rw[co_trim,zam0,cr]
    unfold Pq.part
    rw[sm_succ]
    congr 1
    by_cases hn:n<i
    . rw[if_pos hn,if_neg (by omega)]
    . rw[if_neg hn,if_pos (by omega),co_trim,zmh,co_lt hi']
   refine za4g (hr.le hl3) hy3.pl (by omega) (by omega) (by omega) (by omega) (C:=C) (λn=>by rw[cnew];exact hC _ _ hi') (by omega) λw h4 hw=>?_
   have hlen3:(addL r (trim (List.replicate i 0++trim (p.map (q[i]*·))))).length<=p.length+(i+1)\/True:=.inr trivial
   refine⟨⟨Hp.le_trans hl1 (Hp.le_trans hl3 hw.hle),i+1,?_,hi',_,hw.pl,nf_trim,?_,λn=>?_⟩,?_⟩
   . simp only;rw[w64 (by omega)];rfl
   . refine nf_len nf_trim λn hn=>?_
     rw[co_trim,co_addL,co_ge (by omega),co_ge (by omega)];exact Rat.add_zero 0
   . rw[co_trim,co_addL,cnew]
   . simp only;rw[w64 (by omega)];omega
 . simp only at h3
   have hi':i=q.length:=by omega
   subst hi'
   refine hk _ _ hl1 ?_
   rw[<-hfin r nr cr];exact hr
end
end Den
end

section
namespace Den
open Go Iv Pq
theorem and32{x:Nat}(hx:x<4294967296):ibits .and .u64 (x:Int) 4294967295=(x:Int):=by
 unfold ibits
 simp only
 have e1:BitVec.ofInt u64.bits (x:Int)=BitVec.ofNat 64 x:=rfl
 have e2:BitVec.ofInt u64.bits (4294967295:Int)=BitVec.ofNat 64 4294967295:=rfl
 rw[e1,e2]
 have e3:(BitVec.ofNat 64 x &&& BitVec.ofNat 64 4294967295).toNat=x:=by
  rw[BitVec.toNat_and,BitVec.toNat_ofNat,BitVec.toNat_ofNat,Nat.mod_eq_of_lt (by omega),Nat.mod_eq_of_lt (by omega)]
  have:(4294967295:Nat)=2 ^ 32-1:=rfl
  rw[this,Nat.and_two_pow_sub_one_eq_mod,Nat.mod_eq_of_lt (by omega)]
 have e4:u64.wrap (((BitVec.ofNat 64 x &&& BitVec.ofNat 64 4294967295).toNat:Nat):Int)=(x:Int):=by rw[e3,wu64 (by omega)]
 exact e4
theorem qshr32{x:Nat}(hx:x<4294967296):((x:Int)).fdiv (2 ^ (min (32:Int).toNat u64.bits))=0:=by
 have:(2:Int) ^ (min (32:Int).toNat u64.bits)=4294967296:=by decide
 rw[this,Int.fdiv_eq_ediv_of_nonneg _ (by decide)]
 omega
theorem zaan{x y:Nat}{h:Hp}{K:Int×Int->Hp->Prop}(hx:x<65536)(hy:y<65536)(H:K (0,((x*y:Nat):Int)) h):callP (F.zhg (x:Int) (y:Int)) K h:=by
 have hxy:x*y<4294967296:=Nat.lt_of_le_of_lt (Nat.mul_le_mul (show x<=65535 by omega) (show y<=65535 by omega)) (by decide)
 refine zao _ (λK' hk=>?_) H
 unfold F.zhg
 refine zao (0,((x*y:Nat):Int)) (λK2 hk2=>?_) hk
 unfold F.zih
 refine⟨by decide,by decide,by decide,by decide,by decide,?_⟩
 have ex:((x:Nat):Int).fdiv (2 ^ (min (32:Int).toNat u64.bits))=0:=qshr32 (by omega)
 have ey:((y:Nat):Int).fdiv (2 ^ (min (32:Int).toNat u64.bits))=0:=qshr32 (by omega)
 have exy:(((x*y:Nat)):Int).fdiv (2 ^ (min (32:Int).toNat u64.bits))=0:=qshr32 hxy
 have e0:((0:Nat):Int).fdiv (2 ^ (min (32:Int).toNat u64.bits))=0:=qshr32 (by decide)
 have ax:=and32 (x:=x) (by omega)
 have ay:=and32 (x:=y) (by omega)
 have a0:=and32 (x:=0) (by decide)
 have w0:u64.wrap 0=0:=by decide
 have em:((x:Nat):Int)*((y:Nat):Int)=((x*y:Nat):Int):=(Int.natCast_mul x y).symm
 have wm:u64.wrap ((x*y:Nat):Int)=((x*y:Nat):Int):=wu64 (by omega)
 have c0:((0:Nat):Int)=0:=rfl
 rw[c0]at e0 a0
 simp only[ex,ey,ax,ay,em,wm,exy,Int.zero_mul,Int.mul_zero,Int.add_zero,w0,e0,a0]
 exact hk2
def zT:TRat:=⟨⟨false,nilS⟩,⟨false,nilS⟩⟩
theorem zajm{n:Nat}:repl n (qc zT)=(List.replicate n zT).flatMap qc:=by
 unfold repl
 induction n with
 | zero=>rfl
 | succ n ih=>rw[List.replicate_succ,List.replicate_succ,List.flatten_cons,List.flatMap_cons,ih]
section
variable {D h : Hp} {n : Nat} {x y : Sl} {cs vs : List Value}
theorem zafu{off:Nat}:splice cs off []=cs:=by unfold splice;simp
theorem zajq{off:Nat}{K:Hp->Prop}(ho:Own D h n x cs)(hoff:off+vs.length<=cs.length)(hleaf:vs.all Value.leaf=true)(H:∀h',Own D h' n x (splice cs off vs)->K h'):stO x.a off vs K h:=by
 obtain⟨h1,h2,h3,h4⟩:=ho
 cases ha:x.a with
 | none=>
   rw[ha]at h4
   simp only at h4
   have:cs.length=0:=by rw[<-h2,show x.len=0 by omega,Nat.zero_mul]
   have hv:vs=[]:=List.eq_nil_of_length_eq_zero (by omega)
   subst hv
   rw[zafu]at H
   exact H _ ⟨h1,h2,h3,by rw[ha];exact h4⟩
 | some a=>
   rw[ha]at h4
   obtain⟨g1,g2,g3,b,g4,g5,g6,g7⟩:=h4
   have e2:cs.length<=b.cells.length:=by rw[g6,<-h2];exact Nat.mul_le_mul_right _ h3
   refine⟨b,by rw[zcd];exact g4,znw g2 _,g5,by rw[zhb];omega,hleaf,?_⟩
   rw[zcd,zhb,g1,Nat.zero_add]
   refine H _ ⟨?_,?_,h3,?_⟩
   . intro kk bk hkk
     rw[Hp.ins_ne (λhh=>by subst hh;rw[g3]at hkk;cases hkk)]
     exact h1 kk bk hkk
   . rw[zcl hoff];exact h2
   . rw[ha]
     refine⟨g1,g2,g3,_,Hp.ins_same _ _ _,g5,?_,?_⟩
     . show(splice b.cells off vs).length=_
       rw[zcl (by omega)];exact g6
     . show(splice b.cells off vs).take _=_
       rw[zcl hoff]
       exact zov hoff g7
theorem zaou{k e:Nat}{K:Hp->Prop}(hk:k<x.cap)(H:stO x.a (k*n) vs K h):stO (x.cut k e n).a 0 vs K h:=by
 have:(x.cut k e n).a=x.a.map (·.add (k*n)):=by show(if x.cap=k then _ else _)=_;rw[if_neg (by omega)]
 rw[this]
 cases ha:x.a with
 | none=>rw[ha]at H;exact H
 | some a=>
   rw[ha]at H
   simp only[Option.map_some]
   show stP ((a.add (k*n)).add 0) vs K h
   rw[zky]
   exact H
theorem zamv(ho:Own D h n x cs){j:Nat}(hj:j<=cs.length):cellsAtO h x.a j=some (cs.take j):=by
 have h1:=ho.rd.2
 cases ha:x.a with
 | some a=>rw[ha]at h1;exact zjf h1 hj
 | none=>
   rw[ha]at h1
   simp only[cellsAtO]at h1 |-
   split at h1
   . rename_i h5
     simp only[Option.some.injEq]at h1
     have:j=0:=by omega
     subst this
     simp
   . cases h1
end
theorem za4l{A B vs:List Value}(h:vs.length<=B.length):splice (A++B) A.length vs=A++vs++B.drop vs.length:=by
 unfold splice
 rw[List.take_left,List.drop_append]
 simp[List.append_assoc]
theorem zafz{h:Hp}{x:Sl}{z:TRat}{n:Nat}{K:Sl->Hp->Prop}(hr:RdQ h x [z])(hn:n<65536)(H:∀y h',Own h h' 4 y ((List.replicate n z).flatMap qc)->K y h') :
 callP (F.zb7 x (n:Int)) K h:=by
 refine za3 (λy h'=>Own h h' 4 y ((List.replicate n z).flatMap qc)) (λK' hk=>?_) λy h' _ hy=>H y h' hy
 unfold F.zb7
 have hxl:x.len=1:=RdQ.len hr
 refine zuf (zab (decide_eq_false (by omega)) ?_)
 have e1:u64.wrap ((x.len:Int))=((1:Nat):Int):=by rw[hxl,wu64 (by decide)]
 have e2:u64.wrap ((n:Int))=(n:Int):=wu64 (by omega)
 rw[e1,e2]
 refine zaan (by decide) hn ?_
 have e3:((1*n:Nat):Int)=(n:Int):=by rw[Nat.one_mul]
 rw[e3]
 refine zuf (zab (decide_eq_false (by simp only;omega)) (zab (decide_eq_false (by simp only;omega)) ?_))
 have e4:i64.wrap (((0:Int),(n:Int)).2)=(n:Int):=w64 (by simp only;omega)
 rw[e4]
 refine zahx (size:=4) n n rfl rfl (Nat.le_refl _) (by omega) (by omega) rfl λm h1 ml mc ho=>?_
 have hz:repl n [Value.bool false,.slice nilS.a nilS.len nilS.cap,.bool false,.slice nilS.a nilS.len nilS.cap]=(List.replicate n zT).flatMap qc:=zajm
 rw[hz]at ho
 have qlen:∀j (u:TRat),((List.replicate j u).flatMap qc).length=j*4:=λj u=>by rw[ze4 zdu,List.length_replicate]
 have qleaf:∀j (u:TRat),((List.replicate j u).flatMap qc).all Value.leaf=true:=λj u=>by
  rw[List.all_flatMap,List.all_eq_true];intro x _;exact zuo x
 have qtake:∀i j (u:TRat),((List.replicate i u).flatMap qc).take (j*4)=(List.replicate (min j i) u).flatMap qc:=λi j u=>by
  rw[zw1 zdu,List.take_replicate]
 have qdrop:∀i j (u:TRat),((List.replicate i u).flatMap qc).drop (j*4)=(List.replicate (i-j) u).flatMap qc:=λi j u=>by
  rcases Nat.le_total i j with h1 | h1
  . rw[List.drop_of_length_le (by rw[qlen];omega),show i-j=0 by omega];rfl
  . have:i=j+(i-j):=by omega
    conv=>lhs;rw[this,<-List.replicate_append_replicate,List.flatMap_append]
    rw[List.drop_append_of_le_length (by rw[qlen];omega),List.drop_of_length_le (by rw[qlen];omega),List.nil_append]
 have qapp:∀i j (u:TRat),(List.replicate i u).flatMap qc++(List.replicate j u).flatMap qc=(List.replicate (i+j) u).flatMap qc:=λi j u=>by
  rw[<-List.flatMap_append,List.replicate_append_replicate]
 have hmin1:Nat.min x.len m.len=min 1 n:=by rw[hxl,ml]
 refine⟨(List.replicate (min 1 n) z).flatMap qc,?_,?_⟩
 . rw[hmin1]
   have hx2:cellsAtO h1 x.a 4=some (qc z):=by
    have:=zhr ho.1 hr.2
    simpa [zdu] using this
   rcases Nat.eq_zero_or_pos n with h0 | h0
   . subst h0
     simp only[Nat.min_zero,Nat.zero_mul,List.replicate_zero,List.flatMap_nil]
     cases x.a<;>simp[cellsAtO,cellsAt]
   . have:min 1 n=1:=by omega
     rw[this]
     simpa using hx2
 refine zajq ho (by rw[qlen,qlen];omega) (qleaf _ _) λh2 ho2=>?_
 have hfirst:splice ((List.replicate n zT).flatMap qc) 0 ((List.replicate (min 1 n) z).flatMap qc)=(List.replicate (min 1 n) z).flatMap qc++(List.replicate (n-min 1 n) zT).flatMap qc:=by
  have:=za4l (A:=[]) (B:=(List.replicate n zT).flatMap qc) (vs:=(List.replicate (min 1 n) z).flatMap qc) (by rw[qlen,qlen];omega)
  simp only[List.nil_append,List.length_nil]at this
  rw[this,qlen,qdrop]
 rw[hfirst]at ho2
 rw[hmin1]
 refine zaa (λst h'=>∃k:Nat,st.1=(k:Int)/\k<=n/\(k=0->n=0)/\Own h h' 4 m ((List.replicate k z).flatMap qc++(List.replicate (n-k) zT).flatMap qc)) (λst=>((n:Int)-st.1).toNat)
  ⟨min 1 n,rfl,by omega,by omega,ho2⟩ ?_
 rintro⟨_,_⟩ h3 ⟨k,hk1,hk2,hk3,ho3⟩
 simp only at hk1
 subst hk1
 refine za5 (λh4=>?_) (λh4=>?_)
 . simp only[ml]at h4
   have hkn:k<n:=by omega
   refine zwc k n rfl (by rw[ml]) hk2 (by omega) (zwc 0 k rfl rfl (Nat.zero_le _) (by omega) ?_)
   obtain⟨c1,c2,c3⟩:=cut0 m k 4 (by omega)
   have hcl:(m.cut k n 4).len=n-k:=rfl
   have hmin2:Nat.min (m.cut 0 k 4).len (m.cut k n 4).len=min k (n-k):=by rw[c1,hcl]
   refine⟨(List.replicate (min k (n-k)) z).flatMap qc,?_,?_⟩
   . rw[hmin2,c3,zamv ho3 (by rw[List.length_append,qlen,qlen];omega),List.take_append_of_le_length (by rw[qlen];omega),qtake,show min (min k (n-k)) k=min k (n-k)by omega]
   . rw[hmin2]
     refine zaou (by omega) (zajq ho3 (by rw[List.length_append,qlen,qlen,qlen];omega) (qleaf _ _) λh5 ho5=>?_)
     have hs:=za4l (A:=(List.replicate k z).flatMap qc) (B:=(List.replicate (n-k) zT).flatMap qc) (vs:=(List.replicate (min k (n-k)) z).flatMap qc) (by rw[qlen,qlen];omega)
     rw[qlen,qlen,qdrop,qapp]at hs
     rw[hs,show n-k-min k (n-k)=n-(k+min k (n-k))by omega]at ho5
     have e5:i64.wrap ((k:Int)+((min k (n-k):Nat):Int))=((k+min k (n-k):Nat):Int):=by rw[w64 (by omega)];omega
     exact⟨⟨k+min k (n-k),e5,by omega,by omega,ho5⟩,by simp only;rw[e5];omega⟩
 . simp only[ml]at h4
   have hkn:k=n:=by omega
   subst hkn
   rw[Nat.sub_self,List.replicate_zero,List.flatMap_nil,List.append_nil]at ho3
   exact hk _ _ ho3.1 ho3
end Den
end

section
namespace Den
open Go Iv Pq
section
variable {h : Hp} {A B : Nat} {l m : Sl} {p q : List Rat} {K : Sl → Hp → Prop} {KR : TRat → Hp → Prop} {Kb : Bool → Hp → Prop} {c : Rat} {x : TRat}
theorem zaiz{n:Nat}(hn:n<65536)(H:∀y h',OL h h' 1 y (List.replicate n 0)->K y h'):callP (F.zet (n:Int)) K h:=by
 refine za3 (λy h'=>OL h h' 1 y (List.replicate n 0)) (λK' hk=>?_) λy h' _ hy=>H y h' hy
 unfold F.zet
 refine zbz (by decide) (by decide) λz h1 hl1 hz=>?_
 refine zafn (xs:=[z]) 1 rfl λa h2 hl2 ha=>?_
 refine zafz ha hn λy h3 hy=>?_
 refine hk _ _ (Hp.le_trans hl1 (Hp.le_trans hl2 hy.1)) ⟨h2,Hp.le_trans hl1 hl2,_,hy,?_⟩
 refine⟨by simp,λk h4 h5=>?_⟩
 rw[List.getElem_replicate,List.getElem_replicate]
 exact⟨(hz.le hl2:NR h2 z 0),zme⟩
theorem zon(hp:PL h A l p)(hx:NR h x c)(bc:BR B c)(hlen:p.length<=1000000000000)(hA:A<=400000000000)(hB:B<=400000000000)(H:∀y h',OL h h' (A+B) y (trim (p.map (c*·)))->K y h'):callP (F.zdj l x) K h:=by
 refine za3 (λy h'=>OL h h' (A+B) y (trim (p.map (c*·)))) (λK' hk=>?_) λy h' _ hy=>H y h' hy
 unfold F.zdj
 have hl:=hp.len
 refine zahx (size:=4) p.length p.length (by rw[hl]) (by rw[hl]) (Nat.le_refl _) (by omega) (by omega) rfl λm h1 ml mc ho=>?_
 have hz:repl p.length [Value.bool false,.slice nilS.a nilS.len nilS.cap,.bool false,.slice nilS.a nilS.len nilS.cap]=(List.replicate p.length zT).flatMap qc:=zajm
 rw[hz]at ho
 refine zaa (λst h'=>∃D,h.le D/\∃i:Nat,st.1=(i:Int)/\i<=p.length/\∃xs:List TRat,xs.length=p.length/\Own D h' 4 m (xs.flatMap qc)/\QL D (A+B) (xs.take i) ((p.take i).map (c*·))) (λst=>(p.length-st.1).toNat)
  ⟨h,Hp.le_refl _,0,rfl,Nat.zero_le _,List.replicate p.length zT,by simp,ho,⟨rfl,λk h1 _=>by simp at h1⟩⟩ ?_
 rintro⟨_,_⟩ h2 ⟨D,hD,i,hi,hi2,xs,hxs,ho2,hq⟩
 simp only at hi
 subst hi
 refine za5 (λh3=>?_) (λh3=>?_)
 . simp only at h3
   have hi':i<p.length:=by omega
   refine hp.getle i (Hp.le_trans hD ho2.1) rfl hi' λy hy by_=>?_
   refine ho2.call (K1:=λz D'=>NR D' z (p[i]*c)) (zlx (hy.le hD) (hx.le hD) by_ bc hA hB λz D' hl' hz=>hz) λz D' h3 hl' ho' hz=>?_
   refine zajn zdu (by decide) (x:=z) i ho' rfl (by omega) (zuo z) λh4 ho4 _=>⟨⟨D',Hp.le_trans hD hl',i+1,?_,hi',xs.set i z,by simpa using hxs,ho4,?_⟩,?_⟩
   . simp only;rw[w64 (by omega)];rfl
   . have e1:(xs.set i z).take (i+1)=xs.take i++[z]:=by
      rw[List.take_succ_eq_append_getElem (by simp;omega),List.take_set_of_le (Nat.le_refl _)]
      simp
     have e2:(p.take (i+1)).map (c*·)=(p.take i).map (c*·)++[p[i]*c]:=by
      rw[List.take_succ_eq_append_getElem hi',List.map_append]
      simp only[List.map_cons,List.map_nil]
      rw[Rat.mul_comm]
     rw[e1,e2]
     exact QL.snoc (hq.le hl') hz (by_.mul bc)
   . simp only;rw[w64 (by omega)];omega
 . simp only at h3
   have hi':i=p.length:=by omega
   subst hi'
   rw[List.take_length,<-hxs,List.take_length]at hq
   have hod:OD D h2 (A+B) m (p.map (c*·)):=⟨xs,ho2,hq⟩
   refine zeg hod.pl (by simpa using hlen) (by omega) λy h' hy=>hk _ _ (Hp.le_trans hD (Hp.le_trans ho2.1 hy.hle)) (hy.base (Hp.le_trans hD ho2.1))
end
end Den
end

section
namespace Den
open Go Iv Pq
section
variable {h : Hp} {A B C : Nat} {l m : Sl} {p q : List Rat} {K : Sl → Hp → Prop} {KR : TRat → Hp → Prop} {Kb : Bool → Hp → Prop} {c : Rat} {x : TRat}
theorem za93{f g:Nat->Rat}{i j:Nat}:Pq.part f g (i+1) j=Pq.part f g i j+(if i<=j then f i*g (j-i)else 0):=rfl
theorem za4c{Ka:Addr->Hp->Prop}(H:∀a h',h.le h'->h'.cell a=some (.slice l.a l.len l.cap)->Ka a h'):callP (F.zaz l) Ka h:=by
 refine za3 (λa h'=>h'.cell a=some (.slice l.a l.len l.cap)) (λK' hk=>?_) λa h' hl ha=>H a h' hl ha
 unfold F.zaz
 intro b e hb
 refine hk _ _ (Hp.le_ins hb) ?_
 unfold Hp.cell
 simp only[Hp.ins_same]
 rfl
abbrev qt(x:TRat):Bool×Sl×Bool×Sl×Unit:=(x.num.neg,x.num.mag,x.den.neg,x.den.mag,())
theorem zalq{h':Hp}(hp:PL h B l p)(hl:h.le h'){i:Nat}(hi:i<p.length) :
 ∃(ad:Addr) (x:TRat),l.a=some ad/\NR h x p[i]/\BR B p[i]/\∀j u,(qc x)[j]?=some u->h'.cell (ad.add (i*4+j))=some u:=by
 obtain⟨xs,h1,h2,h3⟩:=hp
 have hi':i<xs.length:=by rw[h2.1];exact hi
 have h4:=(h1.le hl).2
 have hpos:0<(xs.flatMap qc).length:=by rw[ze4 zdu];omega
 cases ha:l.a with
 | none=>
   rw[ha]at h4
   simp only[cellsAtO]at h4
   split at h4
   . omega
   . cases h4
 | some ad=>
   rw[ha]at h4
   simp only[cellsAtO]at h4
   refine⟨ad,xs[i],rfl,(h2.2 i hi' hi).1,(h2.2 i hi' hi).2,λj u hj=>?_⟩
   have hj4:j<4:=by
    rcases Nat.lt_or_ge j 4 with h5 | h5
    . exact h5
    . rw[List.getElem?_eq_none (by rw[zdu];exact h5)]at hj;cases hj
   exact zhs h4 (i*4+j) u (by rw[za3o zdu hi' hj4];exact hj)
theorem zai3(hp:PL h A l p)(hx:NR h x c)(bc:BR B c)(hlen:p.length<=1000000000000)(hA:A<=100000000000)(hB:B<=100000000000)(hC:∀i,BR C (ev (p.drop i) c))(hC2:C<=200000000000)(H:∀z h',h.le h'->NR h' z (ev p c)->KR z h'):callP (F.zfe l x) KR h:=by
 refine za3 (λz h'=>NR h' z (ev p c)) (λK' hk=>?_) λz h' hl hz=>H z h' hl hz
 unfold F.zfe
 have hl:=hp.len
 refine zbz (by decide) (by decide) λz0 h1 hl1 hz0=>?_
 refine za4c λad h2 hl2 had=>?_
 have hl02:=Hp.le_trans hl1 hl2
 refine⟨l,λi st h'=>i<=p.length/\h2.le h'/\NR h' (q4 st.1) (ev (p.drop i) c),by omega,⟨by omega,Hp.le_refl _,?_⟩,λi st h' hI=>Hp.cell_le hI.2.1 had,λi st h' hi hI=>?_,λst h' hI=>?_⟩
 . rw[hl,List.drop_length];exact hz0.le hl2
 . obtain⟨_,hl3,hs⟩:=hI
   have hi':i<p.length:=by omega
   obtain⟨a,y,ha,hy,by_,hc⟩:=zalq hp (Hp.le_trans hl02 hl3) hi'
   refine⟨a,qt y,ha,λj u hj=>hc j u hj,?_⟩
   have hl03:=Hp.le_trans hl02 hl3
   refine zlx hs (hx.le hl03) (hC _) bc (by omega) (by omega) λr h4 hl4 hr=>?_
   refine zpg hr ((hy.le hl03).le hl4) ((hC _).mul bc) by_ (by omega) (by omega) λw h5 hl5 hw=>?_
   refine⟨by omega,Hp.le_trans hl3 (Hp.le_trans hl4 hl5),?_⟩
   rw[ev_drop hi',Rat.add_comm]
   exact hw
 . have:=hI.2.2
   rw[List.drop_zero]at this
   exact hk _ _ (Hp.le_trans hl02 hI.2.1) this
end
end Den
end

section
namespace Den
open Go Iv Pq
section
variable {h : Hp} {A B C : Nat} {l m : Sl} {p q : List Rat} {K : Sl → Hp → Prop} {KR : TRat → Hp → Prop} {Kb : Bool → Hp → Prop} {c : Rat} {x : TRat}
end
end Den
end

section
namespace Den
open Go Iv Pq
def stepF(b:Nat->Rat)(d i:Nat)(f:Nat->Rat):Nat->Rat:=λj=>if i<=j then f j-(f (i+d)/b d)*b (j-i)else f j
def restK(b:Nat->Rat)(d N:Nat)(f:Nat->Rat):Nat->(Nat->Rat)
 | 0=>f
 | k+1=>stepF b d (N-1-k) (restK b d N f k)
section
variable {D h h' : Hp} {A B C : Nat} {l m x : Sl} {p q : List Rat} {K : Sl → Hp → Prop} {KK : Sl × Sl → Hp → Prop}
theorem OD.stay(ho:OD D h B l p)(hap:Apt x l)(hl:D.le h')(hs:∀j,(∀a,x.a=some a->j≠a.block)->h' j=h j):OD D h' B l p:=by
 obtain⟨xs,h1,h2⟩:=ho
 exact⟨xs,zamw h1 hap hl hs,h2⟩
theorem OD.call2{α:Type}{G:(α->Hp->Prop)->Hp->Prop}{K1 K:α->Hp->Prop}(h1:OD D h A l p)(h2:OD D h B m q)(H:callP G K1 D)
 (k:∀v D' h',D.le D'->OD D' h' A l p->OD D' h' B m q->K1 v D'->K v h'):callP G K h:=by
 obtain⟨xs,a1,a2⟩:=h1
 obtain⟨ys,b1,b2⟩:=h2
 exact zpb a1.1 H λv D' h' g1 g2 g3 g4=>k v D' h' g1 ⟨xs,a1.move g2 g3,a2.le g1⟩ ⟨ys,b1.move g2 g3,b2.le g1⟩ g4
theorem OD.pair{D1 D2:Hp}{r s:Sl}(h1:∃xs,Own D2 h 4 r (xs.flatMap qc)/\QL D1 A xs p)(h2:OL D1 D2 B s q):∃D3,D1.le D3/\OD D3 h A r p/\OD D3 h B s q/\Apt r s:=by
 obtain⟨xs,a1,a2⟩:=h1
 obtain⟨D3,c1,ys,b1,b2⟩:=h2
 refine⟨D3,c1,⟨xs,a1.base b1.1,a2.le c1⟩,⟨ys,b1.le a1.1,b2⟩,λa b ha hb=>?_⟩
 obtain⟨_,_,_,g4⟩:=a1
 rw[ha]at g4
 obtain⟨_,_,k3,_⟩:=g4
 obtain⟨_,_,_,f4⟩:=b1
 rw[hb]at f4
 obtain⟨_,_,_,bb,e4,_⟩:=f4
 intro hh
 rw[hh,e4]at k3
 cases k3
theorem NR.num_ne{y:TRat}{v:Rat}(h0:v≠0):v.num≠0:=λhh=>h0 (Rat.num_eq_zero.1 hh)
theorem zhi(hp:PL h A l p)(hq:PL h B m q)(hlen:p.length<=1000)(hlen2:q.length<=1000)(hB:1<=B/\B<=50000000000)(hq0:trim q≠[])
 (hC:∀k j,k<=(trim p).length+1-(trim q).length->BR C (restK (co q) ((trim q).length-1) ((trim p).length+1-(trim q).length) (co p) k j)) (hC2:A<=C/\C<=50000000000)
 (H:∀y z h' qs rs,h.le h'->PL h' (C+B) y (trim qs)->PL h' C z (trim rs)->qs.length<=1001->rs.length<=1000->(∀j,conv (co qs) (co q) j+co rs j=co p j)->(∀j,(trim q).length-1<=j->co rs j=0)->(∀j,co rs j=restK (co q) ((trim q).length-1) ((trim p).length+1-(trim q).length) (co p) ((trim p).length+1-(trim q).length) j)->KK (y,z) h') :
 callP (F.zb6 l m) KK h:=by
 refine za3 (λyz h'=>∃qs rs,PL h' (C+B) yz.1 (trim qs)/\PL h' C yz.2 (trim rs)/\qs.length<=1001/\rs.length<=1000/\(∀j,conv (co qs) (co q) j+co rs j=co p j)/\(∀j,(trim q).length-1<=j->co rs j=0)/\(∀j,co rs j=restK (co q) ((trim q).length-1) ((trim p).length+1-(trim q).length) (co p) ((trim p).length+1-(trim q).length) j)) (λK' hk=>?_)
  λyz h' hl ⟨qs,rs,g1,g2,g3,g4,g5,g6,g7⟩=>H yz.1 yz.2 h' qs rs hl g1 g2 g3 g4 g5 g6 g7
 unfold F.zb6
 have tq:=trim_len (p:=q)
 have tp:=trim_len (p:=p)
 have hd0:0<(trim q).length:=List.length_pos_iff.2 hq0
 obtain⟨d,hd⟩:∃d,(trim q).length=d+1:=⟨(trim q).length-1,by omega⟩
 obtain⟨N,hN⟩:∃N,N=(trim p).length+1-(trim q).length:=⟨_,rfl⟩
 rw[<-hN]at hC
 have hdd:(trim q).length-1=d:=by omega
 rw[hdd]at hC hk
 have hb:co q d≠0:=by
  have:=nf_top nf_trim hq0
  rw[hdd,co_trim]at this
  exact this
 have hb2:∀j,d<j->co q j=0:=λj hj=>by rw[<-co_trim,co_ge (by omega)]
 refine zeg hq (by omega) (by omega) λr1 h1 hr1=>?_
 refine zeg (hp.le hr1.hle) (by omega) (by omega) λr2 h2 hr2=>?_
 have len1:=hr1.len
 have len2:=hr2.len
 have eN:maxI 0 (i64.wrap (i64.wrap ((r2.len:Int)-(r1.len:Int))+1))=(N:Int):=by
  rw[len1,len2,w64 (n:=((trim p).length:Int)-((trim q).length:Int)) (by omega),w64 (by omega)]
  unfold maxI
  split<;>omega
 rw[eN]
 have hpl1:=hr1.pl
 obtain⟨D2,hD2,xs,ho2,hq2⟩:=hr2
 refine ho2.call (K1:=λv D'=>OL D2 D' 1 v (List.replicate N 0)) (zaiz (by omega) λy h' hy=>hy) λr3 D' h3 _ ho3 hr3=>?_
 obtain⟨D3,hD3,hoR,hoQ,hap⟩:=OD.pair ⟨xs,ho3,hq2⟩ hr3
 have hh1D:h1.le D3:=Hp.le_trans hD2 hD3
 have e0:i64.wrap ((r2.len:Int)-(r1.len:Int))=((trim p).length:Int)-((trim q).length:Int):=by rw[len1,len2,w64 (by omega)]
 rw[e0]
 refine zaa (λst h'=>∃D,h1.le D/\∃n:Nat,(st.1=(n:Int)-1\/(st.1<0/\n=0))/\n<=N/\∃qs rs,qs.length=N/\rs.length=(trim p).length/\OD D h' C r2 rs/\OD D h' (C+B) r3 qs /\
  (∀j,co rs j=restK (co q) d N (co p) (N-n) j)/\(∀j,j<n->co qs j=0)/\(∀j,conv (co qs) (co q) j+co rs j=co p j)/\(∀j,n+d<=j->co rs j=0)) (λst=>(st.1+1).toNat)
  ⟨D3,hh1D,N,?_,Nat.le_refl _,_,_,by simp,rfl,hoR.mono hC2.1,hoQ.mono (by omega),λj=>by rw[Nat.sub_self,co_trim];rfl,λj _=>co_replicate,λj=>?_,λj hj=>?_⟩ ?_
 . simp only;omega
 . rw[conv_comm,conv_congr (g':=co []) (λ_=>rfl) (λ_=>co_replicate),conv_comm,conv_nil,Rat.zero_add,co_trim]
 . rw[co_ge (by omega)]
 rintro⟨st,_⟩ h4 ⟨D,hD,n,hst,hn,qs,rs,lq,lr,oR,oQ,cR,cQ,cc,cz⟩
 simp only at hst
 refine za5 (λh5=>?_) (λh5=>?_)
 . simp only at h5
   have hst':st=(n:Int)-1:=by omega
   subst hst'
   obtain⟨i,rfl⟩:∃i,n=i+1:=⟨n-1,by omega⟩
   have hiN:i<N:=by omega
   have e1:(((i+1:Nat):Int)-1)=(i:Int):=by omega
   simp only[e1]
   have e2:i64.wrap (i64.wrap ((i:Int)+(r1.len:Int))-1)=((i+d:Nat):Int):=by
    rw[len1,w64 (n:=(i:Int)+((trim q).length:Int)) (by omega),w64 (by omega)];omega
   have e3:i64.wrap ((r1.len:Int)-1)=(d:Int):=by rw[len1,w64 (by omega)];omega
   rw[e2,e3]
   have hid:i+d<rs.length:=by omega
   refine oR.get (i+d) rfl hid λu hu bu=>?_
   refine hpl1.getle d (Hp.le_trans hD oR.dle) rfl (by omega) λv hv bv=>?_
   have ev1:(trim q)[d]'(by omega)=co q d:=by rw[<-co_lt (show d<(trim q).length by omega),co_trim]
   have eu1:rs[i+d]=co rs (i+d):=(co_lt hid).symm
   rw[ev1]at hv bv
   rw[eu1]at hu bu
   refine oR.call2 (K1:=λz D'=>NR D' z.1 (co rs (i+d)/co q d)) oQ (za97 hu (hv.le hD) bu bv (by omega) (by omega) (NR.num_ne (y:=v) hb) λz D' _ hz=>hz) λz D1 h6 hl1 oR1 oQ1 hz=>?_
   have bz:BR (C+B) (co rs (i+d)/co q d):=bu.div bv (NR.num_ne (y:=v) hb)
   refine oQ1.set i rfl (by omega) hz bz λh7 oQ2 hfr=>?_
   have oR2:OD D1 h7 C r2 rs:=oR1.stay hap.symm oQ2.dle hfr
   have hfk:∀j,restK (co q) d N (co p) (N-i) j=stepF (co q) d i (co rs) j:=λj=>by
    have e4:N-i=(N-(i+1))+1:=by omega
    have e5:N-1-(N-(i+1))=i:=by omega
    rw[e4,restK,e5]
    unfold stepF
    rw[cR,cR]
   refine zaa (λst h'=>∃D,h1.le D/\∃k:Nat,st.1=(k:Int)/\k<=d+1/\∃rs',rs'.length=rs.length/\OD D h' C r2 rs'/\OD D h' (C+B) r3 (qs.set i (co rs (i+d)/co q d)) /\
    ∀j,co rs' j=if i<=j/\j<i+k then stepF (co q) d i (co rs) j else co rs j) (λst=>(((d+1:Nat):Int)-st.1).toNat)
    ⟨D1,Hp.le_trans hD hl1,0,rfl,Nat.zero_le _,rs,rfl,oR2,oQ2,λj=>by rw[if_neg (by omega)]⟩ ?_
   rintro⟨_,_⟩ h8 ⟨D4,hD4,k,hk1,hk2,rs',lr',oR3,oQ3,cR3⟩
   simp only at hk1
   subst hk1
   refine za5 (λh9=>?_) (λh9=>?_)
   . simp only[len1]at h9
     have hkd:k<=d:=by omega
     refine hpl1.getle k (Hp.le_trans hD4 oR3.dle) rfl (by omega) λw hw bw=>?_
     have ew1:(trim q)[k]'(by omega)=co q k:=by rw[<-co_lt (show k<(trim q).length by omega),co_trim]
     rw[ew1]at hw bw
     have e6:i64.wrap ((i:Int)+(k:Int))=((i+k:Nat):Int):=by rw[w64 (by omega)];omega
     have hik:i+k<rs'.length:=by omega
     refine oR3.get (i+k) e6 hik λt ht bt=>?_
     refine oQ3.get i rfl (by simp;omega) λg hg bg=>?_
     have eg:(qs.set i (co rs (i+d)/co q d))[i]'(by simp;omega)=co rs (i+d)/co q d:=by simp
     rw[eg]at hg bg
     have et:rs'[i+k]=co rs (i+k):=by rw[<-co_lt hik,cR3,if_neg (by omega)]
     rw[et]at ht bt
     refine oR3.call2 (K1:=λz D'=>NR D' z (co rs (i+d)/co q d*co q k)) oQ3 (zlx hg (hw.le hD4) bg bw (by omega) (by omega) λz D' _ hz=>hz) λz2 D5 h10 hl5 oR4 oQ4 hz2=>?_
     refine oR4.call2 (K1:=λz D'=>NR D' z (co rs (i+k)-co rs (i+d)/co q d*co q k)) oQ4 (zal1 (ht.le hl5) hz2 bt (bg.mul bw) (by omega) (by omega) λz D' _ hz=>hz) λz3 D6 h11 hl6 oR5 oQ5 hz3=>?_
     have es:co rs (i+k)-co rs (i+d)/co q d*co q k=stepF (co q) d i (co rs) (i+k):=by
      unfold stepF
      rw[if_pos (by omega),Nat.add_sub_cancel_left]
     rw[es]at hz3
     have bs:BR C (stepF (co q) d i (co rs) (i+k)):=by rw[<-hfk];exact hC _ _ (by omega)
     refine oR5.set (i+k) e6 hik hz3 bs λh12 oR6 hfr2=>⟨⟨D6,Hp.le_trans hD4 (Hp.le_trans hl5 hl6),k+1,?_,by omega,_,by simpa using lr',oR6,oQ5.stay hap oR6.dle hfr2,λj=>?_⟩,?_⟩
     . simp only;rw[w64 (by omega)];rfl
     . rw[co_set hik]
       by_cases hj:j=i+k
       . subst hj;rw[if_pos rfl,if_pos (by omega)]
       . rw[if_neg hj,cR3]
         by_cases hj2:i<=j/\j<i+k
         . rw[if_pos hj2,if_pos (by omega)]
         . rw[if_neg hj2,if_neg (by omega)]
     . simp only;rw[w64 (by omega)];omega
   . simp only[len1]at h9
     have hkd:k=d+1:=by omega
     subst hkd
     have cR4:∀j,co rs' j=stepF (co q) d i (co rs) j:=λj=>by
      rw[cR3]
      by_cases hj:i<=j/\j<i+(d+1)
      . rw[if_pos hj]
      . rw[if_neg hj]
        unfold stepF
        by_cases hj2:i<=j
        . rw[if_pos hj2,hb2 (j-i) (by omega)];grind
        . rw[if_neg hj2]
     have e7:i64.wrap ((i:Int)-1)=(i:Int)-1:=w64 (by omega)
     refine⟨⟨D4,hD4,i,.inl e7,by omega,_,rs',by simpa using lq,by omega,oR3,oQ3,λj=>by rw[cR4,hfk],λj hj=>?_,λj=>?_,λj hj=>?_⟩,by rw[e7];omega⟩
     . rw[co_set (by omega),if_neg (by omega)]
       exact cQ j (by omega)
     . 
      have e8:conv (co (qs.set i (co rs (i+d)/co q d))) (co q) j=conv (co qs) (co q) j+(if i<=j then co rs (i+d)/co q d*co q (j-i)else 0):=by
       unfold conv
       have e9:∀t,co (qs.set i (co rs (i+d)/co q d)) t=co qs t+(if t=i then co rs (i+d)/co q d else 0):=λt=>by
        rw[co_set (by omega)]
        by_cases ht:t=i
        . subst ht;rw[if_pos rfl,if_pos rfl,cQ t (by omega),Rat.zero_add]
        . rw[if_neg ht,if_neg ht,Rat.add_zero]
       have e10:sm (j+1) (λt=>(if t=i then co rs (i+d)/co q d else 0)*co q (j-t))=if i<=j then co rs (i+d)/co q d*co q (j-i)else 0:=by
        by_cases hij:i<=j
        . rw[if_pos hij,sm_one (k:=i) (by omega) λt _ ht=>by rw[if_neg ht,Rat.zero_mul],if_pos rfl]
        . rw[if_neg hij]
          exact sm_zeros λt ht=>by rw[if_neg (by omega),Rat.zero_mul]
       rw[<-e10,<-sm_add]
       exact sm_congr λt _=>by rw[e9];grind
      rw[e8,cR4]
      unfold stepF
      have:=cc j
      by_cases hij:i<=j
      . rw[if_pos hij,if_pos hij];grind
      . rw[if_neg hij,if_neg hij];grind
     . rw[cR4]
       unfold stepF
       rw[if_pos (by omega)]
       by_cases hj2:j=i+d
       . subst hj2
         rw[Nat.add_sub_cancel_left,Rat.div_mul_cancel hb];grind
       . rw[cz j (by omega),hb2 (j-i) (by omega)];grind
 . simp only at h5
   have hn0:n=0:=by omega
   subst hn0
   refine zeg oQ.pl (by omega) (by omega) λy h6 hy=>?_
   refine zeg (oR.pl.le hy.hle) (by omega) (by omega) λz h7 hz=>?_
   refine hk _ _ (Hp.le_trans hr1.hle (Hp.le_trans hD (Hp.le_trans oR.dle (Hp.le_trans hy.hle hz.hle)))) ⟨qs,rs,hy.pl.le hz.hle,hz.pl,by omega,by omega,cc,λj hj=>cz j (by omega),λj=>by rw[cR j,<-hN];rfl⟩
theorem zabq(hp:PL h A l p)(hq:PL h B m q)(hlen:p.length<=1000)(hlen2:q.length<=1000)(hB:1<=B/\B<=50000000000)(hq0:trim q≠[])
 (hC:∀k j,k<=(trim p).length+1-(trim q).length->BR C (restK (co q) ((trim q).length-1) ((trim p).length+1-(trim q).length) (co p) k j)) (hC2:A<=C/\C<=50000000000)
 (H:∀y z h' qs rs,h.le h'->PL h' (C+B) y (trim qs)->PL h' C z (trim rs)->qs.length<=1001->rs.length<=1000->(∀j,conv (co qs) (co q) j+co rs j=co p j)->(∀j,(trim q).length-1<=j->co rs j=0)->KK (y,z) h') :
 callP (F.zb6 l m) KK h:=
 zhi hp hq hlen hlen2 hB hq0 hC hC2 λy z h' qs rs a1 a2 a3 a4 a5 a6 a7 _=>H y z h' qs rs a1 a2 a3 a4 a5 a6 a7
end
end Den
end

section
namespace Den
open Go Iv Pq
section
variable {h : Hp} {A B C : Nat} {l m : Sl} {p q : List Rat} {KK : Sl × Sl → Hp → Prop} {KR : TRat → Hp → Prop} {KQ : Sl × Sl × Int → Hp → Prop} {x y : TRat} {u v : Rat}
theorem zoo(hp:PL h A l p)(hq:PL h B m q)(hlen:p.length<=1000)(hlen2:q.length<=1000)(hB:1<=B/\B<=50000000000)
 (hC:∀k j,trim q≠[]->k<=(trim p).length+1-(trim q).length->BR C (restK (co q) ((trim q).length-1) ((trim p).length+1-(trim q).length) (co p) k j)) (hC2:A<=C/\C<=50000000000)
 (H0:trim q=[]->∀h',h.le h'->KQ (nilS,nilS,6) h')
 (H:trim q≠[]->∀y z h' qs rs,h.le h'->PL h' (C+B) y (trim qs)->PL h' C z (trim rs)->qs.length<=1001->rs.length<=1000->(∀j,conv (co qs) (co q) j+co rs j=co p j)->(∀j,(trim q).length-1<=j->co rs j=0)->(∀j,co rs j=restK (co q) ((trim q).length-1) ((trim p).length+1-(trim q).length) (co p) ((trim p).length+1-(trim q).length) j)->KQ (y,z,0) h') :
 callP (F.zcy l m) KQ h:=by
 refine za3 (λr h'=>(trim q=[]/\r=(nilS,nilS,6))\/(trim q≠[]/\r.2.2=0/\∃qs rs,PL h' (C+B) r.1 (trim qs)/\PL h' C r.2.1 (trim rs)/\qs.length<=1001/\rs.length<=1000/\(∀j,conv (co qs) (co q) j+co rs j=co p j)/\(∀j,(trim q).length-1<=j->co rs j=0)/\(∀j,co rs j=restK (co q) ((trim q).length-1) ((trim p).length+1-(trim q).length) (co p) ((trim p).length+1-(trim q).length) j))) (λK' hk=>?_)
  λr h' hl hr=>by
   rcases hr with ⟨g1,rfl⟩ | ⟨g1,g2,qs,rs,g3,g4,g5,g6,g7,g8,g9⟩
   . exact H0 g1 h' hl
   . obtain⟨y,z,e⟩:=r
     simp only at g2
     subst g2
     exact H g1 y z h' qs rs hl g3 g4 g5 g6 g7 g8 g9
 unfold F.zcy
 refine zmn hq (by omega) (by omega) λh1 hl1=>?_
 refine za5 (λh2=>?_) (λh2=>?_)
 . exact hk _ _ hl1 (.inl ⟨List.eq_nil_of_length_eq_zero (by omega),rfl⟩)
 . have hq0:trim q≠[]:=λhh=>by rw[hh]at h2;exact h2 (by decide)
   exact zhi (hp.le hl1) (hq.le hl1) hlen hlen2 hB hq0 (λk j hk=>hC k j hq0 hk) hC2 λy z h' qs rs hl g3 g4 g5 g6 g7 g8 g9=>hk _ _ (Hp.le_trans hl1 hl) (.inr ⟨hq0,rfl,qs,rs,g3,g4,g5,g6,g7,g8,g9⟩)
theorem zqp(hp:PL h A l p)(hq:PL h B m q)(hlen:p.length<=1000)(hlen2:q.length<=1000)(hB:1<=B/\B<=50000000000)
 (hC:∀k j,trim q≠[]->k<=(trim p).length+1-(trim q).length->BR C (restK (co q) ((trim q).length-1) ((trim p).length+1-(trim q).length) (co p) k j)) (hC2:A<=C/\C<=50000000000)
 (H0:trim q=[]->∀h',h.le h'->KQ (nilS,nilS,6) h')
 (H:trim q≠[]->∀y z h' qs rs,h.le h'->PL h' (C+B) y (trim qs)->PL h' C z (trim rs)->qs.length<=1001->rs.length<=1000->(∀j,conv (co qs) (co q) j+co rs j=co p j)->(∀j,(trim q).length-1<=j->co rs j=0)->KQ (y,z,0) h') :
 callP (F.zcy l m) KQ h:=
 zoo hp hq hlen hlen2 hB hC hC2 H0 λa0 y z h' qs rs a1 a2 a3 a4 a5 a6 a7 _=>H a0 y z h' qs rs a1 a2 a3 a4 a5 a6 a7
end
end Den
end

section
namespace Den
open Go Iv Pq
def lead(p:List Rat):Rat:=co p ((trim p).length-1)
def monQ(p:List Rat):List Rat:=(trim p).map (((((1:Int):Rat))/lead p)*·)
theorem zaoj:(((1:Int):Rat))=1:=rfl
theorem zit{p:List Rat}(h:trim p≠[]):lead p≠0:=by
 have:=nf_top nf_trim h
 rw[co_trim]at this
 exact this
theorem zabo{c:Rat}{p:List Rat}(hc:c≠0)(hp:nf p):nf (p.map (c*·)):=by
 rcases hp with rfl | hp
 . exact .inl rfl
 . right
   rw[List.length_map,zmh]
   intro hh
   rcases Rat.mul_eq_zero.1 hh with h | h
   . exact hc h
   . exact hp h
theorem zaht{a:Rat}(h:a≠0):(((1:Int):Rat))/a≠0:=λhh=>by
 have e:(((1:Int):Rat))=(((1:Int):Rat))/a*a:=(Rat.div_mul_cancel h).symm
 rw[hh,Rat.zero_mul,zaoj]at e
 exact absurd e (by decide)
theorem zg9{p:List Rat}:nf (monQ p):=by
 by_cases h:trim p=[]
 . unfold monQ;rw[h];exact .inl rfl
 . exact zabo (zaht (zit h)) nf_trim
theorem zbn{p:List Rat}:(monQ p).length=(trim p).length:=by unfold monQ;simp
theorem za07{p:List Rat}{i:Nat}:co (monQ p) i=(((1:Int):Rat))/lead p*co p i:=by unfold monQ;rw[zmh,co_trim]
theorem zalk{n:Nat}(h:n<4294967296):BR 1 (((n:Int):Rat)):=by
 refine⟨?_,?_⟩
 . unfold Lt
   show(n:Int).natAbs<W ^ 1
   rw[Int.natAbs_natCast,Nat.pow_one,W_eq];exact h
 . unfold Lt
   show((1:Nat):Int).natAbs<W ^ 1
   decide
section
variable {h : Hp} {A B C : Nat} {l m : Sl} {p q : List Rat} {K : Sl → Hp → Prop} {KR : TRat → Hp → Prop} {x y : TRat} {u v : Rat}
theorem zbr(hp:PL h A l p)(hlen:p.length<=100000000)(hA:A<=100000000000)(H:∀y h',h.le h'->PL h' (A+(1+A)) y (monQ p)->K y h'):callP (F.zb3 l) K h:=by
 refine za3 (λy h'=>PL h' (A+(1+A)) y (monQ p)) (λK' hk=>?_) λy h' hl hy=>H y h' hl hy
 unfold F.zb3
 have tp:=trim_len (p:=p)
 refine zeg hp (by omega) (by omega) λr1 h1 hr1=>?_
 have len1:=hr1.len
 have hpl:=hr1.pl
 refine zbl (λh2=>?_) (λh2=>?_)
 . have h0:trim p=[]:=List.eq_nil_of_length_eq_zero (by omega)
   refine hk _ _ hr1.hle ?_
   unfold monQ
   rw[h0];exact PL.nil
 . have h0:trim p≠[]:=λhh=>by rw[hh]at len1;exact h2 (by rw[len1];rfl)
   have hpos:0<(trim p).length:=List.length_pos_iff.2 h0
   have e:i64.wrap ((r1.len:Int)-1)=(((trim p).length-1:Nat):Int):=by rw[len1,w64 (by omega)];omega
   refine hpl.get _ e (by omega) λy hy by_=>?_
   have ey:(trim p)[(trim p).length-1]'(by omega)=lead p:=by rw[<-co_lt (show(trim p).length-1<(trim p).length by omega),co_trim];rfl
   rw[ey]at hy by_
   refine zbz (by decide) (by decide) λo h3 hl3 ho=>?_
   refine za97 ho (hy.le hl3) za14 by_ (by omega) (by omega) (NR.num_ne (y:=y) (zit h0)) λz h4 hl4 hz=>?_
   refine zon ((hpl.le hl3).le hl4) hz (za14.div by_ (NR.num_ne (y:=y) (zit h0))) (by omega) (by omega) (by omega) λw h5 hw=>?_
   rw[trim_nf (zabo (zaht (zit h0)) nf_trim)]at hw
   exact hk _ _ (Hp.le_trans hr1.hle (Hp.le_trans hl3 (Hp.le_trans hl4 hw.hle))) hw.pl
def derP(p:List Rat)(n:Nat):List Rat:=(List.range n).map λi=>co p (i+1)*(((i+1:Nat):Int):Rat)
def derL(p:List Rat):List Rat:=derP p (p.length-1)
theorem zab5{i:Nat}:co (derL p) i=der (co p) i:=by
 unfold derL derP der
 rw[zlr]
 split
 . rw[Rat.mul_comm];rfl
 . rw[co_ge (by omega),Rat.mul_zero]
theorem zak6{n:Nat}(hn:n+1<p.length):derP p (n+1)=derP p n++[p[n+1]*(((n+1:Nat):Int):Rat)]:=by
 unfold derP
 rw[List.range_succ,List.map_append]
 simp only[List.map_cons,List.map_nil]
 rw[co_lt hn]
theorem zer(hp:PL h A l p)(hlen:p.length<=100000000)(hA:A<=100000000000)(H:∀y h',OL h h' (A+1) y (trim (derL p))->K y h'):callP (F.zbt l) K h:=by
 refine za3 (λy h'=>OL h h' (A+1) y (trim (derL p))) (λK' hk=>?_) λy h' _ hy=>H y h' hy
 unfold F.zbt
 have hl:=hp.len
 refine zaa (λst h'=>∃D,h.le D/\∃i:Nat,st.2.1=(i:Int)/\i<=p.length/\OD D h' (A+1) st.1 (derP p (i-1))) (λst=>(p.length-st.2.1).toNat)
  ⟨h,Hp.le_refl _,0,rfl,Nat.zero_le _,OD.nil⟩ ?_
 rintro⟨s,_,_⟩ h1 ⟨D,hD,i,hi,hi2,ho⟩
 simp only at hi ho
 subst hi
 refine za5 (λh3=>?_) (λh3=>?_)
 . have hi':i<p.length:=by simp only at h3;omega
   refine za9 (λs' h'=>∃D,h.le D/\OD D h' (A+1) s'.1 (derP p i)) ?_ ?_
   . rintro⟨s',_⟩ h4 ⟨D',hD',ho'⟩
     refine⟨⟨D',hD',i+1,?_,hi',ho'⟩,?_⟩
     . simp only;rw[w64 (by omega)];rfl
     . simp only;rw[w64 (by omega)];omega
   . refine hp.getle i (Hp.le_trans hD ho.dle) rfl hi' λy hy by_=>?_
     refine za5 (λh4=>?_) (λh4=>?_)
     . simp only at h4
       obtain⟨j,rfl⟩:∃j,i=j+1:=⟨i-1,by omega⟩
       refine ho.call (K1:=λz D'=>NR D' z ((((j+1:Nat):Int)):Rat)) (zbz (by simp only;omega) (by simp only;omega) λz D' _ hz=>hz) λz D1 h5 hl1 ho1 hz=>?_
       refine ho1.call (K1:=λz D'=>NR D' z (p[j+1]*((((j+1:Nat):Int)):Rat))) (zlx ((hy.le hD).le hl1) hz by_ (zalk (by omega)) (by omega) (by omega) λz D' _ hz=>hz) λz2 D2 h6 hl2 ho2 hz2=>?_
       refine ho2.app (by unfold derP;simp;omega) hz2 (by_.mul (zalk (by omega))) λw h7 hw=>⟨D2,Hp.le_trans hD (Hp.le_trans hl1 hl2),?_⟩
       rw[zak6 hi']
       exact hw
     . simp only at h4
       have:i=0:=by omega
       subst this
       exact⟨D,hD,ho⟩
 . have hi':i=p.length:=by simp only at h3;omega
   subst hi'
   refine zeg ho.pl (by unfold derP;simp;omega) (by omega) λy h' hy=>hk _ _ (Hp.le_trans hD (Hp.le_trans ho.dle hy.hle)) (hy.base (Hp.le_trans hD ho.dle))
def absQ(x:Rat):Rat:=if x<0 then -x else x
def mxS(m x:Rat):Rat:=if m<absQ x then absQ x else m
def bndQ(p:List Rat):Rat:=if (monQ p).length<2 then (((0:Int):Rat))else ((monQ p).take ((monQ p).length-1)).foldl mxS (((0:Int):Rat))+(((1:Int):Rat))
theorem zalp(hv:BR B v):BR B (absQ v):=by
 unfold absQ;split
 . exact hv.neg
 . exact hv
theorem mx_BR(hu:BR B u)(hv:BR B v):BR B (mxS u v):=by
 unfold mxS;split
 . exact zalp hv
 . exact hu
theorem zxc{f:Rat->Rat->Rat}{q:Rat}{l:List Rat}{i:Nat}(hi:i<l.length):(l.take (i+1)).foldl f q=f ((l.take i).foldl f q) l[i]:=zaiu hi
theorem zagd{v:Rat}:v.num.sign<0↔v<0:=by
 rw[Int.sign_neg_iff];exact zai0
theorem zom(hp:PL h A l p)(hlen:p.length<=100000000)(hA:A<=50000000000)(H:∀z h',h.le h'->NR h' z (bndQ p)->KR z h'):callP (F.zes l) KR h:=by
 refine za3 (λz h'=>NR h' z (bndQ p)) (λK' hk=>?_) λz h' hl hz=>H z h' hl hz
 unfold F.zes
 refine zbr hp hlen (by omega) λr1 h1 hl1 hr1=>?_
 obtain⟨M,hM⟩:∃M,M=monQ p:=⟨_,rfl⟩
 have hb:bndQ p=if M.length<2 then (((0:Int):Rat))else (M.take (M.length-1)).foldl mxS (((0:Int):Rat))+(((1:Int):Rat)):=by rw[hM];rfl
 rw[hb]at hk
 rw[<-hM]at hr1
 have len1:=hr1.len
 have hcap:=hr1.cap
 have lM:M.length<=100000000:=by rw[hM,zbn];exact Nat.le_trans trim_len hlen
 refine za5 (λh2=>?_) (λh2=>?_)
 . refine zbz (by decide) (by decide) λz h3 hl3 hz=>hk _ _ (Hp.le_trans hl1 hl3) ?_
   rw[if_pos (by omega)];exact hz
 . rw[if_neg (by omega)]at hk
   refine zbz (by decide) (by decide) λz h3 hl3 hz=>?_
   have e:i64.wrap ((r1.len:Int)-1)=((M.length-1:Nat):Int):=by rw[len1,w64 (by omega)];omega
   refine zwc 0 (M.length-1) rfl e (Nat.zero_le _) (by omega) ?_
   have hcut:=(hr1.le hl3).cut (n:=M.length-1) (by omega)
   have lc:(r1.cut 0 (M.length-1) 4).len=M.length-1:=rfl
   obtain⟨T,hT⟩:∃T,T=M.take (M.length-1):=⟨_,rfl⟩
   rw[<-hT]at hcut hk
   have lT:T.length=M.length-1:=by rw[hT,List.length_take];omega
   have bT:=hcut.bound
   have b0:BR (A+(1+A)) (((0:Int):Rat)):=zme.mono (by omega)
   have bF:∀i,BR (A+(1+A)) ((T.take i).foldl mxS (((0:Int):Rat))):=λi=>by
    have key:∀(L:List Rat) (m:Rat),BR (A+(1+A)) m->(∀v∈L,BR (A+(1+A)) v)->BR (A+(1+A)) (L.foldl mxS m):=by
     intro L
     induction L with
     | nil=>intro m hm _;exact hm
     | cons a L ih=>intro m hm hL;exact ih _ (mx_BR hm (hL a (by simp))) λv hv=>hL v (by simp[hv])
    exact key _ _ b0 λv hv=>bT v (List.mem_of_mem_take hv)
   refine zaa (λst h'=>h3.le h'/\∃i:Nat,st.2.1=(i:Int)/\i<=T.length/\NR h' (q4 st.1) ((T.take i).foldl mxS (((0:Int):Rat)))) (λst=>(T.length-st.2.1).toNat)
    ⟨Hp.le_refl _,0,rfl,Nat.zero_le _,hz⟩ ?_
   rintro⟨s,_,_⟩ h4 ⟨hl4,i,hi,hi2,hs⟩
   simp only at hi hs
   subst hi
   refine za5 (λh5=>?_) (λh5=>?_)
   . have hi':i<T.length:=by simp only[lc]at h5;omega
     refine za9 (λs' h'=>h4.le h'/\NR h' (q4 s'.1) ((T.take (i+1)).foldl mxS (((0:Int):Rat)))) ?_ ?_
     . rintro⟨s',_⟩ h6 ⟨hl6,hs'⟩
       refine⟨⟨Hp.le_trans hl4 hl6,i+1,?_,hi',hs'⟩,?_⟩
       . simp only;rw[w64 (by omega)];rfl
       . simp only;rw[w64 (by omega)];omega
     . refine(hcut.le hl4).get i rfl hi' λy hy by_=>?_
       refine za9 (λs' h'=>h4.le h'/\NR h' (q4 s'.1) (absQ T[i])) ?_ ?_
       . rintro⟨⟨s1,s2,s3,s4,_⟩,_⟩ h6 ⟨hl6,hs'⟩
         refine zw7 hs' (hs.le hl6) (zalp by_) (bF i) (by omega) (by omega) λh7 hl7=>?_
         refine za5 (λh8=>⟨Hp.le_trans hl6 hl7,?_⟩) (λh8=>⟨Hp.le_trans hl6 hl7,?_⟩)
         . rw[zxc hi',mxS,if_pos (zaj8.1 h8)];exact hs'.le hl7
         . rw[zxc hi',mxS,if_neg (λhh=>h8 (zaj8.2 hh))];exact(hs.le hl6).le hl7
       . refine zjz hy by_ (by omega) ?_
         refine za5 (λh6=>?_) (λh6=>⟨Hp.le_refl _,?_⟩)
         . refine zly hy by_ (by omega) λw h7 hl7 hw=>⟨hl7,?_⟩
           have:absQ T[i]=- T[i]:=by unfold absQ;rw[if_pos (zagd.1 h6)]
           rw[this];exact hw
         . have:absQ T[i]=T[i]:=by unfold absQ;rw[if_neg (λhh=>h6 (zagd.2 hh))]
           rw[this];exact hy
   . have hi':i=T.length:=by simp only[lc]at h5;omega
     subst hi'
     rw[List.take_length]at hs
     have bL:=bF T.length
     rw[List.take_length]at bL
     refine zbz (by decide) (by decide) λo h6 hl6 ho=>?_
     refine zpg (hs.le hl6) ho bL za14 (by omega) (by omega) λw h7 hl7 hw=>hk _ _ (Hp.le_trans hl1 (Hp.le_trans hl3 (Hp.le_trans hl4 (Hp.le_trans hl6 hl7)))) hw
end
end Den
end

section
namespace Den
open Go Iv Pq
section
variable {h : Hp} {A B : Nat} {l m : Sl} {p q : List Rat} {K : Sl → Hp → Prop} {Kb : Bool → Hp → Prop} {x : TRat}
def slc(s:Sl):Value:=.slice s.a s.len s.cap
end
end Den
end

section
namespace Den
open Go Iv Go.Proofs
open Go.ChangeShapes Go.WideShapes Go.ChangeAt Go.RowKit
section
variable {H : Type} {enc : TypeId × Value → H} {w : World} {s : Sl}
theorem by_R:Tryz.prog.bytesOf 39=64:=by kernel_rfl
end
end Den
end

section
namespace Den
open Go Iv Pq
def nc(x:TInt):List Value:=[.bool x.neg,.slice x.mag.a x.mag.len x.mag.cap]
section
variable {D h h' : Hp} {A B : Nat} {l m : Sl} {us vs : List Int} {K : Sl → Hp → Prop}
end
abbrev t2(s:Bool×Sl×Unit):TInt:=⟨s.1,s.2.1⟩
end Den
end

section
namespace Den
open Go Iv Pq
theorem zafh{p:List Rat}(h:trim p≠[]):∃hn:(monQ p).length-1<(monQ p).length,(monQ p)[(monQ p).length-1]=1:=by
 have hpos:0<(trim p).length:=List.length_pos_iff.2 h
 have hl:=zbn (p:=p)
 refine⟨by omega,?_⟩
 rw[<-co_lt (show(monQ p).length-1<(monQ p).length by omega),za07,hl]
 show(((1:Int):Rat))/lead p*lead p=1
 rw[Rat.div_mul_cancel (zit h)];rfl
section
variable {h : Hp} {A : Nat} {l : Sl} {p : List Rat} {K : Sl → Hp → Prop}
end
end Den
end

section
namespace Den
open Go Iv Pq
section
variable {h h0 : Hp} {A B : Nat} {l m : Sl} {p : List Rat} {K : Sl → Hp → Prop} {Kb : Bool → Hp → Prop} {us vs : List Int}
end
end Den
end

section
namespace Den
open Go Iv Pq
section
variable {h h0 : Hp} {A B C : Nat} {l m : Sl} {p q : List Rat} {K : Sl → Hp → Prop} {Kb : Bool → Hp → Prop} {f g : Nat → Rat}
theorem PL.re(hp:PL h B l p)(hb:∀v∈p,BR C v):PL h C l p:=by
 obtain⟨xs,h1,h2,h3⟩:=hp
 exact⟨xs,h1,⟨h2.1,λk g1 g2=>⟨(h2.2 k g1 g2).1,hb _ (List.getElem_mem g2)⟩⟩,h3⟩
def gB(A B:Nat):Nat->Nat
 | 0=>A
 | k+1=>2*gB A B k+2*B+1
theorem zajb{A B k:Nat}:gB A B (k+1)=2*gB A B k+2*B+1:=rfl
theorem zaja{A B:Nat}:∀{k j:Nat},k<=j->gB A B k<=gB A B j
 | k,0,h=>by
                 have:k=0:=by omega
                 subst this;exact Nat.le_refl _
 | k,j+1,h=>by
   by_cases hk:k=j+1
   . subst hk;exact Nat.le_refl _
   . have:=zaja (A:=A) (B:=B) (k:=k) (j:=j) (by omega)
     rw[zajb];omega
theorem zag2{b:Nat->Rat}{d N:Nat}(hf:∀j,BR A (f j))(hb:∀j,BR B (b j))(h0:b d≠0):∀{k j:Nat},BR (gB A B k) (restK b d N f k j)
 | 0,j=>hf j
 | k+1,j=>by
   have ih:=λj=>zag2 (N:=N) hf hb h0 (k:=k) (j:=j)
   show BR (gB A B (k+1)) (stepF b d (N-1-k) (restK b d N f k) j)
   rw[zajb]
   unfold stepF
   split
   . have h1:=((ih (N-1-k+d)).div (hb d) (NR.num_ne (y:=zT) h0)).mul (hb (j-(N-1-k)))
     exact((ih j).sub h1).mono (by omega)
   . exact(ih j).mono (by omega)
theorem part_BR'{N:Nat}(hf:∀i,BR A (f i))(hg:∀i,BR B (g i))(hN:∀i,N<=i->f i=0)(m n:Nat):BR (N*(A+B+1)+1) (Pq.part f g m n):=by
 have key:∀m,BR ((min m N)*(A+B+1)+1) (Pq.part f g m n):=by
  intro m
  induction m with
  | zero=>exact zme.mono (by omega)
  | succ m ih=>
    rw[za93]
    have e:min m N<=min (m+1) N:=by omega
    have e2:=Nat.mul_le_mul_right (A+B+1) e
    by_cases h1:m<N
    . split
      . have h3:=ih.add ((hf m).mul (hg (n-m)))
        have e:min (m+1) N=min m N+1:=by omega
        rw[e,Nat.add_mul]
        exact h3.mono (by omega)
      . rw[Rat.add_zero];exact ih.mono (by omega)
    . rw[hN m (by omega),Rat.zero_mul,ite_self,Rat.add_zero]
      exact ih.mono (by omega)
 refine(key m).mono ?_
 have:=Nat.mul_le_mul_right (A+B+1) (show min m N<=N by omega)
 omega
theorem zak0{n:Nat}:conv f g n=Pq.part f g (n+1) n:=by
 unfold conv Pq.part
 exact sm_congr λi hi=>(if_pos (by omega)).symm
theorem zag3(hp:PL h A l p)(hq:PL h B m q)(hlen:p.length<=1000)(hlen2:q.length<=1000)(hA:1<=A/\A<=100000000000)(hB:1<=B/\B<=100000000000)(hC:∀k n,k<=q.length->BR C (Pq.part (co q) (co p) k n))(hC2:1<=C/\C<=400000000000)
 (H:∀y h',h.le h'->PL h' C y (trim (mulL p q))->K y h'):callP (F.zm2 l m) K h:=
 zaic hp hq hlen hlen2 hA hB hC hC2 λy h' hl hy=>H y h' hl (by
  split at hy
  . rename_i hq0
    have e:trim (mulL p q)=[]:=nf_eq_nil nf_trim λi=>by
     rw[co_trim,co_mulL,conv_comm,hq0];exact conv_nil
    rw[e];exact hy
  . exact hy)
theorem zw2{q' r' qs rs:List Rat}(hq0:trim q≠[])(hc:∀j,conv (co qs) (co q) j+co rs j=co p j)(hz:∀j,(trim q).length-1<=j->co rs j=0)(hlen:qs.length<=1001)(hlen2:q'.length<=1001)
 (hk:trim (addL (mulL q' q) r')=trim p) (hr:r'.length<=(trim q).length-1):trim qs=trim q'/\trim rs=trim r':=by
 have hb:co q ((trim q).length-1)≠0:=zit hq0
 have hpos:0<(trim q).length:=List.length_pos_iff.2 hq0
 have:=div_unique (q:=co qs) (q':=co q') (b:=co q) (r:=co rs) (r':=co r') (d:=(trim q).length-1) (n:=1001) hb (λi hi=>by rw[<-co_trim,co_ge (by omega)]) (λi hi=>co_ge (by omega)) (λi hi=>co_ge (by omega)) hz (λi hi=>co_ge (by omega)) λi=>by
  rw[hc]
  have e:co (trim (addL (mulL q' q) r')) i=co (trim p) i:=by rw[hk]
  rw[co_trim,co_trim,co_addL,co_mulL]at e
  exact e.symm
 exact⟨zar this.1,zar this.2⟩
end
end Den
end

section
namespace Den
open Go Iv Pq
section
variable {h h0 : Hp} {A B C : Nat} {l m : Sl} {p q : List Rat} {K : Sl → Hp → Prop} {Kb : Bool → Hp → Prop} {us : List Int}
theorem br1{p:List Rat}(h:(p.all λv=>decide (v.num.natAbs<4294967296/\v.den<4294967296))=true):∀v∈p,BR 1 v:=λv hv=>by
 have:=of_decide_eq_true (List.all_eq_true.1 h v hv)
 refine⟨?_,?_⟩
 . unfold Lt;rw[Nat.pow_one,W_eq];exact this.1
 . unfold Lt;rw[Nat.pow_one,W_eq,Int.natAbs_natCast];exact this.2
theorem PL.re1(hp:PL h B l p)(hq:p=q)(hb:(q.all λv=>decide (v.num.natAbs<4294967296/\v.den<4294967296))=true):PL h 1 l q:=by
 subst hq;exact hp.re (br1 hb)
def icel(n:Int):Value:=.int .i64 n
theorem zac0{k j N:Nat}(hp:PL h 1 l p)(hq:PL h 1 m q)(hq0:trim q≠[])(hk:k<=8):BR 2000 (restK (co q) ((trim q).length-1) N (co p) k j):=
 (zag2 (λj=>BR.co hp.bound (by decide) j) (λj=>BR.co hq.bound (by decide) j) (zit hq0)).mono (Nat.le_trans (zaja hk) (by decide))
theorem zs9{KK:Sl×Sl->Hp->Prop}(q' r':List Rat)(hp:PL h 1 l p)(hq:PL h 1 m q)(hlen:p.length<=7)(hlen2:q.length<=7)(hq0:trim q≠[])(hk:trim (addL (mulL q' q) r')=trim p)(hr:r'.length<=(trim q).length-1)(hql:q'.length<=7)
 (hb:((trim q').all λv=>decide (v.num.natAbs<4294967296/\v.den<4294967296))=true) (hb2:((trim r').all λv=>decide (v.num.natAbs<4294967296/\v.den<4294967296))=true)
 (H:∀y z h',h.le h'->PL h' 1 y (trim q')->PL h' 1 z (trim r')->KK (y,z) h'):callP (F.zb6 l m) KK h:=by
 have tp:=trim_len (p:=p)
 refine zabq hp hq (by omega) (by omega) (by decide) hq0 (C:=2000) (λk j hk=>zac0 hp hq hq0 (by omega)) (by decide) λy z h' qs rs hl hy hz lq lr hc hz2=>?_
 obtain⟨e1,e2⟩:=zw2 hq0 hc hz2 lq (by omega) hk hr
 exact H y z h' hl (hy.re1 e1 hb) (hz.re1 e2 hb2)
end
end Den
end

section
namespace Den
open Go Iv Pq
section
variable {h : Hp} {Kb : Bool → Hp → Prop}
theorem zaka{l m:Sl}{p q:List Rat}(hp:PL h 1 l p)(hq:PL h 1 m q)(he:p=q)(hlen:p.length<=100)(H:∀h',h.le h'->Kb true h'):callP (F.zi3 l m) Kb h:=by
 subst he
 exact zac1 hp hq (by omega) (by omega) (by decide) (by decide) λh' hl=>by
  rw[decide_eq_true (p:=p.length=p.length/\trim p=trim p) ⟨rfl,rfl⟩];exact H h' hl
end
end Den
end

section
namespace Den
open Go Iv Pq
def chS(st:Nat×Int)(v:Rat):Nat×Int:=if v.num.sign=0 then st else if st.2=- v.num.sign then (st.1+1,v.num.sign)else (st.1,v.num.sign)
def chF(ps:List (List Rat))(c:Rat):Nat×Int:=ps.foldl (λst p=>chS st (ev p c)) (0,0)
def chN(ps:List (List Rat))(c:Rat):Nat:=(chF ps c).1
theorem zaf0{ps:List (List Rat)}{p:List Rat}{c:Rat}:chF (ps++[p]) c=chS (chF ps c) (ev p c):=by unfold chF;rw[List.foldl_append];rfl
theorem zlq{ps:List (List Rat)}{c:Rat}:(chF ps c).1<=ps.length/\-1<=(chF ps c).2/\(chF ps c).2<=1:=by
 have key:∀(qs:List (List Rat)) (st:Nat×Int),(-1<=st.2/\st.2<=1)->(qs.foldl (λst p=>chS st (ev p c)) st).1<=st.1+qs.length/\-1<=(qs.foldl (λst p=>chS st (ev p c)) st).2/\(qs.foldl (λst p=>chS st (ev p c)) st).2<=1:=by
  intro qs
  induction qs with
  | nil=>intro st h;exact⟨Nat.le_refl _,h⟩
  | cons q qs ih=>
    intro st h
    have hs:-1<=(ev q c).num.sign/\(ev q c).num.sign<=1:=by
     rcases Int.lt_trichotomy (ev q c).num 0 with h1 | h1 | h1
     . rw[Int.sign_eq_neg_one_of_neg h1];omega
     . rw[h1];decide
     . rw[Int.sign_eq_one_of_pos h1];omega
    have h2:(chS st (ev q c)).1<=st.1+1/\-1<=(chS st (ev q c)).2/\(chS st (ev q c)).2<=1:=by
     unfold chS
     split
     . omega
     . split<;>(simp only;omega)
    have h3:=ih (chS st (ev q c)) h2.2
    simp only[List.foldl_cons,List.length_cons]
    omega
 have:=key ps (0,0) (by decide)
 unfold chF
 omega
def QQL(h:Hp)(B:Nat)(l:Sl)(ps:List (List Rat)):Prop:=∃ss:List Sl,Rd h 1 l (ss.map slc)/\ss.length=ps.length/\∀k (h1:k<ss.length) (h2:k<ps.length),PL h B ss[k] ps[k]
theorem QQL.le{h h':Hp}{B:Nat}{l:Sl}{ps:List (List Rat)}(hq:QQL h B l ps)(hl:h.le h'):QQL h' B l ps:=by
 obtain⟨ss,h1,h2,h3⟩:=hq
 exact⟨ss,h1.le hl,h2,λk g1 g2=>(h3 k g1 g2).le hl⟩
theorem QQL.len{h:Hp}{B:Nat}{l:Sl}{ps:List (List Rat)}(hq:QQL h B l ps):l.len=ps.length:=by
 obtain⟨ss,h1,h2,h3⟩:=hq
 have:=h1.1
 simp at this;omega
section
variable {h : Hp} {A B C : Nat} {l m : Sl} {p q : List Rat} {ps : List (List Rat)} {K : Sl → Hp → Prop} {Ki : Int → Hp → Prop} {Kb : Bool → Hp → Prop} {c : Rat} {x : TRat}
theorem QQL.get{i:Int}{K:Sl->Prop}(k:Nat)(hq:QQL h B l ps)(hi:i=k)(hk:k<ps.length)(H:∀s,PL h B s ps[k]->K s):idxP l i 1 λa=>ldL .sl a (λx=>K x) h:=by
 obtain⟨ss,h1,h2,h3⟩:=hq
 have hk':k<ss.length:=by omega
 refine zabx k h1 hi (v:=slc ss[k]) (by rw[List.getElem?_map,List.getElem?_eq_getElem hk'];rfl) λa hc=>⟨ss[k],hc,H _ (h3 k hk' hk)⟩
theorem zabw{v:Rat}:-1<=v.num.sign/\v.num.sign<=1:=by
 rcases Int.lt_trichotomy v.num 0 with h1 | h1 | h1
 . rw[Int.sign_eq_neg_one_of_neg h1];omega
 . rw[h1];decide
 . rw[Int.sign_eq_one_of_pos h1];omega
theorem ze7(hq:QQL h B l ps)(hx:NR h x c)(bc:BR A c)(hlen:ps.length<=1000)(hB:B<=100000000000)(hA:A<=100000000000)(hpl:∀p∈ps,p.length<=1000)(hC:∀p∈ps,∀i,BR C (ev (p.drop i) c))(hC2:C<=200000000000)(H:∀h',h.le h'->Ki (chN ps c:Int) h'):callP (F.zbk l x) Ki h:=by
 refine za3 (λv h'=>v=(chN ps c:Int)) (λK' hk=>?_) λv h' hl hv=>by subst hv;exact H h' hl
 unfold F.zbk
 have hl:=hq.len
 refine zaa (λst h'=>h.le h'/\∃i:Nat,st.2.2.1=(i:Int)/\i<=ps.length/\st.1=((chF (ps.take i) c).1:Int)/\st.2.1=(chF (ps.take i) c).2) (λst=>(ps.length-st.2.2.1).toNat)
  ⟨Hp.le_refl _,0,rfl,Nat.zero_le _,rfl,rfl⟩ ?_
 rintro⟨n,t,_,_⟩ h1 ⟨hl1,i,hi,hi2,hn,ht⟩
 simp only at hi hn ht
 subst hi hn ht
 refine za5 (λh2=>?_) (λh2=>?_)
 . simp only at h2
   have hi':i<ps.length:=by omega
   have hb:=zlq (ps:=ps.take i) (c:=c)
   have hlt:(ps.take i).length=i:=by rw[List.length_take];omega
   refine za9 (λs h'=>h1.le h'/\s.1=((chF (ps.take (i+1)) c).1:Int)/\s.2.1=(chF (ps.take (i+1)) c).2) ?_ ?_
   . rintro⟨s1,s2,_⟩ h3 ⟨hl3,e1,e2⟩
     refine⟨⟨Hp.le_trans hl1 hl3,i+1,?_,hi',e1,e2⟩,?_⟩
     . simp only;rw[w64 (by omega)];rfl
     . simp only;rw[w64 (by omega)];omega
   . refine(hq.le hl1).get i rfl hi' λs hs=>?_
     have hm:=List.getElem_mem hi'
     refine zai3 hs (hx.le hl1) bc (by have:=hpl _ hm;omega) hB hA (hC _ hm) hC2 λz h3 hl3 hz=>?_
     have bz:BR C (ev ps[i] c):=by have:=hC _ hm 0;rwa [List.drop_zero]at this
     refine zjz hz bz (by omega) ?_
     have hsr:=zabw (v:=ev ps[i] c)
     have en:i64.wrap (0-(ev ps[i] c).num.sign)=- (ev ps[i] c).num.sign:=by rw[w64 (by omega)];omega
     have estep:chF (ps.take (i+1)) c=chS (chF (ps.take i) c) (ev ps[i] c):=by rw[List.take_succ_eq_append_getElem hi',zaf0]
     rw[estep,en]
     refine zbl (λh4=>⟨hl3,?_,?_⟩) (λh4=>zbl (λh5=>⟨hl3,?_,?_⟩) (λh5=>⟨hl3,?_,?_⟩))
     . unfold chS;rw[if_pos h4]
     . unfold chS;rw[if_pos h4]
     . unfold chS;rw[if_neg h4,if_pos h5];simp only;rw[w64 (by omega)];rfl
     . unfold chS;rw[if_neg h4,if_pos h5]
     . unfold chS;rw[if_neg h4,if_neg h5]
     . unfold chS;rw[if_neg h4,if_neg h5]
 . simp only at h2
   have hi':i=ps.length:=by omega
   subst hi'
   refine hk _ _ hl1 ?_
   rw[List.take_length];rfl
theorem zh4{cells:List Value}{n:Nat}(zs:List Int)(ps:List Rat)(hc:cells=zs.map icel)(hn:zs.length=n)(hz:(zs.all λz=>decide (z.natAbs<4294967296))=true)(hps:zs.map (λz=>((z:Int):Rat))=ps)(hlen:n<=1000)(H:∀y h',h.le h'->PL h' 1 y ps->K y h') :
 newP cells (λa h1=>callP (F.zd6 ⟨some a,n,n⟩) K h1) h:=by
 subst hc hps
 refine zeq (n:=n) (size:=1) (by simp[hn]) λb h1 hb ho=>?_
 refine za3 (λy h'=>PL h' 1 y (zs.map λz=>((z:Int):Rat))) (λK' hk=>?_) λy h' hl hy=>H y h' (Hp.le_trans ho.1 hl) hy
 unfold F.zd6
 have hr:=ho.rd
 refine zaa (λst h'=>∃D,h1.le D/\∃i:Nat,st.2.1=(i:Int)/\i<=zs.length/\OD D h' 1 st.1 ((zs.take i).map λz=>((z:Int):Rat))) (λst=>(zs.length-st.2.1).toNat)
  ⟨h1,Hp.le_refl _,0,rfl,Nat.zero_le _,OD.nil⟩ ?_
 rintro⟨s,_,_⟩ h2 ⟨D,hD,i,hi,hi2,ho2⟩
 simp only at hi ho2
 subst hi
 refine za5 (λh3=>?_) (λh3=>?_)
 . simp only at h3
   have hi':i<zs.length:=by omega
   refine zabx i (hr.le (Hp.le_trans hD ho2.dle)) rfl (v:=icel zs[i]) (by rw[List.getElem?_map,List.getElem?_eq_getElem hi'];rfl) λa hc=>⟨zs[i],hc,?_⟩
   have hbz:=of_decide_eq_true (List.all_eq_true.1 hz _ (List.getElem_mem hi'))
   have bq:BR 1 (((zs[i]:Int):Rat)):=by
    refine⟨?_,?_⟩
    . unfold Lt
      show(zs[i]).natAbs<W ^ 1
      rw[Nat.pow_one,W_eq];exact hbz
    . unfold Lt
      show((1:Nat):Int).natAbs<W ^ 1
      decide
   refine ho2.call (K1:=λz D'=>NR D' z (((zs[i]:Int):Rat))) (zcj (by omega) (by omega) λz D' _ hz=>hz) λz D1 h5 hl1 ho1 hz1=>?_
   refine ho1.app (by simp;omega) hz1 bq λw h7 hw=>⟨⟨D1,Hp.le_trans hD hl1,i+1,?_,hi',?_⟩,?_⟩
   . simp only;rw[w64 (by omega)];rfl
   . rw[List.take_succ_eq_append_getElem hi',List.map_append];exact hw
   . simp only;rw[w64 (by omega)];omega
 . simp only at h3
   have hi':i=zs.length:=by omega
   subst hi'
   rw[List.take_length]at ho2
   exact hk _ _ (Hp.le_trans hD ho2.dle) ho2.pl
theorem zaik{qs:List (List Rat)}(hp:QQL h 1 l ps)(hq:QQL h 1 m qs)(he:ps=qs)(hlen:ps.length<=1000)(hpl:∀p∈ps,p.length<=100)(H:∀h',h.le h'->Kb true h'):callP (F.zmx l m) Kb h:=by
 subst he
 refine za3 (λb h'=>b=true) (λK' hk=>?_) λb h' hl hb=>by subst hb;exact H h' hl
 unfold F.zmx
 have hl:=hp.len
 have hl2:=hq.len
 refine zoj (λh1=>absurd (by rw[hl,hl2]) h1) (λ_=>?_)
 refine zaa (λst h'=>h.le h'/\∃i:Nat,st.1=(i:Int)/\i<=ps.length) (λst=>(ps.length-st.1).toNat) ⟨Hp.le_refl _,0,rfl,Nat.zero_le _⟩ ?_
 rintro⟨_,_⟩ h2 ⟨hl2',i,hi,hi2⟩
 simp only at hi
 subst hi
 refine za5 (λh3=>?_) (λh3=>hk _ _ hl2' rfl)
 simp only at h3
 have hi':i<ps.length:=by omega
 refine(hp.le hl2').get i rfl hi' λs hs=>(hq.le hl2').get i rfl hi' λt ht=>?_
 refine zaka hs ht rfl (hpl _ (List.getElem_mem hi')) λh4 hl4=>zab rfl ⟨⟨Hp.le_trans hl2' hl4,i+1,?_,hi'⟩,?_⟩
 . simp only;rw[w64 (by omega)];rfl
 . simp only;rw[w64 (by omega)];omega
end
end Den
end

section
namespace Den
open Go Iv Pq
def b1(p:List Rat):Bool:=p.all λv=>decide (v.num.natAbs<4294967296/\v.den<4294967296)
def sqfOk(P M D E q1 r1 c1 q2 Q W:List Rat):Bool:=
 decide (monQ P=M)&&decide (trim (derL M)=D)&&decide (monQ D=E)&&decide (trim (addL (mulL q1 E) r1)=trim M)&&decide (monQ (trim r1)=c1)&&decide (trim (mulL q2 c1)=trim E)&&decide (trim (mulL Q c1)=trim M)&&decide (monQ (trim Q)=W)
  && decide (P.length<=7)&&decide (M.length<=7)&&decide (D.length<=7)&&decide (E.length<=7)&&decide (c1.length<=7)&&decide (q1.length<=7)&&decide (q2.length<=7)&&decide (Q.length<=7)&&decide (r1.length<=(trim E).length-1)&&decide (r1.length<=7)
  && decide (trim E≠[])&&decide (trim c1≠[])&&decide (0<M.length)&&decide (E.length<=M.length)&&decide (c1.length<E.length)&&decide (0<c1.length)
  && b1 M&&b1 D&&b1 E&&b1 c1&&b1 W&&b1 (trim q1)&&b1 (trim r1)&&b1 (trim q2)&&b1 (trim Q)
section
variable {h : Hp} {A B C : Nat} {l m : Sl} {p q : List Rat} {ps : List (List Rat)} {K : Sl → Hp → Prop} {Ki : Int → Hp → Prop} {Kb : Bool → Hp → Prop} {c : Rat} {x : TRat}
theorem tlenz{p:List Rat}{i:Nat}(hp:p.length<=i):(trim p).length<=i:=Nat.le_trans trim_len hp
theorem za25{p:List Rat}:trim (addL p [])=trim p:=zar λi=>by rw[co_addL,co_nil,Rat.add_zero]
theorem zaot{P M D E q1 r1 c1 q2 Q W:List Rat}(hok:sqfOk P M D E q1 r1 c1 q2 Q W=true)(hp:PL h 1 l P)(H:∀y h',h.le h'->PL h' 1 y W->K y h'):callP (F.zb8 l) K h:=by
 unfold sqfOk at hok
 simp only[Bool.and_eq_true,decide_eq_true_eq]at hok
 obtain⟨⟨⟨⟨⟨⟨⟨⟨⟨⟨⟨⟨⟨⟨⟨⟨⟨⟨⟨⟨⟨⟨⟨⟨⟨⟨⟨⟨⟨⟨⟨⟨e1,e2⟩,e3⟩,e4⟩,e5⟩,e6⟩,e7⟩,e8⟩,f1⟩,f2⟩,f3⟩,f4⟩,f5⟩,f6⟩,f7⟩,f8⟩,f9⟩,f10⟩,g1⟩,g2⟩,g3⟩,g4⟩,g5⟩,g6⟩,k1⟩,k2⟩,k3⟩,k4⟩,k5⟩,k6⟩,k7⟩,k8⟩,k9⟩:=hok
 refine za3 (λy h'=>PL h' 1 y W) (λK' hk=>?_) λy h' hl hy=>H y h' hl hy
 unfold F.zb8
 refine zbr hp (by omega) (by decide) λs1 h1 hl1 hr1=>?_
 have hr1:=hr1.re1 e1 k1
 refine zbl (λh2=>absurd h2 (by rw[hr1.len];omega)) (λh2=>?_)
 refine zer hr1 (by omega) (by decide) λs2 h3 hr2=>?_
 have hl3:=hr2.hle
 have hr2:=hr2.pl.re1 e2 k2
 have hgcd:∀{K3:Sl->Hp->Prop},(∀y h',h3.le h'->PL h' 1 y c1->K3 y h')->callP (F.zdi s1 s2) K3 h3:=by
  intro K3 H3
  refine za3 (λy h'=>PL h' 1 y c1) (λK4 hk4=>?_) λy h' hl hy=>H3 y h' hl hy
  unfold F.zdi
  refine zbr (hr1.le hl3) (by omega) (by decide) λa h4 hl4 ha=>?_
  have ha:PL h4 (1+(1+1)) a (monQ M):=ha
  have eM:monQ M=M:=by
   have hl:=zg9 (p:=P)
   rw[e1]at hl
   have hM0:M≠[]:=List.length_pos_iff.1 g3
   have hP0:trim P≠[]:=λhh=>by
    have:=zbn (p:=P)
    rw[e1,hh]at this
    exact hM0 (List.eq_nil_of_length_eq_zero this)
   have hlead:lead M=1:=by
    unfold lead
    rw[trim_nf hl]
    obtain⟨hn,e⟩:=zafh hP0
    simp only[e1]at hn e
    rw[co_lt hn,e]
   unfold monQ
   rw[trim_nf hl,hlead]
   have:(λx:Rat=>(((1:Int):Rat))/1*x)=id:=by
    funext x
    have:(((1:Int):Rat))/1=1:=by decide +kernel
    rw[this];exact Rat.one_mul x
   rw[this,List.map_id]
  have ha:=ha.re1 eM k1
  refine zbr (hr2.le hl4) (by omega) (by decide) λb h5 hl5 hb=>?_
  have hb:=hb.re1 e3 k3
  refine zaa (λst h'=>h3.le h'/\∃x y,PL h' 1 st.1 x/\PL h' 1 st.2.1 y/\((x=M/\y=E)\/(x=E/\y=c1)\/(x=c1/\y=[]))) (λst=>st.2.1.len)
   ⟨Hp.le_trans hl4 hl5,_,_,ha.le hl5,hb,.inl ⟨rfl,rfl⟩⟩ ?_
  rintro⟨s,t,_⟩ h6 ⟨hl6,x,y,hx,hy,hxy⟩
  simp only at hx hy
  have ly:=hy.len
  refine za5 (λh7=>?_) (λh7=>?_)
  . rcases hxy with ⟨rfl,rfl⟩ | ⟨rfl,rfl⟩ | ⟨rfl,rfl⟩
    . refine zs9 q1 r1 hx hy f2 f4 g1 e4 f9 f6 k6 k7 λu v h8 hl8 hu hv=>?_
      refine zbr hv (tlenz (by omega)) (by decide) λw h9 hl9 hw=>?_
      have hw:=hw.re1 e5 k4
      exact⟨⟨Hp.le_trans hl6 (Hp.le_trans hl8 hl9),_,_,(hy.le hl8).le hl9,hw,.inr (.inl ⟨rfl,rfl⟩)⟩,by rw[hw.len,ly];exact g5⟩
    . refine zs9 q2 [] hx hy f4 f5 g2 (by rw[za25];exact e6) (Nat.zero_le _) f7 k8 (by decide) λu v h8 hl8 hu hv=>?_
      refine zbr hv (by decide) (by decide) λw h9 hl9 hw=>?_
      have hw:=hw.re1 (q:=[]) (by decide +kernel) (by decide)
      exact⟨⟨Hp.le_trans hl6 (Hp.le_trans hl8 hl9),_,_,(hy.le hl8).le hl9,hw,.inr (.inr ⟨rfl,rfl⟩)⟩,by rw[hw.len,ly];exact g6⟩
    . rw[ly]at h7;exact absurd h7 (by decide)
  . rcases hxy with ⟨rfl,rfl⟩ | ⟨rfl,rfl⟩ | ⟨rfl,rfl⟩
    . exact absurd (by rw[ly];omega) h7
    . exact absurd (by rw[ly];omega) h7
    . exact hk4 _ _ hl6 hx
 refine hgcd λs3 h4 hl4 hr3=>?_
 refine zs9 Q [] ((hr1.le hl3).le hl4) hr3 f2 f5 g2 (by rw[za25];exact e7) (Nat.zero_le _) f8 k9 (by decide) λu v h5 hl5 hu hv=>?_
 refine zbr hu (tlenz (by omega)) (by decide) λw h6 hl6 hw=>?_
 exact hk _ _ (Hp.le_trans hl1 (Hp.le_trans hl3 (Hp.le_trans hl4 (Hp.le_trans hl5 hl6)))) (hw.re1 e8 k5)
def chainOk(P W E q1 r1 c q2:List Rat):Bool:=
 decide (2<=(trim P).length)&&decide (trim (derL W)=E)&&decide (trim (addL (mulL q1 E) r1)=trim W)&&decide (trim ((trim r1).map ((((-1:Int):Rat))*·))=c)&&decide (trim (mulL q2 c)=trim E)
  && decide (P.length<=7)&&decide (W.length<=7)&&decide (E.length<=7)&&decide (c.length<=7)&&decide (q1.length<=7)&&decide (q2.length<=7)&&decide (r1.length<=(trim E).length-1)&&decide (r1.length<=7)&&decide (trim E≠[])&&decide (trim c≠[])&&decide (trim r1≠[])&&decide (c.length<E.length)
  && b1 E&&b1 c&&b1 (trim q1)&&b1 (trim r1)&&b1 (trim q2)
theorem za8p{P M D E0 q10 r10 c10 q20 Q W E q1 r1 c q2:List Rat}(hok:sqfOk P M D E0 q10 r10 c10 q20 Q W=true)(hok2:chainOk P W E q1 r1 c q2=true)(hp:PL h 1 l P)(H:∀y h',h.le h'->QQL h' 1 y [W,E,c]->K y h'):callP (F.zdm l) K h:=by
 unfold chainOk at hok2
 simp only[Bool.and_eq_true,decide_eq_true_eq]at hok2
 obtain⟨⟨⟨⟨⟨⟨⟨⟨⟨⟨⟨⟨⟨⟨⟨⟨⟨⟨⟨⟨⟨e1,e2⟩,e3⟩,e4⟩,e5⟩,f1⟩,f2⟩,f3⟩,f4⟩,f5⟩,f6⟩,f7⟩,f8⟩,g1⟩,g2⟩,g3⟩,g4⟩,k1⟩,k2⟩,k3⟩,k4⟩,k5⟩:=hok2
 refine za3 (λy h'=>QQL h' 1 y [W,E,c]) (λK' hk=>?_) λy h' hl hy=>H y h' hl hy
 unfold F.zdm
 refine zmn hp (by omega) (by decide) λh1 hl1=>?_
 refine zab (decide_eq_false (by omega)) ?_
 refine zaot hok (hp.le hl1) λr2 h2 hl2 hr2=>?_
 refine zer hr2 (by omega) (by decide) λr3 h3 hr3=>?_
 have hl3:=hr3.hle
 have hr3:=hr3.pl.re1 e2 k1
 have hr2:=hr2.le hl3
 refine zeq (n:=2) (size:=1) rfl λb4 h4 hb4 ho=>?_
 refine zaa (λst h'=>∃Dh,h3.le Dh/\((∃ss:List Sl,ss=[r2,r3]/\st.1=r2/\st.2.1=r3/\Own Dh h' 1 st.2.2.1 (ss.map slc))\/(∃r11,PL Dh 1 r11 c/\st.1=r3/\st.2.1=r11/\Own Dh h' 1 st.2.2.1 ([r2,r3,r11].map slc)))) (λst=>st.2.1.len)
  ⟨h3,Hp.le_refl _,.inl ⟨_,rfl,rfl,rfl,ho⟩⟩ ?_
 rintro⟨s,t,w,_⟩ h5 ⟨Dh,hD,hcase⟩
 rcases hcase with ⟨ss,rfl,es,et,ho5⟩ | ⟨r11,hr11,es,et,ho5⟩
 . simp only at es et ho5
   subst es et
   refine ho5.call (K1:=λr D'=>r.2.2=0/\PL D' 1 r.2.1 (trim r1)) (zqp (hr2.le hD) (hr3.le hD) (by omega) (by omega) (by decide) (C:=2000) (λk j hq0 hk=>zac0 (hr2.le hD) (hr3.le hD) hq0 (by have:=tlenz f2;have:0<(trim E).length:=List.length_pos_iff.2 hq0;omega)) (by decide) (λhh=>absurd hh g1) λhq0 y z h' qs rs hl hy hz lq lr hc hz2=>⟨rfl,?_⟩) λr D1 h6 hl6 ho6 ⟨er,hz⟩=>?_
   . obtain⟨_,d2⟩:=zw2 (q':=q1) (r':=r1) hq0 hc hz2 lq (by omega) e3 f7
     exact hz.re1 d2 k4
   refine za9 (λ_ h'=>h'=h6) ?_ ?_
   . rintro _ h7 rfl
     refine ho6.call (K1:=λv D'=>NR D' v (((-1:Int):Rat))) (zbz (by decide) (by decide) λv D' _ hv=>hv) λv D2 h8 hl8 ho8 hv=>?_
     refine ho8.call (K1:=λu D'=>PL D' 1 u c) (zon (hz.le hl8) hv BR_m1 (Nat.le_trans (tlenz f8) (by decide)) (by decide) (by decide) λu D' hu=>hu.pl.re1 e4 k2) λu D3 h9 hl9 ho9 hu=>?_
     have hlw:=ho9.2.1
     simp at hlw
     refine zk6 ho9 (n:=1) (new:=[slc u]) rfl rfl rfl (by simp only;omega) (by simp only;omega) λy h10 hy _=>⟨⟨D3,Hp.le_trans hD (Hp.le_trans hl6 (Hp.le_trans hl8 hl9)),.inr ⟨u,hu,rfl,rfl,hy⟩⟩,?_⟩
     rw[hu.len,hr3.len];exact g4
   . have ez:r.2.1.len=(trim r1).length:=hz.len
     have:0<(trim r1).length:=List.length_pos_iff.2 g3
     rw[er]
     refine zab rfl (zbl (λh7=>by omega) (λh7=>rfl))
 . simp only at es et ho5
   subst es et
   refine ho5.call (K1:=λr D'=>r.2.2=0/\PL D' 1 r.2.1 []) (zqp (hr3.le hD) hr11 (by omega) (by omega) (by decide) (C:=2000) (λk j hq0 hk=>zac0 (hr3.le hD) hr11 hq0 (by have:=tlenz f3;have:0<(trim c).length:=List.length_pos_iff.2 hq0;omega)) (by decide) (λhh=>absurd hh g2) λhq0 y z h' qs rs hl hy hz lq lr hc hz2=>⟨rfl,?_⟩) λr D1 h6 hl6 ho6 ⟨er,hz⟩=>?_
   . obtain⟨_,d2⟩:=zw2 (q':=q2) (r':=[]) hq0 hc hz2 lq (by omega) (by rw[za25];exact e5) (Nat.zero_le _)
     exact hz.re1 d2 (by decide)
   refine za9 (λ_ _=>False) (λ_ _ hh=>hh.elim) ?_
   rw[er]
   refine zab rfl (zb1 (by rw[hz.len];rfl) ?_)
   refine hk _ _ (Hp.le_trans hl1 (Hp.le_trans hl2 (Hp.le_trans hl3 (Hp.le_trans hD (Hp.le_trans hl6 ho6.1))))) ⟨[r2,s,t],ho6.rd,rfl,λk g1 g2=>?_⟩
   have hd6:=Hp.le_trans hl6 ho6.1
   match k,g1 with
   | 0,_=>exact(hr2.le hD).le hd6
   | 1,_=>exact(hr3.le hD).le hd6
   | 2,_=>exact hr11.le hd6
theorem sqf_x:sqfOk [-2,0,1] [-2,0,1] [0,2] [0,1] [0,1] [-2] [1] [0,1] [-2,0,1] [-2,0,1]=true:=by decide +kernel
theorem zao7:chainOk [-2,0,1] [-2,0,1] [0,2] [0,(1:Rat)/2] [-2] [2] [0,1]=true:=by decide +kernel
theorem sqf_y:sqfOk [3,-5,1,1] [3,-5,1,1] [-5,2,3] [-5/3,(2:Rat)/3,1] [(1:Rat)/3,1] [(32:Rat)/9,-32/9] [-1,1] [(5:Rat)/3,1] [-3,2,1] [-3,2,1]=true:=by decide +kernel
theorem zao8:chainOk [3,-5,1,1] [-3,2,1] [2,2] [(1:Rat)/2,(1:Rat)/2] [-4] [4] [(1:Rat)/2,(1:Rat)/2]=true:=by decide +kernel
end
end Den
end

section
namespace Den
open Go Iv Pq
theorem zap0{h:Hp}{v w:Value}{K:Addr->Hp->Prop}(hw:([w]:List Value).all Value.leaf=true)(H:∀p h',h.le h'->h'.cell p=some w->K p h'):newP [v] (λp h1=>stP p [w] (λh2=>K p h2) h1) h:=by
 refine zeq (n:=1) (size:=1) rfl λb h1 hb ho=>?_
 have key:=(zanf (i:=0) (vs:=[w]) (K:=λh2=>K ⟨b,0,none⟩ h2) 0 ho rfl Nat.one_pos rfl (by decide) hw λh' ho'=>H _ h' ho'.1 ?_).2.2
 . exact key
 . have h2:=ho'.rd.2
   have e:splice [v] (0*1) [w]=[w]:=rfl
   rw[e]at h2
   have h3:cellsAt h' (⟨b,0,none⟩:Addr) 1=some [w]:=h2
   simp only[cellsAt]at h3
   split at h3
   . rename_i l e1
     have e2:l=w:=by simpa using h3
     rw[<-e2,<-e1];rfl
   . simp at h3
theorem b1_BR{c:Rat}(h:b1 [c]=true):BR 1 c:=by
 have h3:=of_decide_eq_true (List.all_eq_true.1 h c (by simp))
 refine⟨?_,?_⟩
 . unfold Lt;rw[Nat.pow_one,W_eq];exact h3.1
 . unfold Lt;rw[Nat.pow_one,W_eq];show((c).den:Int).natAbs<4294967296;omega
def small1(ps:List (List Rat))(c:Rat):Bool:=ps.all λp=>decide (p.length<=7)&&b1 ((List.range 8).map λi=>ev (p.drop i) c)
theorem za9c{ps:List (List Rat)}{c:Rat}(h:small1 ps c=true):(∀p∈ps,p.length<=1000)/\∀p∈ps,∀i,BR 1 (ev (p.drop i) c):=by
 have key:∀p∈ps,p.length<=7/\∀i,i<8->BR 1 (ev (p.drop i) c):=by
  intro p hp
  have h1:=List.all_eq_true.1 h p hp
  rw[Bool.and_eq_true,decide_eq_true_eq]at h1
  refine⟨h1.1,λi hi=>?_⟩
  have h2:=List.all_eq_true.1 h1.2 (ev (p.drop i) c) (List.mem_map.2 ⟨i,List.mem_range.2 hi,rfl⟩)
  have h3:=of_decide_eq_true h2
  refine⟨?_,?_⟩
  . unfold Lt;rw[Nat.pow_one,W_eq];exact h3.1
  . unfold Lt;rw[Nat.pow_one,W_eq];show((ev (p.drop i) c).den:Int).natAbs<4294967296;omega
 refine⟨λp hp=>Nat.le_trans (key p hp).1 (by decide),λp hp i=>?_⟩
 rcases Nat.lt_or_ge i 8 with hi | hi
 . exact(key p hp).2 i hi
 . have:=(key p hp).2 7 (by decide)
   have e:∀j,p.length<=j->p.drop j=[]:=λj hj=>List.drop_of_length_le hj
   rw[e 7 (key p hp).1]at this
   rw[e i (Nat.le_trans (key p hp).1 (by omega))];exact this
section
variable {h : Hp} {A B C : Nat} {l m : Sl} {p q : List Rat} {ps : List (List Rat)} {K : Sl → Hp → Prop} {Ki : Int → Hp → Prop} {Kb : Bool → Hp → Prop} {c : Rat} {x : TRat}
theorem zo3{n:Nat}(hq:QQL h 1 l ps)(hx:NR h x c)(bc:b1 [c]=true)(hlen:ps.length<=1000)(hs:small1 ps c=true)(hn:chN ps c=n)(H:∀h',h.le h'->Ki (n:Int) h'):callP (F.zbk l x) Ki h:=
 ze7 hq hx (b1_BR bc) hlen (by decide) (by decide) (za9c hs).1 (za9c hs).2 (by decide) λh' hl=>by rw[hn];exact H h' hl
theorem zwj{a:Addr}{i:Int}{n:Nat}(hc:h.cell a=some (slc l))(hq:QQL h 1 l ps)(hi:-9223372036854775808<=i/\i<=9223372036854775807)(bi:b1 [(i:Rat)]=true)(hlen:ps.length<=1000)(hs:small1 ps (i:Rat)=true)(hn:chN ps (i:Rat)=n)(H:∀h',h.le h'->Ki (n:Int) h'):callP (F.zfa i (some a)) Ki h:=by
 refine za3 (λv h'=>v=(n:Int)) (λK' hk=>?_) λv h' hl hv=>by subst hv;exact H h' hl
 unfold F.zfa
 refine⟨l,hc,?_⟩
 refine zcj hi.1 hi.2 λy h1 hl1 hy=>?_
 exact zo3 (hq.le hl1) hy bi hlen hs hn λh2 hl2=>hk _ _ (Hp.le_trans hl1 hl2) rfl
theorem zalc{P M D E0 q10 r10 c10 q20 Q W E q1 r1 c q2:List Rat}{b:Rat}{n1 n2:Nat}(hok:sqfOk P M D E0 q10 r10 c10 q20 Q W=true)(hok2:chainOk P W E q1 r1 c q2=true)(hb:bndQ P=b)(bb:b1 [b]=true)(bb2:b1 [-b]=true)(hpos:cmpQ (-b) b=-1)(hlen:P.length<=7)
 (hs1:small1 [W,E,c] (-b)=true) (hs2:small1 [W,E,c] b=true) (hn1:chN [W,E,c] (-b)=n1) (hn2:chN [W,E,c] b=n2) (hn:n2<=n1) (hbig:n1<=1000)
 (hp:PL h 1 l P) (H:∀h',h.le h'->Ki ((n1-n2:Nat):Int) h'):callP (F.zei l) Ki h:=by
 refine za3 (λv h'=>v=((n1-n2:Nat):Int)) (λK' hk=>?_) λv h' hl hv=>by subst hv;exact H h' hl
 unfold F.zei
 refine za3 (λv h'=>NR h' v.low (-b)/\NR h' v.high b) (λK1 hk1=>?_) λv h1 hl1 ⟨hv1,hv2⟩=>?_
 . unfold F.zf0
   refine zom hp (by omega) (by decide) λr1 h1 hl1 hr1=>?_
   rw[hb]at hr1
   refine zly hr1 (b1_BR bb) (by decide) λr2 h2 hl2 hr2=>hk1 _ _ (Hp.le_trans hl1 hl2) ⟨hr2,hr1.le hl2⟩
 . refine za3 (λv h'=>v=((n1-n2:Nat):Int)) (λK1 hk1=>?_) λv h' hl hv=>hk _ _ (Hp.le_trans hl1 hl) hv
   unfold F.zfr
   refine zw7 hv1 hv2 (b1_BR bb2) (b1_BR bb) (by decide) (by decide) λh2 hl2=>?_
   rw[hpos]
   refine zab rfl ?_
   refine za8p hok hok2 (hp.le (Hp.le_trans hl1 hl2)) λy h3 hl3 hy=>?_
   have hl23:=Hp.le_trans hl2 hl3
   refine za3 (λv h'=>v=((n1-n2:Nat):Int)) (λK2 hk2=>?_) λv h' hl hv=>hk1 _ _ (Hp.le_trans hl23 hl) hv
   unfold F.zho
   refine zo3 hy (hv1.le hl23) bb2 (Nat.le_of_ble_eq_true rfl) hs1 hn1 λh4 hl4=>?_
   refine zo3 (hy.le hl4) ((hv2.le hl23).le hl4) bb (Nat.le_of_ble_eq_true rfl) hs2 hn2 λh5 hl5=>hk2 _ _ (Hp.le_trans hl4 hl5) ?_
   rw[w64 (by omega)];omega
theorem zhq(H:∀h',h.le h'->Kb true h'):callP F.zcv Kb h:=by
 refine za3 (λb h'=>b=true) (λK' hk=>?_) λb h' hl hb=>by subst hb;exact H h' hl
 unfold F.zcv
 refine zh4 [-2,0,1] [-2,0,1] rfl rfl (by decide) (by decide +kernel) (by decide) λr2 h2 hl2 hr2=>?_
 refine za8p sqf_x zao7 hr2 λr3 h3 hl3 hr3=>?_
 refine zap0 rfl λa h4 hl4 hc4=>?_
 refine⟨r3,hc4,?_⟩
 refine zh4 [-2,0,1] [-2,0,1] rfl rfl (by decide) (by decide +kernel) (by decide) λr7 h7 hl7 hr7=>?_
 refine zh4 [0,2] [0,2] rfl rfl (by decide) (by decide +kernel) (by decide) λr9 h9 hl9 hr9=>?_
 refine zh4 [2] [2] rfl rfl (by decide) (by decide +kernel) (by decide) λr11 h11 hl11 hr11=>?_
 refine zeq (n:=3) (size:=1) rfl λb h12 hb ho=>?_
 have l4:h4.le h12:=Hp.le_trans hl7 (Hp.le_trans hl9 (Hp.le_trans hl11 ho.1))
 have hq:QQL h12 1 r3 [[-2,0,1],[0,2],[2]]:=(hr3.le hl4).le l4
 have hl2':PL h12 1 r7 [-2,0,1]:=((hr7.le hl9).le hl11).le ho.1
 have hl3':PL h12 1 r9 [0,2]:=(hr9.le hl11).le ho.1
 have hl4':PL h12 1 r11 [2]:=hr11.le ho.1
 have hq2:QQL h12 1 ⟨some ⟨b,0,none⟩,3,3⟩ [[-2,0,1],[0,2],[2]]:=⟨[r7,r9,r11],ho.rd,rfl,λk g1 g2=>by
  match k,g1 with
  | 0,_=>exact hl2'
  | 1,_=>exact hl3'
  | 2,_=>exact hl4'⟩
 have hc12:h12.cell a=some (slc r3):=Hp.cell_le l4 hc4
 refine zaik hq hq2 rfl (by decide) (by decide) λh13 hl13=>zb1 rfl ?_
 refine zwj (n:=1) (Hp.cell_le hl13 hc12) (hq.le hl13) (by decide) (by decide +kernel) (by decide) (by decide +kernel) (by decide +kernel) λh14 hl14=>zb1 rfl ?_
 have l14:=Hp.le_trans hl13 hl14
 refine zwj (n:=0) (Hp.cell_le l14 hc12) (hq.le l14) (by decide) (by decide +kernel) (by decide) (by decide +kernel) (by decide +kernel) λh15 hl15=>zb1 rfl ?_
 refine zh4 [3,-5,1,1] [3,-5,1,1] rfl rfl (by decide) (by decide +kernel) (by decide) λr17 h17 hl17 hr17=>?_
 refine zalc (n1:=2) (n2:=0) (b:=6) sqf_y zao8 (by decide +kernel) (by decide +kernel) (by decide +kernel) (by decide +kernel) (by decide) (by decide +kernel) (by decide +kernel) (by decide +kernel) (by decide +kernel) (by decide) (by decide) hr17 λh18 hl18=>?_
 exact hk _ _ (Hp.le_trans hl2 (Hp.le_trans hl3 (Hp.le_trans hl4 (Hp.le_trans l4 (Hp.le_trans l14 (Hp.le_trans hl15 (Hp.le_trans hl17 hl18))))))) rfl
def ARX(h:Hp)(x:TRat):Prop:=AR h x/\x.num.mag.len<=35184372087808/\x.den.mag.len<=35184372087808
def AQX(h:Hp)(l:Sl):Prop:=∃xs,RdQ h l xs/\(∀x∈xs,ARX h x)/\l.len<=l.cap/\l.len<=35184372088832
theorem ARX.le{h h':Hp}{x:TRat}(ha:ARX h x)(hl:h.le h'):ARX h' x:=⟨ha.1.le hl,ha.2⟩
theorem AQX.le{h h':Hp}{l:Sl}(ha:AQX h l)(hl:h.le h'):AQX h' l:=by
 obtain⟨xs,h1,h2,h3⟩:=ha
 exact⟨xs,h1.le hl,λx hx=>(h2 x hx).le hl,h3⟩
theorem zmq(hx:ARX h x)(H1:∀v h',h.le h'->NR h x v->BR 3 v->Kb true h')(H0:∀h',h.le h'->Kb false h'):callP (F.zfp x) Kb h:=by
 refine za3 (λb h'=>(b=true/\∃v,NR h x v/\BR 3 v)\/b=false) (λK' hk=>?_) λb h' hl hv=>by
  rcases hv with ⟨rfl,v,h1,h2⟩ | rfl
  . exact H1 v h' hl h1 h2
  . exact H0 h' hl
 unfold F.zfp
 refine zac2 hx.1 hx.2.1 hx.2.2 (λv h3 hl3 hv=>zb1 rfl (za5 (λh1=>?_) (λh1=>hk _ _ hl3 (.inr rfl)))) (λh3 hl3 _=>zab rfl (hk _ _ hl3 (.inr rfl)))
 refine hk _ _ hl3 ?_
 rcases Bool.eq_false_or_eq_true (decide ((x.den.mag.len:Int)<=3))with h5 | h5
 . have h6:=of_decide_eq_true h5
   exact .inl ⟨h5,v,hv,NR_BR hv (by omega) (by omega)⟩
 . exact .inr h5
theorem zabv(ha:AQX h l)(H1:∀vs h',h.le h'->PL h 3 l vs->vs.length<=8->Kb true h')(H0:∀h',h.le h'->Kb false h'):callP (F.zkq l) Kb h:=by
 refine za3 (λb h'=>(b=true/\∃vs,PL h 3 l vs/\vs.length<=8)\/b=false) (λK' hk=>?_) λb h' hl hv=>by
  rcases hv with ⟨rfl,v,h1,h2⟩ | rfl
  . exact H1 v h' hl h1 h2
  . exact H0 h' hl
 unfold F.zkq
 obtain⟨xs,h1,h2,h3,h3b⟩:=ha
 have hl:=RdQ.len h1
 refine zaa (λst h'=>h.le h'/\∃i:Nat,st.1=(i:Int)/\i<=xs.length/\∃vs,QL h 3 (xs.take i) vs) (λst=>(xs.length-st.1).toNat) ⟨Hp.le_refl _,0,rfl,Nat.zero_le _,[],rfl,λk g1 _=>by simp at g1⟩ ?_
 rintro⟨_,_⟩ h5 ⟨hl5,i,hi,hi2,vs,hq⟩
 simp only at hi
 subst hi
 refine za5 (λh6=>?_) (λh6=>?_)
 . simp only at h6
   have hi':i<xs.length:=by omega
   refine zaby i (h1.le hl5) rfl hi' ?_
   refine zpb hl5 (K1:=λb _=>(b=true/\∃v,NR h xs[i] v/\BR 3 v)\/b=false) (zmq (h2 _ (List.getElem_mem hi')) (λv h' _ hv hb=>.inl ⟨rfl,v,hv,hb⟩) (λh' _=>.inr rfl)) λb D' h7 hl7 hl8 hfr hb=>?_
   have hh7:h.le h7:=Hp.le_trans hl7 hl8
   rcases hb with ⟨rfl,v,hv,hb⟩ | rfl
   . refine zab rfl ⟨⟨hh7,i+1,?_,hi',vs++[v],?_⟩,?_⟩
     . simp only;rw[w64 (by omega)];rfl
     . rw[List.take_succ_eq_append_getElem hi']
       exact QL.snoc hq hv hb
     . simp only;rw[w64 (by omega)];omega
   . exact zb1 rfl (hk _ _ hh7 (.inr rfl))
 . simp only at h6
   have hi':i=xs.length:=by omega
   subst hi'
   rw[List.take_length]at hq
   refine hk _ _ hl5 ?_
   rcases Bool.eq_false_or_eq_true (decide ((l.len:Int)<=8))with h7 | h7
   . have h8:=of_decide_eq_true h7
     exact .inl ⟨h7,vs,⟨xs,h1,hq,h3⟩,by rw[<-hq.1];omega⟩
   . exact .inr h7
end
end Den
end

section
namespace Den
open Go Iv Pq
section
variable {h : Hp} {A B C : Nat} {l m : Sl} {K Kb : Bool → Hp → Prop} {x : TRat}
theorem zage{ss:List Sl}(hr:Rd h 1 l (ss.map slc))(ha:∀s∈ss,AQX h s)(hlen:ss.length<=100)(H1:∀h',h.le h'->(∀s∈ss,∃vs,PL h 3 s vs/\vs.length<=8)->Kb true h')(H0:∀h',h.le h'->Kb false h'):callP (F.zkk l) Kb h:=by
 refine za3 (λb h'=>(b=true/\∀s∈ss,∃vs,PL h 3 s vs/\vs.length<=8)\/b=false) (λK' hk=>?_) λb h' hl hv=>by
  rcases hv with ⟨rfl,h1⟩ | rfl
  . exact H1 h' hl h1
  . exact H0 h' hl
 unfold F.zkk
 have hl:l.len=ss.length:=by have:=hr.1;simp at this;omega
 refine zaa (λst h'=>h.le h'/\∃i:Nat,st.1=(i:Int)/\i<=ss.length/\∀s∈ss.take i,∃vs,PL h 3 s vs/\vs.length<=8) (λst=>(ss.length-st.1).toNat) ⟨Hp.le_refl _,0,rfl,Nat.zero_le _,λs hs=>by simp at hs⟩ ?_
 rintro⟨_,_⟩ h5 ⟨hl5,i,hi,hi2,hall⟩
 simp only at hi
 subst hi
 refine za5 (λh6=>?_) (λh6=>?_)
 . simp only at h6
   have hi':i<ss.length:=by omega
   refine zabx i (hr.le hl5) rfl (v:=slc ss[i]) (by rw[List.getElem?_map,List.getElem?_eq_getElem hi'];rfl) λa hc=>⟨ss[i],hc,?_⟩
   refine zpb hl5 (K1:=λb _=>(b=true/\∃vs,PL h 3 ss[i] vs/\vs.length<=8)\/b=false) (zabv (ha _ (List.getElem_mem hi')) (λvs h' _ hv hb=>.inl ⟨rfl,vs,hv,hb⟩) (λh' _=>.inr rfl)) λb D' h7 hl7 hl8 hfr hb=>?_
   have hh7:h.le h7:=Hp.le_trans hl7 hl8
   rcases hb with ⟨rfl,hv⟩ | rfl
   . refine zab rfl ⟨⟨hh7,i+1,?_,hi',?_⟩,?_⟩
     . simp only;rw[w64 (by omega)];rfl
     . rw[List.take_succ_eq_append_getElem hi']
       intro s hs
       rcases List.mem_append.1 hs with hs | hs
       . exact hall s hs
       . rw[List.mem_singleton.1 hs];exact hv
     . simp only;rw[w64 (by omega)];omega
   . exact zb1 rfl (hk _ _ hh7 (.inr rfl))
 . simp only at h6
   have hi':i=ss.length:=by omega
   subst hi'
   rw[List.take_length]at hall
   exact hk _ _ hl5 (.inl ⟨rfl,hall⟩)
end
end Den
end

section
namespace Den
open Go Iv Go.Proofs
open Go.ChangeShapes Go.WideShapes Go.ChangeAt Go.RowKit
section
variable {H : Type} {enc : TypeId × Value → H} {w : World} {s : Sl} {cs : List Value}
theorem zai1(h:Okt enc Tryz.prog w 39 cs):∃x:TRat,cs=[.bool x.num.neg,Lf.sl.up x.num.mag,.bool x.den.neg,Lf.sl.up x.den.mag]/\True/\ARX (hpW w) x:=by
 obtain⟨x,h1,h2,h3⟩:=zapo h
 exact⟨x,h1,trivial,h3,h2⟩
theorem zan0:∀{css:List (List Value)},(∀c∈css,c.length=4/\Okt enc Tryz.prog w 39 c)->∃xs:List TRat,css.flatten=xs.flatMap qc/\∀x∈xs,ARX (hpW w) x
 | [],_=>⟨[],rfl,λd hd=>by simp at hd⟩
 | c :: r,h=>by
   obtain⟨l,h1,h2⟩:=zan0 (css:=r) λx hx=>h x (List.mem_cons_of_mem _ hx)
   obtain⟨x,hx,_,ax⟩:=zai1 (h c (by simp)).2
   refine⟨x :: l,?_,λd hd=>?_⟩
   . rw[List.flatten_cons,h1,hx];rfl
   . rcases List.mem_cons.1 hd with rfl | hd
     . exact ax
     . exact h2 d hd
theorem zaq4(h:Okt enc Tryz.prog w 22 [Lf.sl.up s]):AQX (hpW w) s/\s.len<=35184372088832:=by
 obtain⟨s',hs,h1,h2,css,h3,h4,h5⟩:=h.slice Tryz.underlying22
 have e:s=s':=by
  simp only[List.cons.injEq,and_true]at hs
  exact Lf.up_inj hs
 subst e
 rw[c_R]at h4 h5
 rw[by_R,show reachBytes=140737488351232 from rfl]at h2
 obtain⟨xs,hx,ax⟩:=zan0 h4
 rw[hx]at h5
 exact⟨⟨xs,h5,ax,h1,by omega⟩,by omega⟩
end
end Den
end

section
namespace Den
open Go Iv Go.Proofs
open Go.ChangeShapes Go.WideShapes Go.ChangeAt Go.RowKit
section
variable {H : Type} {enc : TypeId × Value → H} {w : World}
theorem c_P2:Tryz.prog.cellsOf 64=8:=by kernel_rfl
theorem zaq2{cs:List Value}(h:Okt enc Tryz.prog w 64 cs):∃x:A2_TRat,cs=[.bool x.c0.num.neg,Lf.sl.up x.c0.num.mag,.bool x.c0.den.neg,Lf.sl.up x.c0.den.mag,.bool x.c1.num.neg,Lf.sl.up x.c1.num.mag,.bool x.c1.den.neg,Lf.sl.up x.c1.den.mag]/\ARX (hpW w) x.c0/\ARX (hpW w) x.c1:=by
 obtain⟨hl,hf⟩:=h.items Tryz.underlying64
 rw[c_P2]at hl
 have h0:=hf 0 (by decide)
 have h1:=hf 1 (by decide)
 simp only[c_R,List.drop_zero,Nat.zero_mul,Nat.one_mul]at h0 h1
 obtain⟨x,hx,_,ax⟩:=zai1 h0
 obtain⟨y,hy,_,ay⟩:=zai1 h1
 refine⟨⟨x,y⟩,?_,ax,ay⟩
 rw[<-List.take_append_drop 4 cs,hx,<-List.take_of_length_le (l:=cs.drop 4) (i:=4) (by simp[hl]),hy]
 rfl
end
end Den
end

section
set_option maxRecDepth 100000
namespace Den
open Go
noncomputable def za9k:ArgT (Sl×Unit):=(ArgT.cons (Ty.leaf .sl) ArgT.nil)
noncomputable def za9v:Ty Sl:=(Ty.leaf .sl)
noncomputable def zba:FSem:=mkE za9k za9v (λa=>F.zak a.1)
noncomputable def zaau:Cfg:={ P:=Go.Proofs.Tryz.prog,n:=21,tab:=[],mutL:=[],rtL:=[],locL:=[] }
noncomputable def zaah:Code:=match Go.Proofs.Tryz.f136.body with | some c=>c | none=>.skip
noncomputable def zaa6:An:=(.seq .leaf (.seq (.block (.loop [(0,.leaf (.sl))] (.join [] (.seq .leaf (.cond .leaf .leaf)) (.block .leaf)))) (.seq .leaf .leaf)))
theorem zbq:Entry Go.Proofs.Tryz.prog 136 zba false:=
 za0 (C:=zaau) (fn:=Go.Proofs.Tryz.f136) (c:=zaah) (an:=zaa6) trivial trivial Go.Proofs.Tryz.func136 rfl rfl (by decide) (λ_=>rfl) (by intro a K D;kernel_rfl)
noncomputable def za5b:ArgT (Int×Unit):=(ArgT.cons (Ty.leaf (.int .u64)) ArgT.nil)
noncomputable def za5x:Ty Sl:=(Ty.leaf .sl)
noncomputable def zl1:FSem:=mkE za5b za5x (λa=>F.zd2 a.1)
noncomputable def za7r:Cfg:={ P:=Go.Proofs.Tryz.prog,n:=10,tab:=[(136,zba)],mutL:=[],rtL:=[],locL:=[] }
noncomputable def za75:Code:=match Go.Proofs.Tryz.f147.body with | some c=>c | none=>.skip
noncomputable def za6j:An:=(.seq .leaf (.seq .leaf .leaf))
theorem zqs:Entry Go.Proofs.Tryz.prog 147 zl1 false:=
 za0 (C:=za7r) (fn:=Go.Proofs.Tryz.f147) (c:=za75) (an:=za6j) ⟨zbq,trivial⟩ trivial Go.Proofs.Tryz.func147 rfl rfl (by decide) (λ_=>rfl) (by intro a K D;kernel_rfl)
noncomputable def za11:ArgT (Bool×Sl×Unit):=(ArgT.cons (Ty.leaf .bool) (ArgT.cons (Ty.leaf .sl) ArgT.nil))
noncomputable def za1k:Ty TInt:=tyTInt
noncomputable def zc0:FSem:=mkE za11 za1k (λa=>F.zat a.1 a.2.1)
noncomputable def za35:Cfg:={ P:=Go.Proofs.Tryz.prog,n:=15,tab:=[(136,zba)],mutL:=[],rtL:=[],locL:=[4] }
noncomputable def za2l:Code:=match Go.Proofs.Tryz.f146.body with | some c=>c | none=>.skip
noncomputable def za22:An:=(.seq .leaf (.seq .leaf (.seq .leaf .leaf)))
theorem zcm:Entry Go.Proofs.Tryz.prog 146 zc0 false:=
 za0 (C:=za35) (fn:=Go.Proofs.Tryz.f146) (c:=za2l) (an:=za22) ⟨zbq,trivial⟩ trivial Go.Proofs.Tryz.func146 rfl rfl (by decide) (λ_=>rfl) (by intro a K D;kernel_rfl)
noncomputable def zxo:ArgT (Int×Unit):=(ArgT.cons (Ty.leaf (.int .i64)) ArgT.nil)
noncomputable def zy4:Ty TInt:=tyTInt
noncomputable def zig:FSem:=mkE zxo zy4 (λa=>F.ze8 a.1)
noncomputable def zzi:Cfg:={ P:=Go.Proofs.Tryz.prog,n:=14,tab:=[(147,zl1),(146,zc0)],mutL:=[],rtL:=[],locL:=[2] }
noncomputable def zz1:Code:=match Go.Proofs.Tryz.f88.body with | some c=>c | none=>.skip
noncomputable def zyk:An:=(.seq .leaf (.seq (.seq .leaf (.cond (.seq .leaf .leaf) .leaf)) (.seq .leaf .leaf)))
theorem znk:Entry Go.Proofs.Tryz.prog 88 zig false:=
 za0 (C:=zzi) (fn:=Go.Proofs.Tryz.f88) (c:=zz1) (an:=zyk) ⟨zqs,zcm,trivial⟩ trivial Go.Proofs.Tryz.func88 rfl rfl (by decide) (λ_=>rfl) (by intro a K D;kernel_rfl)
noncomputable def zxr:ArgT (Int×Unit):=(ArgT.cons (Ty.leaf (.int .i64)) ArgT.nil)
noncomputable def zy7:Ty TRat:=tyTRat
noncomputable def zc7:FSem:=mkE zxr zy7 (λa=>F.zbi a.1)
noncomputable def zzl:Cfg:={ P:=Go.Proofs.Tryz.prog,n:=7,tab:=[(88,zig)],mutL:=[],rtL:=[],locL:=[2] }
noncomputable def zz4:Code:=match Go.Proofs.Tryz.f81.body with | some c=>c | none=>.skip
noncomputable def zyn:An:=(.seq .leaf (.seq .leaf .leaf))
theorem zcr:Entry Go.Proofs.Tryz.prog 81 zc7 false:=
 za0 (C:=zzl) (fn:=Go.Proofs.Tryz.f81) (c:=zz4) (an:=zyn) ⟨znk,trivial⟩ trivial Go.Proofs.Tryz.func81 rfl rfl (by decide) (λ_=>rfl) (by intro a K D;kernel_rfl)
noncomputable def zxp:ArgT (Sl×Sl×Unit):=(ArgT.cons (Ty.leaf .sl) (ArgT.cons (Ty.leaf .sl) ArgT.nil))
noncomputable def zy5:Ty Int:=(Ty.leaf (.int .i64))
noncomputable def zfb:FSem:=mkE zxp zy5 (λa=>F.zd8 a.1 a.2.1)
noncomputable def zzj:Cfg:={ P:=Go.Proofs.Tryz.prog,n:=41,tab:=[],mutL:=[],rtL:=[],locL:=[] }
noncomputable def zz2:Code:=match Go.Proofs.Tryz.f174.body with | some c=>c | none=>.skip
noncomputable def zyl:An:=(.seq .leaf (.seq (.seq .leaf (.cond (.seq (.seq .leaf (.cond (.seq .leaf .leaf) .leaf)) (.seq .leaf .leaf)) .leaf)) (.seq (.seq .leaf (.block (.loop [(5,.leaf (.int .i64))] (.seq (.seq .leaf (.cond .leaf .leaf)) (.seq (.block (.seq (.seq (.draw [0,1,2,3,4,5,6,7,8]) (.cond (.seq .leaf .leaf) .leaf)) (.seq (.draw [0,1,2,3,4,5,6,7,8]) (.cond (.seq .leaf .leaf) .leaf)))) .leaf))))) (.seq .leaf .leaf))))
theorem zil:Entry Go.Proofs.Tryz.prog 174 zfb false:=
 za0 (C:=zzj) (fn:=Go.Proofs.Tryz.f174) (c:=zz2) (an:=zyl) trivial trivial Go.Proofs.Tryz.func174 rfl rfl (by decide) (λ_=>rfl) (by intro a K D;kernel_rfl)
noncomputable def za59:ArgT (Sl×Unit):=(ArgT.cons (Ty.leaf .sl) ArgT.nil)
noncomputable def za5v:Ty Int:=(Ty.leaf (.int .u64))
noncomputable def zqk:FSem:=mkE za59 za5v (λa=>F.zfo a.1)
noncomputable def za7p:Cfg:={ P:=Go.Proofs.Tryz.prog,n:=21,tab:=[],mutL:=[],rtL:=[],locL:=[] }
noncomputable def za73:Code:=match Go.Proofs.Tryz.f175.body with | some c=>c | none=>.skip
noncomputable def za6h:An:=(.seq .leaf (.seq .leaf (.seq (.seq .leaf (.block (.loop [(3,.leaf (.int .u64)),(4,.leaf (.int .i64))] (.seq (.seq .leaf (.cond .leaf .leaf)) (.seq (.block .leaf) .leaf))))) (.seq .leaf .leaf))))
theorem za8g:Entry Go.Proofs.Tryz.prog 175 zqk false:=
 za0 (C:=za7p) (fn:=Go.Proofs.Tryz.f175) (c:=za73) (an:=za6h) trivial trivial Go.Proofs.Tryz.func175 rfl rfl (by decide) (λ_=>rfl) (by intro a K D;kernel_rfl)
noncomputable def zagt:ArgT (Sl×Int×Unit):=(ArgT.cons (Ty.leaf .sl) (ArgT.cons (Ty.leaf (.int .u32)) ArgT.nil))
noncomputable def zagx:Ty (Sl×Int):=(Ty.tup (.cons (Ty.leaf .sl) (.cons (Ty.leaf (.int .u32)) .nil)) (λx=>(x.1,x.2,())) (λy=>(y.1,y.2.1)) (λ_=>rfl) (λ_=>rfl))
noncomputable def za3l:FSem:=mkE zagt zagx (λa=>F.zuq a.1 a.2.1)
noncomputable def zahb:Cfg:={ P:=Go.Proofs.Tryz.prog,n:=43,tab:=[(136,zba)],mutL:=[],rtL:=[],locL:=[] }
noncomputable def zah4:Code:=match Go.Proofs.Tryz.f176.body with | some c=>c | none=>.skip
noncomputable def zah0:An:=(.seq .leaf (.seq .leaf (.seq .leaf (.seq (.seq .leaf (.block (.loop [(7,.leaf (.int .u64)),(8,.leaf (.int .i64))] (.seq (.seq .leaf (.cond .leaf .leaf)) (.seq (.block (.seq .leaf (.seq .leaf .leaf))) .leaf))))) (.seq .leaf .leaf)))))
theorem zais:Entry Go.Proofs.Tryz.prog 176 za3l false:=
 za0 (C:=zahb) (fn:=Go.Proofs.Tryz.f176) (c:=zah4) (an:=zah0) ⟨zbq,trivial⟩ trivial Go.Proofs.Tryz.func176 rfl rfl (by decide) (λ_=>rfl) (by intro a K D;kernel_rfl)
noncomputable def za10:ArgT (Sl×Unit):=(ArgT.cons (Ty.leaf .sl) ArgT.nil)
noncomputable def za1j:Ty Int:=(Ty.leaf (.int .i64))
noncomputable def zoc:FSem:=mkE za10 za1j (λa=>F.zgd a.1)
noncomputable def za34:Cfg:={ P:=Go.Proofs.Tryz.prog,n:=26,tab:=[],mutL:=[],rtL:=[],locL:=[] }
noncomputable def za2k:Code:=match Go.Proofs.Tryz.f135.body with | some c=>c | none=>.skip
noncomputable def za21:An:=(.seq .leaf (.seq (.seq .leaf (.cond (.seq .leaf .leaf) .leaf)) (.seq .leaf (.seq (.seq .leaf (.block (.loop [(3,.leaf (.int .i64)),(4,.leaf (.int .u32))] (.seq (.seq .leaf (.cond .leaf .leaf)) (.seq (.block .leaf) .leaf))))) (.seq .leaf .leaf)))))
theorem za4s:Entry Go.Proofs.Tryz.prog 135 zoc false:=
 za0 (C:=za34) (fn:=Go.Proofs.Tryz.f135) (c:=za2k) (an:=za21) trivial trivial Go.Proofs.Tryz.func135 rfl rfl (by decide) (λ_=>rfl) (by intro a K D;kernel_rfl)
noncomputable def zxq:ArgT (Sl×Int×Unit):=(ArgT.cons (Ty.leaf .sl) (ArgT.cons (Ty.leaf (.int .i64)) ArgT.nil))
noncomputable def zy6:Ty Sl:=(Ty.leaf .sl)
noncomputable def zne:FSem:=mkE zxq zy6 (λa=>F.zhl a.1 a.2.1)
noncomputable def zzk:Cfg:={ P:=Go.Proofs.Tryz.prog,n:=43,tab:=[],mutL:=[],rtL:=[],locL:=[] }
noncomputable def zz3:Code:=match Go.Proofs.Tryz.f177.body with | some c=>c | none=>.skip
noncomputable def zym:An:=(.seq .leaf (.seq .leaf (.seq (.seq .leaf (.block (.loop [(6,.leaf (.int .i64))] (.seq (.seq .leaf (.cond .leaf .leaf)) (.seq (.block (.seq .leaf (.seq .leaf .leaf))) .leaf))))) (.seq .leaf .leaf))))
theorem zzz:Entry Go.Proofs.Tryz.prog 177 zne false:=
 za0 (C:=zzk) (fn:=Go.Proofs.Tryz.f177) (c:=zz3) (an:=zym) trivial trivial Go.Proofs.Tryz.func177 rfl rfl (by decide) (λ_=>rfl) (by intro a K D;kernel_rfl)
noncomputable def za5a:ArgT (Sl×Sl×Unit):=(ArgT.cons (Ty.leaf .sl) (ArgT.cons (Ty.leaf .sl) ArgT.nil))
noncomputable def za5w:Ty Sl:=(Ty.leaf .sl)
noncomputable def zl0:FSem:=mkE za5a za5w (λa=>F.zeh a.1 a.2.1)
noncomputable def za7q:Cfg:={ P:=Go.Proofs.Tryz.prog,n:=67,tab:=[(136,zba)],mutL:=[],rtL:=[],locL:=[] }
noncomputable def za74:Code:=match Go.Proofs.Tryz.f152.body with | some c=>c | none=>.skip
noncomputable def za6i:An:=(.seq .leaf (.seq .leaf (.seq (.seq .leaf (.block (.loop [(6,.leaf (.int .i64))] (.seq (.seq .leaf (.cond .leaf .leaf)) (.seq (.block (.seq .leaf (.seq (.seq .leaf (.block (.loop [(7,.leaf (.int .u64)),(8,.leaf (.int .i64))] (.seq (.seq .leaf (.cond .leaf .leaf)) (.seq (.block (.seq (.draw [0,1,2,3,4,5,6,7,8,9,10,11,12,13,14,15,16,17,18,19,20,21]) (.seq .leaf .leaf))) .leaf))))) .leaf))) .leaf))))) (.seq .leaf .leaf))))
theorem zqr:Entry Go.Proofs.Tryz.prog 152 zl0 false:=
 za0 (C:=za7q) (fn:=Go.Proofs.Tryz.f152) (c:=za74) (an:=za6i) ⟨zbq,trivial⟩ trivial Go.Proofs.Tryz.func152 rfl rfl (by decide) (λ_=>rfl) (by intro a K D;kernel_rfl)
noncomputable def za58:ArgT (Sl×Sl×Unit):=(ArgT.cons (Ty.leaf .sl) (ArgT.cons (Ty.leaf .sl) ArgT.nil))
noncomputable def za5u:Ty Sl:=(Ty.leaf .sl)
noncomputable def zhd:FSem:=mkE za58 za5u (λa=>F.zd1 a.1 a.2.1)
noncomputable def za7o:Cfg:={ P:=Go.Proofs.Tryz.prog,n:=48,tab:=[(136,zba)],mutL:=[],rtL:=[],locL:=[] }
noncomputable def za72:Code:=match Go.Proofs.Tryz.f179.body with | some c=>c | none=>.skip
noncomputable def za6g:An:=(.seq .leaf (.seq .leaf (.seq .leaf (.seq (.seq .leaf (.block (.loop [(6,.leaf (.int .u64)),(7,.leaf (.int .i64))] (.seq (.seq .leaf (.cond .leaf .leaf)) (.seq (.block (.seq .leaf (.join [(8,.leaf (.int .u64))] (.seq .leaf (.cond .leaf .leaf)) (.seq .leaf (.seq .leaf .leaf))))) .leaf))))) (.seq .leaf .leaf)))))
theorem zla:Entry Go.Proofs.Tryz.prog 179 zhd false:=
 za0 (C:=za7o) (fn:=Go.Proofs.Tryz.f179) (c:=za72) (an:=za6g) ⟨zbq,trivial⟩ trivial Go.Proofs.Tryz.func179 rfl rfl (by decide) (λ_=>rfl) (by intro a K D;kernel_rfl)
noncomputable def za57:ArgT (Sl×Sl×Unit):=(ArgT.cons (Ty.leaf .sl) (ArgT.cons (Ty.leaf .sl) ArgT.nil))
noncomputable def za5t:Ty (Int×Sl):=(Ty.tup (.cons (Ty.leaf (.int .u32)) (.cons (Ty.leaf .sl) .nil)) (λx=>(x.1,x.2,())) (λy=>(y.1,y.2.1)) (λ_=>rfl) (λ_=>rfl))
noncomputable def zqj:FSem:=mkE za57 za5t (λa=>F.zkn a.1 a.2.1)
noncomputable def za7n:Cfg:={ P:=Go.Proofs.Tryz.prog,n:=51,tab:=[(152,zl0),(136,zba),(174,zfb),(179,zhd)],mutL:=[],rtL:=[],locL:=[] }
noncomputable def za71:Code:=match Go.Proofs.Tryz.f178.body with | some c=>c | none=>.skip
noncomputable def za6f:An:=(.seq .leaf (.seq .leaf (.seq (.draw [0,1,2,3,4,5,6,7,8,9,10,11,12,13,14,15,16,17,18,19,20]) (.join [(7,.leaf (.int .u64))] (.seq .leaf (.cond .leaf .leaf)) (.seq .leaf (.seq (.block (.loop [(7,.leaf (.int .u64)),(8,.leaf (.sl))] (.seq (.seq .leaf (.cond .leaf .leaf)) (.block (.seq .leaf .leaf))))) (.seq .leaf .leaf)))))))
theorem za8f:Entry Go.Proofs.Tryz.prog 178 zqj false:=
 za0 (C:=za7n) (fn:=Go.Proofs.Tryz.f178) (c:=za71) (an:=za6f) ⟨zqr,zbq,zil,zla,trivial⟩ trivial Go.Proofs.Tryz.func178 rfl rfl (by decide) (λ_=>rfl) (by intro a K D;kernel_rfl)
noncomputable def za9i:ArgT (Sl×Int×Unit):=(ArgT.cons (Ty.leaf .sl) (ArgT.cons (Ty.leaf (.int .i64)) ArgT.nil))
noncomputable def za9t:Ty Sl:=(Ty.leaf .sl)
noncomputable def zu9:FSem:=mkE za9i za9t (λa=>F.zmu a.1 a.2.1)
noncomputable def zaas:Cfg:={ P:=Go.Proofs.Tryz.prog,n:=45,tab:=[(136,zba)],mutL:=[],rtL:=[],locL:=[] }
noncomputable def zaaf:Code:=match Go.Proofs.Tryz.f180.body with | some c=>c | none=>.skip
noncomputable def zaa4:An:=(.seq .leaf (.seq .leaf (.seq (.seq .leaf (.block (.loop [(6,.leaf (.int .i64))] (.seq (.seq .leaf (.cond .leaf .leaf)) (.seq (.block (.seq .leaf (.join [(7,.leaf (.int .u64))] (.seq .leaf (.cond .leaf .leaf)) .leaf))) .leaf))))) (.seq .leaf .leaf))))
theorem zac9:Entry Go.Proofs.Tryz.prog 180 zu9 false:=
 za0 (C:=zaas) (fn:=Go.Proofs.Tryz.f180) (c:=zaaf) (an:=zaa4) ⟨zbq,trivial⟩ trivial Go.Proofs.Tryz.func180 rfl rfl (by decide) (λ_=>rfl) (by intro a K D;kernel_rfl)
noncomputable def za0z:ArgT (Sl×Sl×Unit):=(ArgT.cons (Ty.leaf .sl) (ArgT.cons (Ty.leaf .sl) ArgT.nil))
noncomputable def za1i:Ty (Sl×Sl):=(Ty.tup (.cons (Ty.leaf .sl) (.cons (Ty.leaf .sl) .nil)) (λx=>(x.1,x.2,())) (λy=>(y.1,y.2.1)) (λ_=>rfl) (λ_=>rfl))
noncomputable def zjp:FSem:=mkE za0z za1i (λa=>F.zey a.1 a.2.1)
noncomputable def za33:Cfg:={ P:=Go.Proofs.Tryz.prog,n:=128,tab:=[(174,zfb),(175,zqk),(147,zl1),(176,za3l),(135,zoc),(177,zne),(136,zba),(178,zqj),(179,zhd),(180,zu9)],mutL:=[],rtL:=[],locL:=[] }
noncomputable def za2j:Code:=match Go.Proofs.Tryz.f149.body with | some c=>c | none=>.skip
noncomputable def za20:An:=(.seq .leaf (.seq (.seq .leaf (.cond (.seq .leaf .leaf) .leaf)) (.seq (.seq .leaf (.cond (.seq .leaf (.seq (.draw [0,1,2,4,5,6,3,7,8,9]) .leaf)) .leaf)) (.seq (.seq .leaf (.cond (.seq .leaf (.seq .leaf .leaf)) .leaf)) (.seq .leaf (.seq .leaf (.seq .leaf (.seq (.seq .leaf (.block (.loop [(14,.leaf (.int .i64))] (.seq (.seq .leaf (.cond .leaf .leaf)) (.seq (.block (.seq .leaf (.seq .leaf (.seq .leaf (.seq .leaf (.seq .leaf (.block (.loop [(19,.leaf (.int .i64))] (.seq (.seq .leaf (.cond .leaf .leaf)) (.join [] (.block (.seq .leaf (.seq .leaf (.cond .leaf .leaf)))) .leaf)))))))))) .leaf))))) (.seq .leaf .leaf)))))))))
theorem zp5:Entry Go.Proofs.Tryz.prog 149 zjp false:=
 za0 (C:=za33) (fn:=Go.Proofs.Tryz.f149) (c:=za2j) (an:=za20) ⟨zil,za8g,zqs,zais,za4s,zzz,zbq,za8f,zla,zac9,trivial⟩ trivial Go.Proofs.Tryz.func149 rfl rfl (by decide) (λ_=>rfl) (by intro a K D;kernel_rfl)
noncomputable def zacm:ArgT (TInt×TInt×Unit):=(ArgT.cons tyTInt (ArgT.cons tyTInt ArgT.nil))
noncomputable def zad4:Ty TInt:=tyTInt
noncomputable def zkh:FSem:=mkE zacm zad4 (λa=>F.zex a.1 a.2.1)
noncomputable def zaej:Cfg:={ P:=Go.Proofs.Tryz.prog,n:=28,tab:=[(136,zba),(149,zjp),(146,zc0)],mutL:=[],rtL:=[(9,2),(12,3)],locL:=[2,3,4] }
noncomputable def zae4:Code:=match Go.Proofs.Tryz.f90.body with | some c=>c | none=>.skip
noncomputable def zadk:An:=(.seq .leaf (.seq (.draw [0,1,3,4,2,5,6,7]) (.seq (.block (.loop [(5,.leaf (.sl)),(6,.leaf (.sl))] (.seq (.seq .leaf (.cond .leaf .leaf)) (.block (.seq .leaf .leaf))))) (.seq .leaf .leaf))))
theorem zp4:Entry Go.Proofs.Tryz.prog 90 zkh false:=
 za0 (C:=zaej) (fn:=Go.Proofs.Tryz.f90) (c:=zae4) (an:=zadk) ⟨zbq,zp5,zcm,trivial⟩ trivial Go.Proofs.Tryz.func90 rfl rfl (by decide) (λ_=>rfl) (by intro a K D;kernel_rfl)
noncomputable def za9g:ArgT (TInt×Unit):=(ArgT.cons tyTInt ArgT.nil)
noncomputable def za9r:Ty TInt:=tyTInt
noncomputable def zg3:FSem:=mkE za9g za9r (λa=>F.zci a.1)
noncomputable def zaaq:Cfg:={ P:=Go.Proofs.Tryz.prog,n:=8,tab:=[(146,zc0)],mutL:=[],rtL:=[(3,1),(5,1)],locL:=[1,2] }
noncomputable def zaad:Code:=match Go.Proofs.Tryz.f148.body with | some c=>c | none=>.skip
noncomputable def zaa2:An:=(.seq .leaf (.seq .leaf .leaf))
theorem zix:Entry Go.Proofs.Tryz.prog 148 zg3 false:=
 za0 (C:=zaaq) (fn:=Go.Proofs.Tryz.f148) (c:=zaad) (an:=zaa2) ⟨zcm,trivial⟩ trivial Go.Proofs.Tryz.func148 rfl rfl (by decide) (λ_=>rfl) (by intro a K D;kernel_rfl)
noncomputable def zacn:ArgT (TInt×TInt×Unit):=(ArgT.cons tyTInt (ArgT.cons tyTInt ArgT.nil))
noncomputable def zad5:Ty TInt:=tyTInt
noncomputable def zhw:FSem:=mkE zacn zad5 (λa=>F.zbw a.1 a.2.1)
noncomputable def zaek:Cfg:={ P:=Go.Proofs.Tryz.prog,n:=20,tab:=[(148,zg3),(152,zl0),(146,zc0)],mutL:=[],rtL:=[(9,2),(11,3),(14,2),(16,3)],locL:=[2,3,4] }
noncomputable def zae5:Code:=match Go.Proofs.Tryz.f91.body with | some c=>c | none=>.skip
noncomputable def zadl:An:=(.seq .leaf (.seq (.draw [0,2,1,3,4,5]) (.seq (.draw [0,1,2,3,4,5,6,7,8,9,10,11]) .leaf)))
theorem zkw:Entry Go.Proofs.Tryz.prog 91 zhw false:=
 za0 (C:=zaek) (fn:=Go.Proofs.Tryz.f91) (c:=zae5) (an:=zadl) ⟨zix,zqr,zcm,trivial⟩ trivial Go.Proofs.Tryz.func91 rfl rfl (by decide) (λ_=>rfl) (by intro a K D;kernel_rfl)
noncomputable def zaco:ArgT (TInt×Unit):=(ArgT.cons tyTInt ArgT.nil)
noncomputable def zad6:Ty TInt:=tyTInt
noncomputable def zoa:FSem:=mkE zaco zad6 (λa=>F.zm0 a.1)
noncomputable def zael:Cfg:={ P:=Go.Proofs.Tryz.prog,n:=9,tab:=[(146,zc0)],mutL:=[],rtL:=[(3,1),(6,1)],locL:=[1,2] }
noncomputable def zae6:Code:=match Go.Proofs.Tryz.f93.body with | some c=>c | none=>.skip
noncomputable def zadm:An:=(.seq .leaf (.seq .leaf .leaf))
theorem zx8:Entry Go.Proofs.Tryz.prog 93 zoa false:=
 za0 (C:=zael) (fn:=Go.Proofs.Tryz.f93) (c:=zae6) (an:=zadm) ⟨zcm,trivial⟩ trivial Go.Proofs.Tryz.func93 rfl rfl (by decide) (λ_=>rfl) (by intro a K D;kernel_rfl)
noncomputable def za9j:ArgT (Sl×Sl×Unit):=(ArgT.cons (Ty.leaf .sl) (ArgT.cons (Ty.leaf .sl) ArgT.nil))
noncomputable def za9u:Ty Sl:=(Ty.leaf .sl)
noncomputable def zua:FSem:=mkE za9j za9u (λa=>F.zk0 a.1 a.2.1)
noncomputable def zaat:Cfg:={ P:=Go.Proofs.Tryz.prog,n:=58,tab:=[(136,zba)],mutL:=[],rtL:=[],locL:=[] }
noncomputable def zaag:Code:=match Go.Proofs.Tryz.f181.body with | some c=>c | none=>.skip
noncomputable def zaa5:An:=(.seq .leaf (.join [(0,.leaf (.sl)),(1,.leaf (.sl))] (.seq .leaf (.cond .leaf .leaf)) (.seq .leaf (.seq .leaf (.seq (.seq .leaf (.block (.loop [(6,.leaf (.int .u64)),(7,.leaf (.int .i64))] (.seq (.seq .leaf (.cond .leaf .leaf)) (.seq (.block (.seq .leaf (.join [(6,.leaf (.int .u64))] (.seq .leaf (.cond .leaf .leaf)) (.seq .leaf .leaf)))) .leaf))))) (.seq .leaf (.seq .leaf .leaf)))))))
theorem zaca:Entry Go.Proofs.Tryz.prog 181 zua false:=
 za0 (C:=zaat) (fn:=Go.Proofs.Tryz.f181) (c:=zaag) (an:=zaa5) ⟨zbq,trivial⟩ trivial Go.Proofs.Tryz.func181 rfl rfl (by decide) (λ_=>rfl) (by intro a K D;kernel_rfl)
noncomputable def zack:ArgT (TInt×TInt×Unit):=(ArgT.cons tyTInt (ArgT.cons tyTInt ArgT.nil))
noncomputable def zad2:Ty TInt:=tyTInt
noncomputable def zkg:FSem:=mkE zack zad2 (λa=>F.zfn a.1 a.2.1)
noncomputable def zaeh:Cfg:={ P:=Go.Proofs.Tryz.prog,n:=44,tab:=[(148,zg3),(181,zua),(146,zc0),(174,zfb),(179,zhd)],mutL:=[],rtL:=[(9,2),(11,3),(14,2),(16,2),(18,3),(22,2),(24,3),(28,2),(30,2),(32,3),(36,3),(38,3),(40,2)],locL:=[2,3,4] }
noncomputable def zae2:Code:=match Go.Proofs.Tryz.f151.body with | some c=>c | none=>.skip
noncomputable def zadi:An:=(.seq .leaf (.seq (.draw [0,2,1,3,4,5]) (.seq (.seq .leaf (.cond (.seq (.draw [0,1,2,3,4,5,6,7,8]) .leaf) .leaf)) (.seq (.seq .leaf (.cond (.seq (.draw [0,1,2,3,4,5,6,7,8]) .leaf) .leaf)) (.seq (.draw [0,1,2,3,4,5,6,7,8]) .leaf)))))
theorem zp3:Entry Go.Proofs.Tryz.prog 151 zkg false:=
 za0 (C:=zaeh) (fn:=Go.Proofs.Tryz.f151) (c:=zae2) (an:=zadi) ⟨zix,zaca,zcm,zil,zla,trivial⟩ trivial Go.Proofs.Tryz.func151 rfl rfl (by decide) (λ_=>rfl) (by intro a K D;kernel_rfl)
noncomputable def zacp:ArgT (TInt×TInt×Unit):=(ArgT.cons tyTInt (ArgT.cons tyTInt ArgT.nil))
noncomputable def zad7:Ty TInt:=tyTInt
noncomputable def zob:FSem:=mkE zacp zad7 (λa=>F.zj4 a.1 a.2.1)
noncomputable def zaem:Cfg:={ P:=Go.Proofs.Tryz.prog,n:=9,tab:=[(93,zoa),(151,zkg)],mutL:=[],rtL:=[],locL:=[2,3,4] }
noncomputable def zae7:Code:=match Go.Proofs.Tryz.f150.body with | some c=>c | none=>.skip
noncomputable def zadn:An:=(.seq .leaf (.seq (.draw [0,1,2,3,4]) .leaf))
theorem zx9:Entry Go.Proofs.Tryz.prog 150 zob false:=
 za0 (C:=zaem) (fn:=Go.Proofs.Tryz.f150) (c:=zae7) (an:=zadn) ⟨zx8,zp3,trivial⟩ trivial Go.Proofs.Tryz.func150 rfl rfl (by decide) (λ_=>rfl) (by intro a K D;kernel_rfl)
noncomputable def za9h:ArgT (TInt×Unit):=(ArgT.cons tyTInt ArgT.nil)
noncomputable def za9s:Ty Int:=(Ty.leaf (.int .i64))
noncomputable def zg4:FSem:=mkE za9h za9s (λa=>F.zdw a.1)
noncomputable def zaar:Cfg:={ P:=Go.Proofs.Tryz.prog,n:=11,tab:=[(148,zg3)],mutL:=[],rtL:=[(5,1),(9,1)],locL:=[1] }
noncomputable def zaae:Code:=match Go.Proofs.Tryz.f92.body with | some c=>c | none=>.skip
noncomputable def zaa3:An:=(.seq .leaf (.seq .leaf (.seq (.seq .leaf (.cond (.seq .leaf .leaf) .leaf)) (.seq (.seq .leaf (.cond (.seq .leaf .leaf) .leaf)) (.seq .leaf .leaf)))))
theorem ziy:Entry Go.Proofs.Tryz.prog 92 zg4 false:=
 za0 (C:=zaar) (fn:=Go.Proofs.Tryz.f92) (c:=zaae) (an:=zaa3) ⟨zix,trivial⟩ trivial Go.Proofs.Tryz.func92 rfl rfl (by decide) (λ_=>rfl) (by intro a K D;kernel_rfl)
noncomputable def za0y:ArgT (TInt×TInt×Unit):=(ArgT.cons tyTInt (ArgT.cons tyTInt ArgT.nil))
noncomputable def za1h:Ty (TInt×TInt×Int):=(Ty.tup (.cons tyTInt (.cons tyTInt (.cons (Ty.leaf (.int .i64)) .nil))) (λx=>(x.1,x.2.1,x.2.2,())) (λy=>(y.1,y.2.1,y.2.2.1)) (λ_=>rfl) (λ_=>rfl))
noncomputable def zo9:FSem:=mkE za0y za1h (λa=>F.ziv a.1 a.2.1)
noncomputable def za32:Cfg:={ P:=Go.Proofs.Tryz.prog,n:=55,tab:=[(148,zg3),(149,zjp),(146,zc0),(91,zhw),(150,zob),(92,zg4),(88,zig),(151,zkg)],mutL:=[],rtL:=[(15,3),(22,2),(24,3),(29,2),(31,3)],locL:=[2,3,4,5,9,10] }
noncomputable def za2i:Code:=match Go.Proofs.Tryz.f89.body with | some c=>c | none=>.skip
noncomputable def za1z:An:=(.seq .leaf (.seq (.draw [0,2,1,3,4,5]) (.seq (.seq .leaf (.cond (.seq .leaf .leaf) .leaf)) (.seq .leaf (.seq .leaf (.seq (.draw [0,1,2,5,3,4,6]) (.join [(9,.box [.bool,.sl]),(10,.box [.bool,.sl])] (.seq (.draw [0,2,1,3,4,5]) (.cond (.seq (.draw [0,1,2,3]) .leaf) .leaf)) (.seq (.draw [0,1,2,3,4]) .leaf))))))))
theorem za4r:Entry Go.Proofs.Tryz.prog 89 zo9 false:=
 za0 (C:=za32) (fn:=Go.Proofs.Tryz.f89) (c:=za2i) (an:=za1z) ⟨zix,zp5,zcm,zkw,zx9,ziy,znk,zp3,trivial⟩ trivial Go.Proofs.Tryz.func89 rfl rfl (by decide) (λ_=>rfl) (by intro a K D;kernel_rfl)
noncomputable def zacv:ArgT (TInt×TInt×Unit):=(ArgT.cons tyTInt (ArgT.cons tyTInt ArgT.nil))
noncomputable def zade:Ty TInt:=tyTInt
noncomputable def zod:FSem:=mkE zacv zade (λa=>F.zdl a.1 a.2.1)
noncomputable def zaes:Cfg:={ P:=Go.Proofs.Tryz.prog,n:=16,tab:=[(89,zo9)],mutL:=[],rtL:=[],locL:=[2,3,4,5,6] }
noncomputable def zaed:Code:=match Go.Proofs.Tryz.f134.body with | some c=>c | none=>.skip
noncomputable def zadt:An:=(.seq .leaf (.seq .leaf (.seq .leaf .leaf)))
theorem zxa:Entry Go.Proofs.Tryz.prog 134 zod false:=
 za0 (C:=zaes) (fn:=Go.Proofs.Tryz.f134) (c:=zaed) (an:=zadt) ⟨za4r,trivial⟩ trivial Go.Proofs.Tryz.func134 rfl rfl (by decide) (λ_=>rfl) (by intro a K D;kernel_rfl)
noncomputable def zgu:ArgT (Sl×Unit):=(ArgT.cons (Ty.leaf .sl) ArgT.nil)
noncomputable def zgv:Ty Sl:=(Ty.leaf .sl)
noncomputable def zdg:FSem:=mkE zgu zgv (λa=>F.zbb a.1)
noncomputable def zgy:Cfg:={ P:=Go.Proofs.Tryz.prog,n:=8,tab:=[],mutL:=[],rtL:=[],locL:=[] }
noncomputable def zgx:Code:=match Go.Proofs.Tryz.f104.body with | some c=>c | none=>.skip
noncomputable def zgw:An:=(.seq .leaf (.seq (.seq .leaf (.cond (.seq .leaf .leaf) .leaf)) (.seq .leaf .leaf)))
theorem zha:Entry Go.Proofs.Tryz.prog 104 zdg false:=
 za0 (C:=zgy) (fn:=Go.Proofs.Tryz.f104) (c:=zgx) (an:=zgw) trivial trivial Go.Proofs.Tryz.func104 rfl rfl (by decide) (λ_=>rfl) (by intro a K D;kernel_rfl)
noncomputable def za0p:ArgT (Sl×Unit):=(ArgT.cons (Ty.leaf .sl) ArgT.nil)
noncomputable def za18:Ty Sl:=(Ty.leaf .sl)
noncomputable def zah:FSem:=mkE za0p za18 (λa=>F.za8 a.1)
noncomputable def za2t:Cfg:={ P:=Go.Proofs.Tryz.prog,n:=21,tab:=[],mutL:=[],rtL:=[],locL:=[] }
noncomputable def za29:Code:=match Go.Proofs.Tryz.f139.body with | some c=>c | none=>.skip
noncomputable def za1q:An:=(.seq .leaf (.seq (.block (.loop [(0,.leaf (.sl))] (.join [] (.seq .leaf (.cond .leaf .leaf)) (.block .leaf)))) (.seq .leaf .leaf)))
theorem zam:Entry Go.Proofs.Tryz.prog 139 zah false:=
 za0 (C:=za2t) (fn:=Go.Proofs.Tryz.f139) (c:=za29) (an:=za1q) trivial trivial Go.Proofs.Tryz.func139 rfl rfl (by decide) (λ_=>rfl) (by intro a K D;kernel_rfl)
end Den
end

section
namespace Den
open Go Go.RowKit Go.Shelf
open Go.Proofs
attribute [local go_sem] Oper.semAt_some
set_option maxRecDepth 100000 in
set_option maxHeartbeats 2000000 in
theorem zapa:BackFn Tryz.prog 189 (.leaf (.int .u32)):=by
 refine⟨enters_of Tryz.func189 (by kernel_rfl) rfl,?_⟩
 rintro l ab ⟨xa,xl,xc⟩ J w hxl h0 hbox hround
 simp only at hxl h0 hbox hround
 have hb0:=hbox _ _ h0
 refine callsIn_of_wp Tryz.func189 rfl trivial ?_ rfl
 simp only[Tryz.ntmps189,List.size_toArray,List.length_cons,List.length_nil,Nat.reduceAdd,Nat.reduceSub,Array.replicate_succ,Array.replicate_zero,List.push_toArray,List.append_toArray,List.nil_append,List.cons_append]
 gi_wp2
 gi_loopw [3] (λi wr=>∃k:Nat,k<=xl/\i=.int .i64 ((k:Int)-1)/\J k wr) (λi _=>(RowKit.intOf i+1).toNat)
 case atStart=>exact⟨xl,Nat.le_refl _,rfl,h0⟩
 case round=>
  obtain⟨k,hk,rfl,hJ⟩:=hrel
  have hbx:=hbox _ _ hJ
  cases k with
  | zero=>
    gi_wp2
    go_end0
    exact⟨⟨_,rfl⟩,hJ⟩
  | succ j=>
    obtain⟨ad,v,hxa,hcells,f,tmps1,asg,body,hy,hR⟩:=hround j wr (by omega) hJ
    subst hxa
    have hc0:wr.cell? (ad.add j)=some (.int .u32 v):=by
     have:=hcells 0 (.int .u32 v) rfl
     simpa [STy.size] using this
    have hkj:(((j+1:Nat):Int)-1)=(j:Int):=by omega
    rw[hkj]
    simp only[STy.val,Lf.up]at hy
    gi_wp2
    refine⟨rfl,hR.mono ?_⟩
    rintro e W3 ⟨rfl,hJ3⟩
    gi_wp2
    go_roundw
    case rel=>exact⟨j,by omega,by simp,hJ3⟩
    case measure=>simp[RowKit.intOf]
end Den
end

section
set_option maxRecDepth 100000
namespace Den
open Go
noncomputable def za0n:ArgT (TInt×Unit):=(ArgT.cons tyTInt ArgT.nil)
noncomputable def za16:Ty Int:=(Ty.leaf (.int .i64))
noncomputable def zji:FSem:=mkE za0n za16 (λa=>F.zdq a.1)
noncomputable def za2r:Cfg:={ P:=Go.Proofs.Tryz.prog,n:=12,tab:=[(139,zah)],mutL:=[],rtL:=[(4,1),(10,1)],locL:=[1] }
noncomputable def za27:Code:=match Go.Proofs.Tryz.f153.body with | some c=>c | none=>.skip
noncomputable def za1o:An:=(.seq .leaf (.seq (.block (.seq .leaf (.cond (.seq .leaf .leaf) (.seq .leaf (.cond (.seq .leaf .leaf) .leaf))))) (.seq .leaf .leaf)))
theorem zox:Entry Go.Proofs.Tryz.prog 153 zji false:=
 za0 (C:=za2r) (fn:=Go.Proofs.Tryz.f153) (c:=za27) (an:=za1o) ⟨zam,trivial⟩ trivial Go.Proofs.Tryz.func153 rfl rfl (by decide) (λ_=>rfl) (by intro a K D;kernel_rfl)
noncomputable def zxn:ArgT (TRat×Unit):=(ArgT.cons tyTRat ArgT.nil)
noncomputable def zy3:Ty Int:=(Ty.leaf (.int .i64))
noncomputable def ze2:FSem:=mkE zxn zy3 (λa=>F.zcc a.1)
noncomputable def zzh:Cfg:={ P:=Go.Proofs.Tryz.prog,n:=6,tab:=[(153,zji)],mutL:=[],rtL:=[(3,1)],locL:=[1] }
noncomputable def zz0:Code:=match Go.Proofs.Tryz.f96.body with | some c=>c | none=>.skip
noncomputable def zyj:An:=(.seq .leaf (.seq .leaf .leaf))
theorem zff:Entry Go.Proofs.Tryz.prog 96 ze2 false:=
 za0 (C:=zzh) (fn:=Go.Proofs.Tryz.f96) (c:=zz0) (an:=zyj) ⟨zox,trivial⟩ trivial Go.Proofs.Tryz.func96 rfl rfl (by decide) (λ_=>rfl) (by intro a K D;kernel_rfl)
noncomputable def zsz:ArgT (Sl×Unit):=(ArgT.cons (Ty.leaf .sl) ArgT.nil)
noncomputable def zt9:Ty Sl:=(Ty.leaf .sl)
noncomputable def zc5:FSem:=mkE zsz zt9 (λa=>F.zav a.1)
noncomputable def zu5:Cfg:={ P:=Go.Proofs.Tryz.prog,n:=23,tab:=[(104,zdg),(96,ze2)],mutL:=[],rtL:=[],locL:=[] }
noncomputable def ztu:Code:=match Go.Proofs.Tryz.f38.body with | some c=>c | none=>.skip
noncomputable def ztj:An:=(.seq .leaf (.seq .leaf (.join [(3,.leaf (.int .i64))] (.block (.loop [(3,.leaf (.int .i64))] (.join [] (.seq .leaf (.cond .leaf .leaf)) (.block .leaf)))) (.seq .leaf .leaf))))
theorem zd4:Entry Go.Proofs.Tryz.prog 38 zc5 false:=
 za0 (C:=zu5) (fn:=Go.Proofs.Tryz.f38) (c:=ztu) (an:=ztj) ⟨zha,zff,trivial⟩ trivial Go.Proofs.Tryz.func38 rfl rfl (by decide) (λ_=>rfl) (by intro a K D;kernel_rfl)
noncomputable def zpq:ArgT (Sl×Unit):=(ArgT.cons (Ty.leaf .sl) ArgT.nil)
noncomputable def zpv:Ty Int:=(Ty.leaf (.int .i64))
noncomputable def zf2:FSem:=mkE zpq zpv (λa=>F.zcx a.1)
noncomputable def zq7:Cfg:={ P:=Go.Proofs.Tryz.prog,n:=7,tab:=[(38,zc5)],mutL:=[],rtL:=[],locL:=[] }
noncomputable def zq3:Code:=match Go.Proofs.Tryz.f39.body with | some c=>c | none=>.skip
noncomputable def zpz:An:=(.seq .leaf (.seq .leaf .leaf))
theorem zio:Entry Go.Proofs.Tryz.prog 39 zf2 false:=
 za0 (C:=zq7) (fn:=Go.Proofs.Tryz.f39) (c:=zq3) (an:=zpz) ⟨zd4,trivial⟩ trivial Go.Proofs.Tryz.func39 rfl rfl (by decide) (λ_=>rfl) (by intro a K D;kernel_rfl)
noncomputable def zqy:ArgT (Int×Unit):=(ArgT.cons (Ty.leaf (.int .u64)) ArgT.nil)
noncomputable def zr7:Ty Sl:=(Ty.leaf .sl)
noncomputable def zcf:FSem:=mkE zqy zr7 (λa=>F.zaw a.1)
noncomputable def zs0:Cfg:={ P:=Go.Proofs.Tryz.prog,n:=10,tab:=[(139,zah)],mutL:=[],rtL:=[],locL:=[] }
noncomputable def zrp:Code:=match Go.Proofs.Tryz.f138.body with | some c=>c | none=>.skip
noncomputable def zrg:An:=(.seq .leaf (.seq .leaf .leaf))
theorem zdy:Entry Go.Proofs.Tryz.prog 138 zcf false:=
 za0 (C:=zs0) (fn:=Go.Proofs.Tryz.f138) (c:=zrp) (an:=zrg) ⟨zam,trivial⟩ trivial Go.Proofs.Tryz.func138 rfl rfl (by decide) (λ_=>rfl) (by intro a K D;kernel_rfl)
noncomputable def zv6:ArgT (Bool×Sl×Unit):=(ArgT.cons (Ty.leaf .bool) (ArgT.cons (Ty.leaf .sl) ArgT.nil))
noncomputable def zvc:Ty TInt:=tyTInt
noncomputable def zbe:FSem:=mkE zv6 zvc (λa=>F.zaf a.1 a.2.1)
noncomputable def zvv:Cfg:={ P:=Go.Proofs.Tryz.prog,n:=14,tab:=[(139,zah)],mutL:=[],rtL:=[],locL:=[4] }
noncomputable def zvp:Code:=match Go.Proofs.Tryz.f137.body with | some c=>c | none=>.skip
noncomputable def zvj:An:=(.seq .leaf (.seq .leaf (.seq (.seq .leaf (.cond (.seq .leaf .leaf) .leaf)) (.seq .leaf .leaf))))
theorem zbx:Entry Go.Proofs.Tryz.prog 137 zbe false:=
 za0 (C:=zvv) (fn:=Go.Proofs.Tryz.f137) (c:=zvp) (an:=zvj) ⟨zam,trivial⟩ trivial Go.Proofs.Tryz.func137 rfl rfl (by decide) (λ_=>rfl) (by intro a K D;kernel_rfl)
noncomputable def zst:ArgT (Int×Unit):=(ArgT.cons (Ty.leaf (.int .i64)) ArgT.nil)
noncomputable def zt3:Ty TInt:=tyTInt
noncomputable def ze9:FSem:=mkE zst zt3 (λa=>F.zc8 a.1)
noncomputable def ztz:Cfg:={ P:=Go.Proofs.Tryz.prog,n:=15,tab:=[(138,zcf),(137,zbe)],mutL:=[],rtL:=[],locL:=[2] }
noncomputable def zto:Code:=match Go.Proofs.Tryz.f84.body with | some c=>c | none=>.skip
noncomputable def ztd:An:=(.seq .leaf (.seq .leaf (.join [(3,.leaf (.int .u64))] (.seq .leaf (.cond .leaf .leaf)) (.seq .leaf .leaf))))
theorem zgf:Entry Go.Proofs.Tryz.prog 84 ze9 false:=
 za0 (C:=ztz) (fn:=Go.Proofs.Tryz.f84) (c:=zto) (an:=ztd) ⟨zdy,zbx,trivial⟩ trivial Go.Proofs.Tryz.func84 rfl rfl (by decide) (λ_=>rfl) (by intro a K D;kernel_rfl)
noncomputable def za0w:ArgT (Unit):=ArgT.nil
noncomputable def za1f:Ty TInt:=tyTInt
noncomputable def zg2:FSem:=mkE za0w za1f (λa=>F.zew )
noncomputable def za30:Cfg:={ P:=Go.Proofs.Tryz.prog,n:=2,tab:=[(84,ze9)],mutL:=[],rtL:=[],locL:=[0] }
noncomputable def za2g:Code:=match Go.Proofs.Tryz.f129.body with | some c=>c | none=>.skip
noncomputable def za1x:An:=(.seq .leaf (.seq .leaf .leaf))
theorem zk4:Entry Go.Proofs.Tryz.prog 129 zg2 false:=
 za0 (C:=za30) (fn:=Go.Proofs.Tryz.f129) (c:=za2g) (an:=za1x) ⟨zgf,trivial⟩ trivial Go.Proofs.Tryz.func129 rfl rfl (by decide) (λ_=>rfl) (by intro a K D;kernel_rfl)
noncomputable def zr5:ArgT (Int×Unit):=(ArgT.cons (Ty.leaf (.int .i64)) ArgT.nil)
noncomputable def zre:Ty TRat:=tyTRat
noncomputable def zb0:FSem:=mkE zr5 zre (λa=>F.zal a.1)
noncomputable def zs7:Cfg:={ P:=Go.Proofs.Tryz.prog,n:=7,tab:=[(84,ze9),(129,zg2)],mutL:=[],rtL:=[],locL:=[2] }
noncomputable def zrw:Code:=match Go.Proofs.Tryz.f79.body with | some c=>c | none=>.skip
noncomputable def zrn:An:=(.seq .leaf (.seq .leaf .leaf))
theorem zbd:Entry Go.Proofs.Tryz.prog 79 zb0 false:=
 za0 (C:=zs7) (fn:=Go.Proofs.Tryz.f79) (c:=zrw) (an:=zrn) ⟨zgf,zk4,trivial⟩ trivial Go.Proofs.Tryz.func79 rfl rfl (by decide) (λ_=>rfl) (by intro a K D;kernel_rfl)
noncomputable def zsx:ArgT (Int×Int×Unit):=(ArgT.cons (Ty.leaf (.int .u64)) (ArgT.cons (Ty.leaf (.int .u64)) ArgT.nil))
noncomputable def zt7:Ty (Int×Int):=(Ty.tup (.cons (Ty.leaf (.int .u64)) (.cons (Ty.leaf (.int .u64)) .nil)) (λx=>(x.1,x.2,())) (λy=>(y.1,y.2.1)) (λ_=>rfl) (λ_=>rfl))
noncomputable def zke:FSem:=mkE zsx zt7 (λa=>F.zih a.1 a.2.1)
noncomputable def zu3:Cfg:={ P:=Go.Proofs.Tryz.prog,n:=51,tab:=[],mutL:=[],rtL:=[],locL:=[] }
noncomputable def zts:Code:=match Go.Proofs.Tryz.f186.body with | some c=>c | none=>.skip
noncomputable def zth:An:=(.seq .leaf (.seq .leaf (.seq .leaf (.seq .leaf (.seq .leaf (.seq .leaf (.seq .leaf (.seq .leaf (.seq .leaf (.seq .leaf (.seq .leaf (.seq .leaf .leaf))))))))))))
theorem zuy:Entry Go.Proofs.Tryz.prog 186 zke false:=
 za0 (C:=zu3) (fn:=Go.Proofs.Tryz.f186) (c:=zts) (an:=zth) trivial trivial Go.Proofs.Tryz.func186 rfl rfl (by decide) (λ_=>rfl) (by intro a K D;kernel_rfl)
noncomputable def zxk:ArgT (Int×Int×Unit):=(ArgT.cons (Ty.leaf (.int .u64)) (ArgT.cons (Ty.leaf (.int .u64)) ArgT.nil))
noncomputable def zy0:Ty (Int×Int):=(Ty.tup (.cons (Ty.leaf (.int .u64)) (.cons (Ty.leaf (.int .u64)) .nil)) (λx=>(x.1,x.2,())) (λy=>(y.1,y.2.1)) (λ_=>rfl) (λ_=>rfl))
noncomputable def znb:FSem:=mkE zxk zy0 (λa=>F.zhg a.1 a.2.1)
noncomputable def zze:Cfg:={ P:=Go.Proofs.Tryz.prog,n:=30,tab:=[(186,zke)],mutL:=[],rtL:=[],locL:=[] }
noncomputable def zyx:Code:=match Go.Proofs.Tryz.f162.body with | some c=>c | none=>.skip
noncomputable def zyg:An:=(.seq .leaf (.seq (.cond (.seq .leaf (.seq .leaf .leaf)) .leaf) (.seq .leaf (.seq .leaf .leaf))))
theorem zzw:Entry Go.Proofs.Tryz.prog 162 znb false:=
 za0 (C:=zze) (fn:=Go.Proofs.Tryz.f162) (c:=zyx) (an:=zyg) ⟨zuy,trivial⟩ trivial Go.Proofs.Tryz.func162 rfl rfl (by decide) (λ_=>rfl) (by intro a K D;kernel_rfl)
noncomputable def zgj:ArgT (Sl×Int×Unit):=(ArgT.cons (Ty.leaf .sl) (ArgT.cons (Ty.leaf (.int .i64)) ArgT.nil))
noncomputable def zgl:Ty Sl:=(Ty.leaf .sl)
noncomputable def zdb:FSem:=mkE zgj zgl (λa=>F.zb7 a.1 a.2.1)
noncomputable def zgr:Cfg:={ P:=Go.Proofs.Tryz.prog,n:=48,tab:=[(162,znb)],mutL:=[],rtL:=[],locL:=[] }
noncomputable def zgp:Code:=match Go.Proofs.Tryz.f126.body with | some c=>c | none=>.skip
noncomputable def zgn:An:=(.seq .leaf (.join [] (.seq .leaf (.cond .leaf .leaf)) (.seq .leaf (.join [] (.seq .leaf (.cond .leaf .leaf)) (.seq .leaf (.seq .leaf (.seq (.block (.loop [(8,.leaf (.int .i64))] (.seq (.seq .leaf (.cond .leaf .leaf)) (.block (.draw [0,1,2,3,4,5,6,7,8,9]))))) (.seq .leaf .leaf))))))))
theorem zgt:Entry Go.Proofs.Tryz.prog 126 zdb false:=
 za0 (C:=zgr) (fn:=Go.Proofs.Tryz.f126) (c:=zgp) (an:=zgn) ⟨zzw,trivial⟩ trivial Go.Proofs.Tryz.func126 rfl rfl (by decide) (λ_=>rfl) (by intro a K D;kernel_rfl)
noncomputable def zr4:ArgT (Int×Unit):=(ArgT.cons (Ty.leaf (.int .i64)) ArgT.nil)
noncomputable def zrd:Ty Sl:=(Ty.leaf .sl)
noncomputable def zjm:FSem:=mkE zr4 zrd (λa=>F.zet a.1)
noncomputable def zs6:Cfg:={ P:=Go.Proofs.Tryz.prog,n:=7,tab:=[(79,zb0),(126,zdb)],mutL:=[],rtL:=[],locL:=[] }
noncomputable def zrv:Code:=match Go.Proofs.Tryz.f73.body with | some c=>c | none=>.skip
noncomputable def zrm:An:=(.seq .leaf (.seq .leaf .leaf))
theorem zsq:Entry Go.Proofs.Tryz.prog 73 zjm false:=
 za0 (C:=zs6) (fn:=Go.Proofs.Tryz.f73) (c:=zrv) (an:=zrm) ⟨zbd,zgt,trivial⟩ trivial Go.Proofs.Tryz.func73 rfl rfl (by decide) (λ_=>rfl) (by intro a K D;kernel_rfl)
noncomputable def zt0:ArgT (TInt×Unit):=(ArgT.cons tyTInt ArgT.nil)
noncomputable def zta:Ty Bool:=(Ty.leaf .bool)
noncomputable def zg1:FSem:=mkE zt0 zta (λa=>F.ze5 a.1)
noncomputable def zu6:Cfg:={ P:=Go.Proofs.Tryz.prog,n:=7,tab:=[],mutL:=[],rtL:=[(3,1)],locL:=[1] }
noncomputable def ztv:Code:=match Go.Proofs.Tryz.f165.body with | some c=>c | none=>.skip
noncomputable def ztk:An:=(.seq .leaf (.seq .leaf .leaf))
theorem zkv:Entry Go.Proofs.Tryz.prog 165 zg1 false:=
 za0 (C:=zu6) (fn:=Go.Proofs.Tryz.f165) (c:=ztv) (an:=ztk) trivial trivial Go.Proofs.Tryz.func165 rfl rfl (by decide) (λ_=>rfl) (by intro a K D;kernel_rfl)
noncomputable def zxi:ArgT (Sl×Sl×Unit):=(ArgT.cons (Ty.leaf .sl) (ArgT.cons (Ty.leaf .sl) ArgT.nil))
noncomputable def zxy:Ty Sl:=(Ty.leaf .sl)
noncomputable def zn9:FSem:=mkE zxi zxy (λa=>F.zf9 a.1 a.2.1)
noncomputable def zzc:Cfg:={ P:=Go.Proofs.Tryz.prog,n:=75,tab:=[(139,zah)],mutL:=[],rtL:=[],locL:=[] }
noncomputable def zyv:Code:=match Go.Proofs.Tryz.f145.body with | some c=>c | none=>.skip
noncomputable def zye:An:=(.seq .leaf (.join [] (.seq .leaf (.cond (.seq .leaf .leaf) .leaf)) (.seq .leaf (.seq (.seq .leaf (.block (.loop [(27,.leaf (.int .i64))] (.seq .leaf (.seq (.cond .leaf .leaf) (.seq (.block (.seq .leaf (.seq .leaf (.seq (.seq .leaf (.block (.loop [(8,.leaf (.int .u64)),(34,.leaf (.int .i64))] (.seq .leaf (.seq (.cond .leaf .leaf) (.seq (.block (.seq .leaf (.seq .leaf (.seq .leaf .leaf)))) .leaf)))))) .leaf)))) .leaf)))))) (.seq .leaf .leaf)))))
theorem zzu:Entry Go.Proofs.Tryz.prog 145 zn9 false:=
 za0 (C:=zzc) (fn:=Go.Proofs.Tryz.f145) (c:=zyv) (an:=zye) ⟨zam,trivial⟩ trivial Go.Proofs.Tryz.func145 rfl rfl (by decide) (λ_=>rfl) (by intro a K D;kernel_rfl)
noncomputable def za52:ArgT (TInt×TInt×Unit):=(ArgT.cons tyTInt (ArgT.cons tyTInt ArgT.nil))
noncomputable def za5o:Ty TInt:=tyTInt
noncomputable def zf6:FSem:=mkE za52 za5o (λa=>F.zbf a.1 a.2.1)
noncomputable def za7i:Cfg:={ P:=Go.Proofs.Tryz.prog,n:=18,tab:=[(139,zah),(145,zn9),(137,zbe)],mutL:=[],rtL:=[(5,2),(7,3),(10,2),(13,3)],locL:=[2,3,4] }
noncomputable def za6w:Code:=match Go.Proofs.Tryz.f87.body with | some c=>c | none=>.skip
noncomputable def za6a:An:=(.seq .leaf (.seq (.draw [0,1,2,3,4,5,6,8,9,7,10,11,12,13]) .leaf))
theorem zhp:Entry Go.Proofs.Tryz.prog 87 zf6 false:=
 za0 (C:=za7i) (fn:=Go.Proofs.Tryz.f87) (c:=za6w) (an:=za6a) ⟨zam,zzu,zbx,trivial⟩ trivial Go.Proofs.Tryz.func87 rfl rfl (by decide) (λ_=>rfl) (by intro a K D;kernel_rfl)
noncomputable def zi8:ArgT (Sl×Unit):=(ArgT.cons (Ty.leaf .sl) ArgT.nil)
noncomputable def zia:Ty Sl:=(Ty.leaf .sl)
noncomputable def zau:FSem:=mkE zi8 zia (λa=>F.zai a.1)
noncomputable def zie:Cfg:={ P:=Go.Proofs.Tryz.prog,n:=8,tab:=[],mutL:=[],rtL:=[],locL:=[] }
noncomputable def zid:Code:=match Go.Proofs.Tryz.f143.body with | some c=>c | none=>.skip
noncomputable def zic:An:=(.seq .leaf (.seq (.seq .leaf (.cond (.seq .leaf .leaf) .leaf)) (.seq .leaf .leaf)))
theorem zbc:Entry Go.Proofs.Tryz.prog 143 zau false:=
 za0 (C:=zie) (fn:=Go.Proofs.Tryz.f143) (c:=zid) (an:=zic) trivial trivial Go.Proofs.Tryz.func143 rfl rfl (by decide) (λ_=>rfl) (by intro a K D;kernel_rfl)
noncomputable def zgi:ArgT (Sl×Unit):=(ArgT.cons (Ty.leaf .sl) ArgT.nil)
noncomputable def zgk:Ty Addr:=(Ty.clo 189)
noncomputable def zda:FSem:=mkE zgi zgk (λa=>F.zc3 a.1)
noncomputable def zgq:Cfg:={ P:=Go.Proofs.Tryz.prog,n:=4,tab:=[],mutL:=[],rtL:=[],locL:=[] }
noncomputable def zgo:Code:=match Go.Proofs.Tryz.f173.body with | some c=>c | none=>.skip
noncomputable def zgm:An:=(.seq .leaf (.seq .leaf .leaf))
theorem zgs:Entry Go.Proofs.Tryz.prog 173 zda false:=
 za0 (C:=zgq) (fn:=Go.Proofs.Tryz.f173) (c:=zgo) (an:=zgm) trivial trivial Go.Proofs.Tryz.func173 rfl rfl (by decide) (λ_=>rfl) (by intro a K D;kernel_rfl)
noncomputable def zv7:ArgT (Sl×Unit):=(ArgT.cons (Ty.leaf .sl) ArgT.nil)
noncomputable def zvd:Ty Int:=(Ty.leaf (.int .u64))
noncomputable def zh1:FSem:=mkE zv7 zvd (λa=>F.zc1 a.1)
noncomputable def zvw:Cfg:={ P:=Go.Proofs.Tryz.prog,n:=16,tab:=[(173,zda)],mutL:=[],rtL:=[],locL:=[3],backs:=[(189,(.leaf (.int .u32)))] }
noncomputable def zvq:Code:=match Go.Proofs.Tryz.f144.body with | some c=>c | none=>.skip
noncomputable def zvk:An:=(.seq .leaf (.seq .leaf (.seq (.seq .leaf (.block (.back [(3,.box [.int .u64])] .leaf (.block .leaf)))) (.seq .leaf .leaf))))
theorem zma:Entry Go.Proofs.Tryz.prog 144 zh1 false:=
 za0 (C:=zvw) (fn:=Go.Proofs.Tryz.f144) (c:=zvq) (an:=zvk) ⟨zgs,trivial⟩ ⟨zapa,trivial⟩ Go.Proofs.Tryz.func144 rfl rfl (by decide) (λ_=>rfl) (by intro a K D;kernel_rfl)
noncomputable def zxg:ArgT (Int×Unit):=(ArgT.cons (Ty.leaf (.int .i64)) ArgT.nil)
noncomputable def zxw:Ty Bool:=(Ty.leaf .bool)
noncomputable def zn8:FSem:=mkE zxg zxw (λa=>F.zf5 a.1)
noncomputable def zza:Cfg:={ P:=Go.Proofs.Tryz.prog,n:=6,tab:=[],mutL:=[],rtL:=[],locL:=[] }
noncomputable def zyt:Code:=match Go.Proofs.Tryz.f190.body with | some c=>c | none=>.skip
noncomputable def zyc:An:=(.seq .leaf (.seq .leaf .leaf))
theorem zzt:Entry Go.Proofs.Tryz.prog 190 zn8 false:=
 za0 (C:=zza) (fn:=Go.Proofs.Tryz.f190) (c:=zyt) (an:=zyc) trivial trivial Go.Proofs.Tryz.func190 rfl rfl (by decide) (λ_=>rfl) (by intro a K D;kernel_rfl)
noncomputable def zss:ArgT (Int×Int×Unit):=(ArgT.cons (Ty.leaf (.int .i64)) (ArgT.cons (Ty.leaf (.int .i64)) ArgT.nil))
noncomputable def zt2:Ty Int:=(Ty.leaf (.int .i64))
noncomputable def zfz:FSem:=mkE zss zt2 (λa=>F.ze1 a.1 a.2.1)
noncomputable def zty:Cfg:={ P:=Go.Proofs.Tryz.prog,n:=20,tab:=[(190,zn8)],mutL:=[],rtL:=[],locL:=[] }
noncomputable def ztn:Code:=match Go.Proofs.Tryz.f182.body with | some c=>c | none=>.skip
noncomputable def ztc:An:=(.seq .leaf (.seq .leaf (.seq .leaf (.seq (.seq .leaf (.cond (.seq (.seq .leaf (.cond (.seq .leaf .leaf) .leaf)) (.seq .leaf .leaf)) .leaf)) (.seq (.seq .leaf (.cond (.seq .leaf .leaf) .leaf)) (.seq (.seq .leaf (.cond (.seq .leaf .leaf) .leaf)) (.seq (.seq .leaf (.cond (.seq .leaf .leaf) .leaf)) (.seq .leaf .leaf))))))))
theorem zku:Entry Go.Proofs.Tryz.prog 182 zfz false:=
 za0 (C:=zty) (fn:=Go.Proofs.Tryz.f182) (c:=ztn) (an:=ztc) ⟨zzt,trivial⟩ trivial Go.Proofs.Tryz.func182 rfl rfl (by decide) (λ_=>rfl) (by intro a K D;kernel_rfl)
noncomputable def zqx:ArgT (Int×Unit):=(ArgT.cons (Ty.leaf (.int .u32)) ArgT.nil)
noncomputable def zr6:Ty Bool:=(Ty.leaf .bool)
noncomputable def zjh:FSem:=mkE zqx zr6 (λa=>F.zdd a.1)
noncomputable def zrz:Cfg:={ P:=Go.Proofs.Tryz.prog,n:=6,tab:=[],mutL:=[],rtL:=[],locL:=[] }
noncomputable def zro:Code:=match Go.Proofs.Tryz.f192.body with | some c=>c | none=>.skip
noncomputable def zrf:An:=(.seq .leaf (.seq .leaf .leaf))
theorem zsn:Entry Go.Proofs.Tryz.prog 192 zjh false:=
 za0 (C:=zrz) (fn:=Go.Proofs.Tryz.f192) (c:=zro) (an:=zrf) trivial trivial Go.Proofs.Tryz.func192 rfl rfl (by decide) (λ_=>rfl) (by intro a K D;kernel_rfl)
noncomputable def znn:ArgT (Int×Int×Unit):=(ArgT.cons (Ty.leaf (.int .u32)) (ArgT.cons (Ty.leaf (.int .u32)) ArgT.nil))
noncomputable def znq:Ty Int:=(Ty.leaf (.int .i64))
noncomputable def zht:FSem:=mkE znn znq (λa=>F.zdo a.1 a.2.1)
noncomputable def zo0:Cfg:={ P:=Go.Proofs.Tryz.prog,n:=20,tab:=[(192,zjh)],mutL:=[],rtL:=[],locL:=[] }
noncomputable def znx:Code:=match Go.Proofs.Tryz.f187.body with | some c=>c | none=>.skip
noncomputable def znt:An:=(.seq .leaf (.seq .leaf (.seq .leaf (.seq (.seq .leaf (.cond (.seq (.seq .leaf (.cond (.seq .leaf .leaf) .leaf)) (.seq .leaf .leaf)) .leaf)) (.seq (.seq .leaf (.cond (.seq .leaf .leaf) .leaf)) (.seq (.seq .leaf (.cond (.seq .leaf .leaf) .leaf)) (.seq (.seq .leaf (.cond (.seq .leaf .leaf) .leaf)) (.seq .leaf .leaf))))))))
theorem zow:Entry Go.Proofs.Tryz.prog 187 zht false:=
 za0 (C:=zo0) (fn:=Go.Proofs.Tryz.f187) (c:=znx) (an:=znt) ⟨zsn,trivial⟩ trivial Go.Proofs.Tryz.func187 rfl rfl (by decide) (λ_=>rfl) (by intro a K D;kernel_rfl)
noncomputable def zsu:ArgT (Sl×Sl×Unit):=(ArgT.cons (Ty.leaf .sl) (ArgT.cons (Ty.leaf .sl) ArgT.nil))
noncomputable def zt4:Ty Int:=(Ty.leaf (.int .i64))
noncomputable def zea:FSem:=mkE zsu zt4 (λa=>F.zc9 a.1 a.2.1)
noncomputable def zu0:Cfg:={ P:=Go.Proofs.Tryz.prog,n:=41,tab:=[(182,zfz),(187,zht)],mutL:=[],rtL:=[],locL:=[] }
noncomputable def ztp:Code:=match Go.Proofs.Tryz.f163.body with | some c=>c | none=>.skip
noncomputable def zte:An:=(.seq .leaf (.seq (.seq .leaf (.cond (.seq .leaf .leaf) .leaf)) (.seq (.seq .leaf (.block (.loop [(5,.leaf (.int .i64))] (.seq (.seq .leaf (.cond .leaf .leaf)) (.seq (.block (.seq (.draw [0,1,2,3,4,5,6,7,8]) (.cond (.seq (.draw [0,1,2,3,4,5,6,7,8,9]) .leaf) .leaf))) .leaf))))) (.seq .leaf .leaf))))
theorem zgg:Entry Go.Proofs.Tryz.prog 163 zea false:=
 za0 (C:=zu0) (fn:=Go.Proofs.Tryz.f163) (c:=ztp) (an:=zte) ⟨zku,zow,trivial⟩ trivial Go.Proofs.Tryz.func163 rfl rfl (by decide) (λ_=>rfl) (by intro a K D;kernel_rfl)
noncomputable def zno:ArgT (Sl×Int×Unit):=(ArgT.cons (Ty.leaf .sl) (ArgT.cons (Ty.leaf (.int .u32)) ArgT.nil))
noncomputable def znr:Ty (Sl×Sl):=(Ty.tup (.cons (Ty.leaf .sl) (.cons (Ty.leaf .sl) .nil)) (λx=>(x.1,x.2,())) (λy=>(y.1,y.2.1)) (λ_=>rfl) (λ_=>rfl))
noncomputable def zhu:FSem:=mkE zno znr (λa=>F.zdr a.1 a.2.1)
noncomputable def zo1:Cfg:={ P:=Go.Proofs.Tryz.prog,n:=43,tab:=[(139,zah),(138,zcf)],mutL:=[],rtL:=[],locL:=[] }
noncomputable def zny:Code:=match Go.Proofs.Tryz.f167.body with | some c=>c | none=>.skip
noncomputable def znu:An:=(.seq .leaf (.seq .leaf (.seq .leaf (.seq (.seq .leaf (.block (.loop [(7,.leaf (.int .u64)),(8,.leaf (.int .i64))] (.seq (.seq .leaf (.cond .leaf .leaf)) (.seq (.block (.seq .leaf (.seq .leaf .leaf))) .leaf))))) (.seq .leaf .leaf)))))
theorem zoy:Entry Go.Proofs.Tryz.prog 167 zhu false:=
 za0 (C:=zo1) (fn:=Go.Proofs.Tryz.f167) (c:=zny) (an:=znu) ⟨zam,zdy,trivial⟩ trivial Go.Proofs.Tryz.func167 rfl rfl (by decide) (λ_=>rfl) (by intro a K D;kernel_rfl)
noncomputable def zsw:ArgT (Int×Unit):=(ArgT.cons (Ty.leaf (.int .u32)) ArgT.nil)
noncomputable def zt6:Ty Int:=(Ty.leaf (.int .i64))
noncomputable def zkd:FSem:=mkE zsw zt6 (λa=>F.zfd a.1)
noncomputable def zu2:Cfg:={ P:=Go.Proofs.Tryz.prog,n:=19,tab:=[],mutL:=[],rtL:=[],locL:=[] }
noncomputable def ztr:Code:=match Go.Proofs.Tryz.f188.body with | some c=>c | none=>.skip
noncomputable def ztg:An:=(.seq .leaf (.join [(0,.leaf (.int .u32)),(2,.leaf (.int .i64))] (.seq .leaf (.cond (.seq .leaf .leaf) .leaf)) (.join [(0,.leaf (.int .u32)),(2,.leaf (.int .i64))] (.seq .leaf (.cond (.seq .leaf .leaf) .leaf)) (.seq .leaf .leaf))))
theorem zux:Entry Go.Proofs.Tryz.prog 188 zkd false:=
 za0 (C:=zu2) (fn:=Go.Proofs.Tryz.f188) (c:=ztr) (an:=ztg) trivial trivial Go.Proofs.Tryz.func188 rfl rfl (by decide) (λ_=>rfl) (by intro a K D;kernel_rfl)
noncomputable def zja:ArgT (Int×Unit):=(ArgT.cons (Ty.leaf (.int .u32)) ArgT.nil)
noncomputable def zjb:Ty Int:=(Ty.leaf (.int .i64))
noncomputable def zec:FSem:=mkE zja zjb (λa=>F.zby a.1)
noncomputable def zje:Cfg:={ P:=Go.Proofs.Tryz.prog,n:=6,tab:=[(188,zkd)],mutL:=[],rtL:=[],locL:=[] }
noncomputable def zjd:Code:=match Go.Proofs.Tryz.f168.body with | some c=>c | none=>.skip
noncomputable def zjc:An:=(.seq .leaf (.seq .leaf .leaf))
theorem zk1:Entry Go.Proofs.Tryz.prog 168 zec false:=
 za0 (C:=zje) (fn:=Go.Proofs.Tryz.f168) (c:=zjd) (an:=zjc) ⟨zux,trivial⟩ trivial Go.Proofs.Tryz.func168 rfl rfl (by decide) (λ_=>rfl) (by intro a K D;kernel_rfl)
noncomputable def zpp:ArgT (Sl×Int×Unit):=(ArgT.cons (Ty.leaf .sl) (ArgT.cons (Ty.leaf (.int .i64)) ArgT.nil))
noncomputable def zpu:Ty Sl:=(Ty.leaf .sl)
noncomputable def zim:FSem:=mkE zpp zpu (λa=>F.zc6 a.1 a.2.1)
noncomputable def zq6:Cfg:={ P:=Go.Proofs.Tryz.prog,n:=41,tab:=[],mutL:=[],rtL:=[],locL:=[] }
noncomputable def zq2:Code:=match Go.Proofs.Tryz.f169.body with | some c=>c | none=>.skip
noncomputable def zpy:An:=(.seq .leaf (.seq .leaf (.seq (.seq .leaf (.block (.loop [(15,.leaf (.int .i64))] (.seq .leaf (.seq (.cond .leaf .leaf) (.seq (.block (.seq .leaf (.seq .leaf (.seq .leaf .leaf)))) .leaf)))))) (.seq .leaf .leaf))))
theorem zqa:Entry Go.Proofs.Tryz.prog 169 zim false:=
 za0 (C:=zq6) (fn:=Go.Proofs.Tryz.f169) (c:=zq2) (an:=zpy) trivial trivial Go.Proofs.Tryz.func169 rfl rfl (by decide) (λ_=>rfl) (by intro a K D;kernel_rfl)
noncomputable def zqz:ArgT (Sl×Sl×Int×Unit):=(ArgT.cons (Ty.leaf .sl) (ArgT.cons (Ty.leaf .sl) (ArgT.cons (Ty.leaf (.int .u64)) ArgT.nil)))
noncomputable def zr8:Ty Bool:=(Ty.leaf .bool)
noncomputable def zjk:FSem:=mkM zqz zr8 (λa=>F.zen a.1 a.2.1 a.2.2.1)
noncomputable def zs1:Cfg:={ P:=Go.Proofs.Tryz.prog,n:=63,tab:=[],mutL:=[],rtL:=[],locL:=[] }
noncomputable def zrq:Code:=match Go.Proofs.Tryz.f170.body with | some c=>c | none=>.skip
noncomputable def zrh:An:=(.seq .leaf (.seq .leaf (.seq (.seq .leaf (.block (.loop [(7,.leaf (.int .u64)),(15,.leaf (.int .i64))] (.seq .leaf (.seq (.cond .leaf .leaf) (.seq (.block (.seq .leaf (.seq .leaf (.seq .leaf (.seq .leaf .leaf))))) .leaf)))))) (.seq .leaf (.seq .leaf (.seq .leaf .leaf))))))
theorem zso:Entry Go.Proofs.Tryz.prog 170 zjk true:=
 za8s (C:=zs1) (fn:=Go.Proofs.Tryz.f170) (c:=zrq) (an:=zrh) trivial trivial Go.Proofs.Tryz.func170 rfl rfl (by decide) (λ_=>rfl) (by intro a K D;kernel_rfl)
noncomputable def zsv:ArgT (Sl×Sl×Unit):=(ArgT.cons (Ty.leaf .sl) (ArgT.cons (Ty.leaf .sl) ArgT.nil))
noncomputable def zt5:Ty Unit:=Ty.unit
noncomputable def zkc:FSem:=mkM zsv zt5 (λa=>F.zfc a.1 a.2.1)
noncomputable def zu1:Cfg:={ P:=Go.Proofs.Tryz.prog,n:=41,tab:=[],mutL:=[],rtL:=[],locL:=[] }
noncomputable def ztq:Code:=match Go.Proofs.Tryz.f171.body with | some c=>c | none=>.skip
noncomputable def ztf:An:=(.seq .leaf (.seq (.seq .leaf (.block (.loop [(4,.leaf (.int .u64)),(9,.leaf (.int .i64))] (.seq .leaf (.seq (.cond .leaf .leaf) (.seq (.block (.seq .leaf (.seq .leaf (.seq .leaf .leaf)))) .leaf)))))) .leaf))
theorem zuv:Entry Go.Proofs.Tryz.prog 171 zkc true:=
 za8s (C:=zu1) (fn:=Go.Proofs.Tryz.f171) (c:=ztq) (an:=ztf) trivial trivial Go.Proofs.Tryz.func171 rfl rfl (by decide) (λ_=>rfl) (by intro a K D;kernel_rfl)
end Den
end

section
set_option maxRecDepth 100000
namespace Den
open Go
noncomputable def znp:ArgT (Sl×Int×Unit):=(ArgT.cons (Ty.leaf .sl) (ArgT.cons (Ty.leaf (.int .i64)) ArgT.nil))
noncomputable def zns:Ty Sl:=(Ty.leaf .sl)
noncomputable def zhv:FSem:=mkE znp zns (λa=>F.zds a.1 a.2.1)
noncomputable def zo2:Cfg:={ P:=Go.Proofs.Tryz.prog,n:=47,tab:=[],mutL:=[],rtL:=[],locL:=[] }
noncomputable def znz:Code:=match Go.Proofs.Tryz.f172.body with | some c=>c | none=>.skip
noncomputable def znv:An:=(.seq .leaf (.seq .leaf (.seq (.seq .leaf (.block (.loop [(13,.leaf (.int .i64))] (.seq .leaf (.seq (.cond .leaf .leaf) (.join [] (.block (.seq .leaf (.seq .leaf (.seq .leaf (.cond (.draw [0,1,2,3,4,5,6,7,8,9,10,11,12,13,14,15,16]) .leaf))))) .leaf)))))) (.seq .leaf .leaf))))
theorem zp0:Entry Go.Proofs.Tryz.prog 172 zhv false:=
 za0 (C:=zo2) (fn:=Go.Proofs.Tryz.f172) (c:=znz) (an:=znv) trivial trivial Go.Proofs.Tryz.func172 rfl rfl (by decide) (λ_=>rfl) (by intro a K D;kernel_rfl)
noncomputable def zv5:ArgT (Sl×Sl×Unit):=(ArgT.cons (Ty.leaf .sl) (ArgT.cons (Ty.leaf .sl) ArgT.nil))
noncomputable def zvb:Ty (Sl×Sl):=(Ty.tup (.cons (Ty.leaf .sl) (.cons (Ty.leaf .sl) .nil)) (λx=>(x.1,x.2,())) (λy=>(y.1,y.2.1)) (λ_=>rfl) (λ_=>rfl))
noncomputable def zh0:FSem:=mkE zv5 zvb (λa=>F.zcg a.1 a.2.1)
noncomputable def zvu:Cfg:={ P:=Go.Proofs.Tryz.prog,n:=177,tab:=[(163,zea),(143,zau),(144,zh1),(138,zcf),(167,zhu),(168,zec),(169,zim),(139,zah),(170,zjk),(171,zkc),(172,zhv)],mutL:=[170,171],rtL:=[],locL:=[] }
noncomputable def zvo:Code:=match Go.Proofs.Tryz.f140.body with | some c=>c | none=>.skip
noncomputable def zvi:An:=(.seq .leaf (.seq (.block (.seq .leaf (.cond (.seq .leaf .leaf) (.seq .leaf (.cond (.seq .leaf (.seq (.draw [0,1,2,4,5,6,3,7,8,9]) .leaf)) (.seq .leaf (.cond (.seq .leaf .leaf) .leaf))))))) (.seq .leaf (.seq .leaf (.seq .leaf (.seq .leaf (.seq (.draw [0,1,2,3,4,5,6,7,8,9,10,11,12,13]) (.seq (.seq .leaf (.block (.loop [(15,.leaf (.int .i64))] (.seq (.seq .leaf (.cond .leaf .leaf)) (.seq (.block (.seq (.draw [0,1,2,3,4,5,6,7,8,9,10,11,12,13,14,15,16,17]) (.seq (.draw [0,1,2,3,4,5,6,7]) (.join [(17,.leaf (.int .u64))] (.block (.loop [(17,.leaf (.int .u64)),(18,.leaf (.int .u64))] (.join [] (.seq .leaf (.cond .leaf .leaf)) (.block (.seq .leaf (.seq .leaf (.seq .leaf (.cond .leaf .leaf)))))))) (.join [(17,.leaf (.int .u64))] (.seq .leaf (.cond (.seq .leaf .leaf) .leaf)) .leaf))))) .leaf))))) (.seq (.draw [0,2,3,4,6,1,5,7,8,9,10]) .leaf)))))))))
theorem zm9:Entry Go.Proofs.Tryz.prog 140 zh0 false:=
 za0 (C:=zvu) (fn:=Go.Proofs.Tryz.f140) (c:=zvo) (an:=zvi) ⟨zgg,zbc,zma,zdy,zoy,zk1,zqa,zam,zso,zuv,zp0,trivial⟩ trivial Go.Proofs.Tryz.func140 rfl rfl (by decide) (λ_=>rfl) (by intro a K D;kernel_rfl)
noncomputable def za51:ArgT (TInt×TInt×Unit):=(ArgT.cons tyTInt (ArgT.cons tyTInt ArgT.nil))
noncomputable def za5n:Ty TInt:=tyTInt
noncomputable def zqf:FSem:=mkE za51 za5n (λa=>F.zhy a.1 a.2.1)
noncomputable def za7h:Cfg:={ P:=Go.Proofs.Tryz.prog,n:=57,tab:=[(139,zah),(143,zau),(137,zbe),(144,zh1),(138,zcf),(140,zh0)],mutL:=[],rtL:=[(11,2),(14,3)],locL:=[2,3,4] }
noncomputable def za6v:Code:=match Go.Proofs.Tryz.f86.body with | some c=>c | none=>.skip
noncomputable def za69:An:=(.seq .leaf (.seq (.draw [0,1,3,4,2,5,6,7]) (.join [(5,.leaf (.sl)),(6,.leaf (.sl))] (.block (.loop [(5,.leaf (.sl)),(6,.leaf (.sl))] (.join [] (.seq .leaf (.cond .leaf .leaf)) (.block (.seq .leaf .leaf))))) (.seq (.seq .leaf (.cond (.seq .leaf .leaf) .leaf)) (.seq .leaf (.seq (.block (.loop [(9,.leaf (.int .u64)),(10,.leaf (.int .u64))] (.seq (.seq .leaf (.cond .leaf .leaf)) (.block (.draw [0,1,2,3,4,5]))))) (.seq .leaf .leaf)))))))
theorem za8b:Entry Go.Proofs.Tryz.prog 86 zqf false:=
 za0 (C:=za7h) (fn:=Go.Proofs.Tryz.f86) (c:=za6v) (an:=za69) ⟨zam,zbc,zbx,zma,zdy,zm9,trivial⟩ trivial Go.Proofs.Tryz.func86 rfl rfl (by decide) (λ_=>rfl) (by intro a K D;kernel_rfl)
noncomputable def zv9:ArgT (TInt×Unit):=(ArgT.cons tyTInt ArgT.nil)
noncomputable def zvf:Ty Bool:=(Ty.leaf .bool)
noncomputable def zek:FSem:=mkE zv9 zvf (λa=>F.zc2 a.1)
noncomputable def zvy:Cfg:={ P:=Go.Proofs.Tryz.prog,n:=19,tab:=[],mutL:=[],rtL:=[(3,1),(7,1),(13,1)],locL:=[1] }
noncomputable def zvs:Code:=match Go.Proofs.Tryz.f127.body with | some c=>c | none=>.skip
noncomputable def zvm:An:=(.seq .leaf (.seq .leaf .leaf))
theorem zh9:Entry Go.Proofs.Tryz.prog 127 zek false:=
 za0 (C:=zvy) (fn:=Go.Proofs.Tryz.f127) (c:=zvs) (an:=zvm) trivial trivial Go.Proofs.Tryz.func127 rfl rfl (by decide) (λ_=>rfl) (by intro a K D;kernel_rfl)
noncomputable def za0o:ArgT (Sl×Sl×Unit):=(ArgT.cons (Ty.leaf .sl) (ArgT.cons (Ty.leaf .sl) ArgT.nil))
noncomputable def za17:Ty Sl:=(Ty.leaf .sl)
noncomputable def zjj:FSem:=mkE za0o za17 (λa=>F.zem a.1 a.2.1)
noncomputable def za2s:Cfg:={ P:=Go.Proofs.Tryz.prog,n:=58,tab:=[],mutL:=[],rtL:=[],locL:=[45,55] }
noncomputable def za28:Code:=match Go.Proofs.Tryz.f141.body with | some c=>c | none=>.skip
noncomputable def za1p:An:=(.seq .leaf (.join [(0,.leaf (.sl)),(1,.leaf (.sl))] (.seq .leaf (.cond .leaf .leaf)) (.seq .leaf (.seq .leaf (.seq (.seq .leaf (.block (.loop [(5,.leaf (.sl)),(6,.leaf (.int .u64)),(22,.leaf (.int .i64))] (.seq .leaf (.seq (.cond .leaf .leaf) (.seq (.block (.seq .leaf (.seq .leaf (.join [(6,.leaf (.int .u64))] (.seq .leaf (.cond .leaf .leaf)) (.seq .leaf .leaf))))) .leaf)))))) (.seq (.seq .leaf (.cond .leaf .leaf)) (.seq .leaf .leaf)))))))
theorem zoz:Entry Go.Proofs.Tryz.prog 141 zjj false:=
 za0 (C:=za2s) (fn:=Go.Proofs.Tryz.f141) (c:=za28) (an:=za1p) trivial trivial Go.Proofs.Tryz.func141 rfl rfl (by decide) (λ_=>rfl) (by intro a K D;kernel_rfl)
noncomputable def zxh:ArgT (Sl×Sl×Unit):=(ArgT.cons (Ty.leaf .sl) (ArgT.cons (Ty.leaf .sl) ArgT.nil))
noncomputable def zxx:Ty Sl:=(Ty.leaf .sl)
noncomputable def zif:FSem:=mkE zxh zxx (λa=>F.zd5 a.1 a.2.1)
noncomputable def zzb:Cfg:={ P:=Go.Proofs.Tryz.prog,n:=45,tab:=[(139,zah)],mutL:=[],rtL:=[],locL:=[] }
noncomputable def zyu:Code:=match Go.Proofs.Tryz.f142.body with | some c=>c | none=>.skip
noncomputable def zyd:An:=(.seq .leaf (.seq .leaf (.seq .leaf (.seq (.seq .leaf (.block (.loop [(6,.leaf (.int .u64)),(15,.leaf (.int .i64))] (.seq .leaf (.seq (.cond .leaf .leaf) (.seq (.block (.seq .leaf (.seq .leaf (.join [(9,.leaf (.int .u64))] (.seq .leaf (.cond .leaf .leaf)) (.seq .leaf .leaf))))) .leaf)))))) (.seq .leaf .leaf)))))
theorem znj:Entry Go.Proofs.Tryz.prog 142 zif false:=
 za0 (C:=zzb) (fn:=Go.Proofs.Tryz.f142) (c:=zyu) (an:=zyd) ⟨zam,trivial⟩ trivial Go.Proofs.Tryz.func142 rfl rfl (by decide) (λ_=>rfl) (by intro a K D;kernel_rfl)
noncomputable def zv4:ArgT (TInt×TInt×Unit):=(ArgT.cons tyTInt (ArgT.cons tyTInt ArgT.nil))
noncomputable def zva:Ty (TInt×TInt×Int):=(Ty.tup (.cons tyTInt (.cons tyTInt (.cons (Ty.leaf (.int .i64)) .nil))) (λx=>(x.1,x.2.1,x.2.2,())) (λy=>(y.1,y.2.1,y.2.2.1)) (λ_=>rfl) (λ_=>rfl))
noncomputable def zls:FSem:=mkE zv4 zva (λa=>F.zg6 a.1 a.2.1)
noncomputable def zvt:Cfg:={ P:=Go.Proofs.Tryz.prog,n:=53,tab:=[(139,zah),(140,zh0),(137,zbe),(141,zjj),(142,zif)],mutL:=[],rtL:=[(10,3),(19,2),(26,2),(28,3),(42,2),(44,3),(49,3)],locL:=[2,3,4,5] }
noncomputable def zvn:Code:=match Go.Proofs.Tryz.f85.body with | some c=>c | none=>.skip
noncomputable def zvh:An:=(.seq .leaf (.seq .leaf (.seq (.seq .leaf (.cond (.seq .leaf .leaf) .leaf)) (.seq .leaf (.join [(8,.leaf (.sl)),(9,.leaf (.sl))] (.seq .leaf (.cond (.seq .leaf .leaf) .leaf)) (.seq (.draw [0,1,2,3,4,5,7,8,9,6,10,11,12,13]) .leaf))))))
theorem zwe:Entry Go.Proofs.Tryz.prog 85 zls false:=
 za0 (C:=zvt) (fn:=Go.Proofs.Tryz.f85) (c:=zvn) (an:=zvh) ⟨zam,zm9,zbx,zoz,znj,trivial⟩ trivial Go.Proofs.Tryz.func85 rfl rfl (by decide) (λ_=>rfl) (by intro a K D;kernel_rfl)
noncomputable def za0x:ArgT (TInt×TInt×Unit):=(ArgT.cons tyTInt (ArgT.cons tyTInt ArgT.nil))
noncomputable def za1g:Ty TInt:=tyTInt
noncomputable def zo8:FSem:=mkE za0x za1g (λa=>F.zgc a.1 a.2.1)
noncomputable def za31:Cfg:={ P:=Go.Proofs.Tryz.prog,n:=19,tab:=[(127,zek),(85,zls)],mutL:=[],rtL:=[],locL:=[2,3,4,5,6] }
noncomputable def za2h:Code:=match Go.Proofs.Tryz.f164.body with | some c=>c | none=>.skip
noncomputable def za1y:An:=(.seq .leaf (.seq (.seq .leaf (.cond (.seq .leaf .leaf) .leaf)) (.seq .leaf (.seq .leaf .leaf))))
theorem za4q:Entry Go.Proofs.Tryz.prog 164 zo8 false:=
 za0 (C:=za31) (fn:=Go.Proofs.Tryz.f164) (c:=za2h) (an:=za1y) ⟨zh9,zwe,trivial⟩ trivial Go.Proofs.Tryz.func164 rfl rfl (by decide) (λ_=>rfl) (by intro a K D;kernel_rfl)
noncomputable def za53:ArgT (TInt×Unit):=(ArgT.cons tyTInt ArgT.nil)
noncomputable def za5p:Ty TInt:=tyTInt
noncomputable def zkz:FSem:=mkE za53 za5p (λa=>F.zhz a.1)
noncomputable def za7j:Cfg:={ P:=Go.Proofs.Tryz.prog,n:=11,tab:=[(139,zah),(143,zau),(137,zbe)],mutL:=[],rtL:=[(3,1),(6,1)],locL:=[1,2] }
noncomputable def za6x:Code:=match Go.Proofs.Tryz.f154.body with | some c=>c | none=>.skip
noncomputable def za6b:An:=(.seq .leaf (.seq (.draw [0,1,2,3,4,5,6,7,8]) .leaf))
theorem zqq:Entry Go.Proofs.Tryz.prog 154 zkz false:=
 za0 (C:=za7j) (fn:=Go.Proofs.Tryz.f154) (c:=za6x) (an:=za6b) ⟨zam,zbc,zbx,trivial⟩ trivial Go.Proofs.Tryz.func154 rfl rfl (by decide) (λ_=>rfl) (by intro a K D;kernel_rfl)
noncomputable def zt1:ArgT (TInt×TInt×Unit):=(ArgT.cons tyTInt (ArgT.cons tyTInt ArgT.nil))
noncomputable def ztb:Ty TRat:=tyTRat
noncomputable def zct:FSem:=mkE zt1 ztb (λa=>F.zca a.1 a.2.1)
noncomputable def zu7:Cfg:={ P:=Go.Proofs.Tryz.prog,n:=20,tab:=[(86,zqf),(164,zo8),(154,zkz)],mutL:=[],rtL:=[(9,3)],locL:=[2,3,4,5] }
noncomputable def ztw:Code:=match Go.Proofs.Tryz.f130.body with | some c=>c | none=>.skip
noncomputable def ztl:An:=(.seq .leaf (.seq .leaf (.join [(5,.box [.bool,.sl])] (.seq .leaf (.cond .leaf .leaf)) (.seq (.draw [0,1,3,4,2,5,6,7]) .leaf))))
theorem zeb:Entry Go.Proofs.Tryz.prog 130 zct false:=
 za0 (C:=zu7) (fn:=Go.Proofs.Tryz.f130) (c:=ztw) (an:=ztl) ⟨za8b,za4q,zqq,trivial⟩ trivial Go.Proofs.Tryz.func130 rfl rfl (by decide) (λ_=>rfl) (by intro a K D;kernel_rfl)
noncomputable def za0s:ArgT (TRat×TRat×Unit):=(ArgT.cons tyTRat (ArgT.cons tyTRat ArgT.nil))
noncomputable def za1b:Ty (TRat×Int):=(Ty.tup (.cons tyTRat (.cons (Ty.leaf (.int .i64)) .nil)) (λx=>(x.1,x.2,())) (λy=>(y.1,y.2.1)) (λ_=>rfl) (λ_=>rfl))
noncomputable def zjo:FSem:=mkE za0s za1b (λa=>F.zgb a.1 a.2.1)
noncomputable def za2w:Cfg:={ P:=Go.Proofs.Tryz.prog,n:=21,tab:=[(165,zg1),(87,zf6),(130,zct)],mutL:=[],rtL:=[(6,3),(10,2),(12,3),(15,2),(17,3)],locL:=[2,3,4] }
noncomputable def za2c:Code:=match Go.Proofs.Tryz.f131.body with | some c=>c | none=>.skip
noncomputable def za1t:An:=(.seq .leaf (.seq (.seq .leaf (.cond (.seq .leaf .leaf) .leaf)) (.seq (.draw [0,1,2,3,5,6,7,8,4,9,10,11,12]) .leaf)))
theorem zp2:Entry Go.Proofs.Tryz.prog 131 zjo false:=
 za0 (C:=za2w) (fn:=Go.Proofs.Tryz.f131) (c:=za2c) (an:=za1t) ⟨zkv,zhp,zeb,trivial⟩ trivial Go.Proofs.Tryz.func131 rfl rfl (by decide) (λ_=>rfl) (by intro a K D;kernel_rfl)
noncomputable def za0t:ArgT (TRat×TRat×Unit):=(ArgT.cons tyTRat (ArgT.cons tyTRat ArgT.nil))
noncomputable def za1c:Ty TRat:=tyTRat
noncomputable def zdf:FSem:=mkE za0t za1c (λa=>F.zd0 a.1 a.2.1)
noncomputable def za2x:Cfg:={ P:=Go.Proofs.Tryz.prog,n:=31,tab:=[(87,zf6),(130,zct),(127,zek),(129,zg2)],mutL:=[],rtL:=[(5,2),(9,3),(13,2),(15,3),(20,2),(22,3),(25,2),(27,3)],locL:=[2,3,4] }
noncomputable def za2d:Code:=match Go.Proofs.Tryz.f75.body with | some c=>c | none=>.skip
noncomputable def za1u:An:=(.seq .leaf (.join [(4,.box [.bool,.sl,.bool,.sl])] (.seq .leaf (.cond (.seq .leaf .leaf) .leaf)) (.seq (.draw [0,1,2,3,5,6,7,8,4,9,10,11]) .leaf)))
theorem zej:Entry Go.Proofs.Tryz.prog 75 zdf false:=
 za0 (C:=za2x) (fn:=Go.Proofs.Tryz.f75) (c:=za2d) (an:=za1u) ⟨zhp,zeb,zh9,zk4,trivial⟩ trivial Go.Proofs.Tryz.func75 rfl rfl (by decide) (λ_=>rfl) (by intro a K D;kernel_rfl)
noncomputable def za0u:ArgT (TRat×Unit):=(ArgT.cons tyTRat ArgT.nil)
noncomputable def za1d:Ty TRat:=tyTRat
noncomputable def zg0:FSem:=mkE za0u za1d (λa=>F.zev a.1)
noncomputable def za2y:Cfg:={ P:=Go.Proofs.Tryz.prog,n:=9,tab:=[(154,zkz)],mutL:=[],rtL:=[(3,1),(6,1)],locL:=[1,2] }
noncomputable def za2e:Code:=match Go.Proofs.Tryz.f97.body with | some c=>c | none=>.skip
noncomputable def za1v:An:=(.seq .leaf (.seq (.draw [0,1,3,4,2,5,6]) .leaf))
theorem zk3:Entry Go.Proofs.Tryz.prog 97 zg0 false:=
 za0 (C:=za2y) (fn:=Go.Proofs.Tryz.f97) (c:=za2e) (an:=za1v) ⟨zqq,trivial⟩ trivial Go.Proofs.Tryz.func97 rfl rfl (by decide) (λ_=>rfl) (by intro a K D;kernel_rfl)
noncomputable def za4z:ArgT (TInt×TInt×Unit):=(ArgT.cons tyTInt (ArgT.cons tyTInt ArgT.nil))
noncomputable def za5l:Ty TInt:=tyTInt
noncomputable def zqd:FSem:=mkE za4z za5l (λa=>F.zhx a.1 a.2.1)
noncomputable def za7f:Cfg:={ P:=Go.Proofs.Tryz.prog,n:=40,tab:=[(139,zah),(141,zjj),(137,zbe),(163,zea),(142,zif)],mutL:=[],rtL:=[(7,2),(10,3),(13,2),(15,3),(18,2),(28,3),(34,2)],locL:=[2,3,4] }
noncomputable def za6t:Code:=match Go.Proofs.Tryz.f128.body with | some c=>c | none=>.skip
noncomputable def za67:An:=(.seq .leaf (.seq (.draw [0,1,3,4,2,5,6,7]) (.seq (.seq .leaf (.cond (.seq (.draw [0,1,2,3,4,5,6]) .leaf) .leaf)) (.seq (.seq .leaf (.cond (.seq (.draw [0,1,2,3,4,5,6]) .leaf) .leaf)) (.seq (.draw [0,1,2,3,4,5,6]) .leaf)))))
theorem za89:Entry Go.Proofs.Tryz.prog 128 zqd false:=
 za0 (C:=za7f) (fn:=Go.Proofs.Tryz.f128) (c:=za6t) (an:=za67) ⟨zam,zoz,zbx,zgg,znj,trivial⟩ trivial Go.Proofs.Tryz.func128 rfl rfl (by decide) (λ_=>rfl) (by intro a K D;kernel_rfl)
noncomputable def za0q:ArgT (TRat×TRat×Unit):=(ArgT.cons tyTRat (ArgT.cons tyTRat ArgT.nil))
noncomputable def za19:Ty TRat:=tyTRat
noncomputable def zed:FSem:=mkE za0q za19 (λa=>F.zdv a.1 a.2.1)
noncomputable def za2u:Cfg:={ P:=Go.Proofs.Tryz.prog,n:=39,tab:=[(87,zf6),(128,zqd),(130,zct),(127,zek),(129,zg2)],mutL:=[],rtL:=[(6,2),(10,3),(14,2),(16,3),(21,2),(23,3),(26,3),(28,2),(33,2),(35,3)],locL:=[2,3,4,5] }
noncomputable def za2a:Code:=match Go.Proofs.Tryz.f74.body with | some c=>c | none=>.skip
noncomputable def za1r:An:=(.seq .leaf (.join [(4,.box [.bool,.sl,.bool,.sl])] (.seq .leaf (.cond (.seq .leaf .leaf) .leaf)) (.seq (.draw [0,1,2,3,5,6,7,8,11,4,9,10,12]) (.seq (.draw [0,1,2,3,4,5,6,7]) .leaf))))
theorem zgh:Entry Go.Proofs.Tryz.prog 74 zed false:=
 za0 (C:=za2u) (fn:=Go.Proofs.Tryz.f74) (c:=za2a) (an:=za1r) ⟨zhp,za89,zeb,zh9,zk4,trivial⟩ trivial Go.Proofs.Tryz.func74 rfl rfl (by decide) (λ_=>rfl) (by intro a K D;kernel_rfl)
noncomputable def za0v:ArgT (TRat×TRat×Unit):=(ArgT.cons tyTRat (ArgT.cons tyTRat ArgT.nil))
noncomputable def za1e:Ty TRat:=tyTRat
noncomputable def zo7:FSem:=mkE za0v za1e (λa=>F.ziu a.1 a.2.1)
noncomputable def za2z:Cfg:={ P:=Go.Proofs.Tryz.prog,n:=9,tab:=[(97,zg0),(74,zed)],mutL:=[],rtL:=[],locL:=[2,3,4] }
noncomputable def za2f:Code:=match Go.Proofs.Tryz.f132.body with | some c=>c | none=>.skip
noncomputable def za1w:An:=(.seq .leaf (.seq (.draw [0,1,2,3,4]) .leaf))
theorem za4p:Entry Go.Proofs.Tryz.prog 132 zo7 false:=
 za0 (C:=za2z) (fn:=Go.Proofs.Tryz.f132) (c:=za2f) (an:=za1w) ⟨zk3,zgh,trivial⟩ trivial Go.Proofs.Tryz.func132 rfl rfl (by decide) (λ_=>rfl) (by intro a K D;kernel_rfl)
noncomputable def zps:ArgT (Sl×Sl×Unit):=(ArgT.cons (Ty.leaf .sl) (ArgT.cons (Ty.leaf .sl) ArgT.nil))
noncomputable def zpx:Ty (Sl×Sl):=(Ty.tup (.cons (Ty.leaf .sl) (.cons (Ty.leaf .sl) .nil)) (λx=>(x.1,x.2,())) (λy=>(y.1,y.2.1)) (λ_=>rfl) (λ_=>rfl))
noncomputable def zdc:FSem:=mkE zps zpx (λa=>F.zb6 a.1 a.2.1)
noncomputable def zq9:Cfg:={ P:=Go.Proofs.Tryz.prog,n:=83,tab:=[(38,zc5),(73,zjm),(131,zjo),(75,zdf),(132,zo7)],mutL:=[],rtL:=[],locL:=[10] }
noncomputable def zq5:Code:=match Go.Proofs.Tryz.f77.body with | some c=>c | none=>.skip
noncomputable def zq1:An:=(.seq .leaf (.seq .leaf (.seq .leaf (.seq .leaf (.seq (.seq .leaf (.block (.loop [(8,.leaf (.int .i64))] (.seq (.seq .leaf (.cond .leaf .leaf)) (.seq (.block (.seq (.draw [0,1,2,3,4,5,6,7,8,9,10,11,12,13,14,15,16,17,18,19,20,21]) (.seq .leaf (.block (.loop [(55,.leaf (.int .i64))] (.seq .leaf (.seq (.cond .leaf .leaf) (.seq (.block (.seq .leaf (.draw [0,1,2,3,4,5,6,7,8,9,10,11,12,13,14,15,16,17,18]))) .leaf)))))))) .leaf))))) (.seq .leaf .leaf))))))
theorem zf3:Entry Go.Proofs.Tryz.prog 77 zdc false:=
 za0 (C:=zq9) (fn:=Go.Proofs.Tryz.f77) (c:=zq5) (an:=zq1) ⟨zd4,zsq,zp2,zej,za4p,trivial⟩ trivial Go.Proofs.Tryz.func77 rfl rfl (by decide) (λ_=>rfl) (by intro a K D;kernel_rfl)
noncomputable def zpr:ArgT (Sl×Sl×Unit):=(ArgT.cons (Ty.leaf .sl) (ArgT.cons (Ty.leaf .sl) ArgT.nil))
noncomputable def zpw:Ty (Sl×Sl×Int):=(Ty.tup (.cons (Ty.leaf .sl) (.cons (Ty.leaf .sl) (.cons (Ty.leaf (.int .i64)) .nil))) (λx=>(x.1,x.2.1,x.2.2,())) (λy=>(y.1,y.2.1,y.2.2.1)) (λ_=>rfl) (λ_=>rfl))
noncomputable def zin:FSem:=mkE zpr zpw (λa=>F.zcy a.1 a.2.1)
noncomputable def zq8:Cfg:={ P:=Go.Proofs.Tryz.prog,n:=20,tab:=[(39,zf2),(77,zdc)],mutL:=[],rtL:=[],locL:=[] }
noncomputable def zq4:Code:=match Go.Proofs.Tryz.f22.body with | some c=>c | none=>.skip
noncomputable def zq0:An:=(.seq .leaf (.seq (.seq .leaf (.cond (.seq .leaf .leaf) .leaf)) (.seq .leaf (.seq .leaf .leaf))))
theorem zqb:Entry Go.Proofs.Tryz.prog 22 zin false:=
 za0 (C:=zq8) (fn:=Go.Proofs.Tryz.f22) (c:=zq4) (an:=zq0) ⟨zio,zf3,trivial⟩ trivial Go.Proofs.Tryz.func22 rfl rfl (by decide) (λ_=>rfl) (by intro a K D;kernel_rfl)
noncomputable def zr2:ArgT (Sl×TRat×Unit):=(ArgT.cons (Ty.leaf .sl) (ArgT.cons tyTRat ArgT.nil))
noncomputable def zrb:Ty Sl:=(Ty.leaf .sl)
noncomputable def zfi:FSem:=mkE zr2 zrb (λa=>F.zdj a.1 a.2.1)
noncomputable def zs4:Cfg:={ P:=Go.Proofs.Tryz.prog,n:=27,tab:=[(75,zdf),(38,zc5)],mutL:=[],rtL:=[],locL:=[3,7] }
noncomputable def zrt:Code:=match Go.Proofs.Tryz.f43.body with | some c=>c | none=>.skip
noncomputable def zrk:An:=(.seq .leaf (.seq .leaf (.seq (.seq .leaf (.block (.loop [(13,.leaf (.int .i64))] (.seq .leaf (.seq (.cond .leaf .leaf) (.seq (.block (.seq .leaf .leaf)) .leaf)))))) (.seq .leaf .leaf))))
theorem zk2:Entry Go.Proofs.Tryz.prog 43 zfi false:=
 za0 (C:=zs4) (fn:=Go.Proofs.Tryz.f43) (c:=zrt) (an:=zrk) ⟨zej,zd4,trivial⟩ trivial Go.Proofs.Tryz.func43 rfl rfl (by decide) (λ_=>rfl) (by intro a K D;kernel_rfl)
noncomputable def zr3:ArgT (Sl×Unit):=(ArgT.cons (Ty.leaf .sl) ArgT.nil)
noncomputable def zrc:Ty Sl:=(Ty.leaf .sl)
noncomputable def zdp:FSem:=mkE zr3 zrc (λa=>F.zb3 a.1)
noncomputable def zs5:Cfg:={ P:=Go.Proofs.Tryz.prog,n:=24,tab:=[(38,zc5),(79,zb0),(131,zjo),(43,zfi)],mutL:=[],rtL:=[],locL:=[3] }
noncomputable def zru:Code:=match Go.Proofs.Tryz.f83.body with | some c=>c | none=>.skip
noncomputable def zrl:An:=(.seq .leaf (.seq .leaf (.seq (.seq .leaf (.cond (.seq .leaf .leaf) .leaf)) (.seq (.draw [1,2,3,4,5,6,11,0,7,8,9,10,12,13]) (.seq .leaf .leaf)))))
theorem zfl:Entry Go.Proofs.Tryz.prog 83 zdp false:=
 za0 (C:=zs5) (fn:=Go.Proofs.Tryz.f83) (c:=zru) (an:=zrl) ⟨zd4,zbd,zp2,zk2,trivial⟩ trivial Go.Proofs.Tryz.func83 rfl rfl (by decide) (λ_=>rfl) (by intro a K D;kernel_rfl)
noncomputable def zlc:ArgT (Sl×Unit):=(ArgT.cons (Ty.leaf .sl) ArgT.nil)
noncomputable def zle:Ty Sl:=(Ty.leaf .sl)
noncomputable def zde:FSem:=mkE zlc zle (λa=>F.zbt a.1)
noncomputable def zln:Cfg:={ P:=Go.Proofs.Tryz.prog,n:=25,tab:=[(79,zb0),(75,zdf),(38,zc5)],mutL:=[],rtL:=[],locL:=[5,20] }
noncomputable def zll:Code:=match Go.Proofs.Tryz.f26.body with | some c=>c | none=>.skip
noncomputable def zlg:An:=(.seq .leaf (.seq .leaf (.seq (.seq .leaf (.block (.loop [(3,.leaf (.sl)),(8,.leaf (.int .i64))] (.seq .leaf (.seq (.cond .leaf .leaf) (.join [(3,.leaf (.sl))] (.block (.seq .leaf (.seq .leaf (.cond (.draw [0,1,2,3,4,5,6,7]) .leaf)))) .leaf)))))) (.seq .leaf .leaf))))
theorem zfs:Entry Go.Proofs.Tryz.prog 26 zde false:=
 za0 (C:=zln) (fn:=Go.Proofs.Tryz.f26) (c:=zll) (an:=zlg) ⟨zbd,zej,zd4,trivial⟩ trivial Go.Proofs.Tryz.func26 rfl rfl (by decide) (λ_=>rfl) (by intro a K D;kernel_rfl)
noncomputable def zv8:ArgT (Sl×Sl×Unit):=(ArgT.cons (Ty.leaf .sl) (ArgT.cons (Ty.leaf .sl) ArgT.nil))
noncomputable def zve:Ty Sl:=(Ty.leaf .sl)
noncomputable def zlt:FSem:=mkE zv8 zve (λa=>F.zdi a.1 a.2.1)
noncomputable def zvx:Cfg:={ P:=Go.Proofs.Tryz.prog,n:=24,tab:=[(83,zdp),(77,zdc)],mutL:=[],rtL:=[],locL:=[] }
noncomputable def zvr:Code:=match Go.Proofs.Tryz.f123.body with | some c=>c | none=>.skip
noncomputable def zvl:An:=(.seq .leaf (.seq .leaf (.seq (.block (.loop [(0,.leaf (.sl)),(1,.leaf (.sl))] (.seq (.seq .leaf (.cond .leaf .leaf)) (.block (.seq .leaf .leaf))))) (.seq .leaf .leaf))))
theorem zwf:Entry Go.Proofs.Tryz.prog 123 zlt false:=
 za0 (C:=zvx) (fn:=Go.Proofs.Tryz.f123) (c:=zvr) (an:=zvl) ⟨zfl,zf3,trivial⟩ trivial Go.Proofs.Tryz.func123 rfl rfl (by decide) (λ_=>rfl) (by intro a K D;kernel_rfl)
noncomputable def zld:ArgT (Sl×Unit):=(ArgT.cons (Ty.leaf .sl) ArgT.nil)
noncomputable def zlf:Ty Sl:=(Ty.leaf .sl)
noncomputable def zfm:FSem:=mkE zld zlf (λa=>F.zb8 a.1)
noncomputable def zlo:Cfg:={ P:=Go.Proofs.Tryz.prog,n:=21,tab:=[(83,zdp),(26,zde),(123,zlt),(77,zdc)],mutL:=[],rtL:=[],locL:=[] }
noncomputable def zlm:Code:=match Go.Proofs.Tryz.f69.body with | some c=>c | none=>.skip
noncomputable def zlh:An:=(.seq .leaf (.seq .leaf (.seq (.seq .leaf (.cond (.seq .leaf .leaf) .leaf)) (.seq .leaf (.seq .leaf .leaf)))))
theorem zmb:Entry Go.Proofs.Tryz.prog 69 zfm false:=
 za0 (C:=zlo) (fn:=Go.Proofs.Tryz.f69) (c:=zlm) (an:=zlh) ⟨zfl,zfs,zwf,zf3,trivial⟩ trivial Go.Proofs.Tryz.func69 rfl rfl (by decide) (λ_=>rfl) (by intro a K D;kernel_rfl)
noncomputable def za50:ArgT (TInt×TInt×Unit):=(ArgT.cons tyTInt (ArgT.cons tyTInt ArgT.nil))
noncomputable def za5m:Ty Int:=(Ty.leaf (.int .i64))
noncomputable def zqe:FSem:=mkE za50 za5m (λa=>F.zkj a.1 a.2.1)
noncomputable def za7g:Cfg:={ P:=Go.Proofs.Tryz.prog,n:=26,tab:=[(153,zji),(182,zfz),(139,zah),(163,zea)],mutL:=[],rtL:=[(18,2),(21,3)],locL:=[2,3] }
noncomputable def za6u:Code:=match Go.Proofs.Tryz.f155.body with | some c=>c | none=>.skip
noncomputable def za68:An:=(.seq .leaf (.seq (.draw [0,2,1,3,4,5]) (.seq (.seq .leaf (.cond (.seq .leaf .leaf) .leaf)) (.seq (.draw [0,1,2,4,5,3,6,7,8,9]) .leaf))))
theorem za8a:Entry Go.Proofs.Tryz.prog 155 zqe false:=
 za0 (C:=za7g) (fn:=Go.Proofs.Tryz.f155) (c:=za6u) (an:=za68) ⟨zox,zku,zam,zgg,trivial⟩ trivial Go.Proofs.Tryz.func155 rfl rfl (by decide) (λ_=>rfl) (by intro a K D;kernel_rfl)
noncomputable def za0r:ArgT (TRat×TRat×Unit):=(ArgT.cons tyTRat (ArgT.cons tyTRat ArgT.nil))
noncomputable def za1a:Ty Int:=(Ty.leaf (.int .i64))
noncomputable def zjn:FSem:=mkE za0r za1a (λa=>F.zga a.1 a.2.1)
noncomputable def za2v:Cfg:={ P:=Go.Proofs.Tryz.prog,n:=28,tab:=[(96,ze2),(87,zf6),(155,zqe)],mutL:=[],rtL:=[(17,2),(19,3),(22,3),(24,2)],locL:=[2,3] }
noncomputable def za2b:Code:=match Go.Proofs.Tryz.f98.body with | some c=>c | none=>.skip
noncomputable def za1s:An:=(.seq .leaf (.seq (.seq (.draw [0,2,1,3,4,5]) (.seq .leaf (.cond (.seq (.seq .leaf (.cond (.seq .leaf .leaf) .leaf)) (.seq .leaf .leaf)) .leaf))) (.seq (.draw [0,1,2,3,5,6,7,8,4,9,10,11]) .leaf)))
theorem zp1:Entry Go.Proofs.Tryz.prog 98 zjn false:=
 za0 (C:=za2v) (fn:=Go.Proofs.Tryz.f98) (c:=za2b) (an:=za1s) ⟨zff,zhp,za8a,trivial⟩ trivial Go.Proofs.Tryz.func98 rfl rfl (by decide) (λ_=>rfl) (by intro a K D;kernel_rfl)
noncomputable def zr1:ArgT (Sl×Unit):=(ArgT.cons (Ty.leaf .sl) ArgT.nil)
noncomputable def zra:Ty TRat:=tyTRat
noncomputable def zjl:FSem:=mkE zr1 zra (λa=>F.zes a.1)
noncomputable def zs3:Cfg:={ P:=Go.Proofs.Tryz.prog,n:=37,tab:=[(83,zdp),(79,zb0),(98,zjn),(96,ze2),(97,zg0),(74,zed)],mutL:=[],rtL:=[],locL:=[2,3,5] }
noncomputable def zrs:Code:=match Go.Proofs.Tryz.f34.body with | some c=>c | none=>.skip
noncomputable def zrj:An:=(.seq .leaf (.seq .leaf (.seq (.seq .leaf (.cond (.seq .leaf .leaf) .leaf)) (.seq .leaf (.seq (.seq .leaf (.block (.loop [(3,.box [.bool,.sl,.bool,.sl]),(19,.leaf (.int .i64))] (.seq .leaf (.seq (.cond .leaf .leaf) (.join [(3,.box [.bool,.sl,.bool,.sl])] (.block (.seq .leaf (.join [(5,.box [.bool,.sl,.bool,.sl])] (.seq .leaf (.cond .leaf .leaf)) (.seq .leaf (.cond .leaf .leaf))))) .leaf)))))) (.seq (.draw [0,1,2,3]) .leaf))))))
theorem zsp:Entry Go.Proofs.Tryz.prog 34 zjl false:=
 za0 (C:=zs3) (fn:=Go.Proofs.Tryz.f34) (c:=zrs) (an:=zrj) ⟨zfl,zbd,zp1,zff,zk3,zgh,trivial⟩ trivial Go.Proofs.Tryz.func34 rfl rfl (by decide) (λ_=>rfl) (by intro a K D;kernel_rfl)
noncomputable def zft:ArgT (Sl×Unit):=(ArgT.cons (Ty.leaf .sl) ArgT.nil)
noncomputable def zfu:Ty Addr:=(Ty.clo 156)
noncomputable def zcn:FSem:=mkE zft zfu (λa=>F.zaz a.1)
noncomputable def zfx:Cfg:={ P:=Go.Proofs.Tryz.prog,n:=4,tab:=[],mutL:=[],rtL:=[],locL:=[] }
noncomputable def zfw:Code:=match Go.Proofs.Tryz.f106.body with | some c=>c | none=>.skip
noncomputable def zfv:An:=(.seq .leaf (.seq .leaf .leaf))
theorem zfy:Entry Go.Proofs.Tryz.prog 106 zcn false:=
 za0 (C:=zfx) (fn:=Go.Proofs.Tryz.f106) (c:=zfw) (an:=zfv) trivial trivial Go.Proofs.Tryz.func106 rfl rfl (by decide) (λ_=>rfl) (by intro a K D;kernel_rfl)
end Den
end

section
namespace Den
open Go Go.RowKit Go.Shelf
open Go.Proofs
attribute [local go_sem] Oper.semAt_some
set_option maxRecDepth 100000 in
set_option maxHeartbeats 2000000 in
theorem zry:BackFn Tryz.prog 156 (.agg [.bool,.sl,.bool,.sl]):=by
 refine⟨enters_of Tryz.func156 (by kernel_rfl) rfl,?_⟩
 rintro l ab ⟨xa,xl,xc⟩ J w hxl h0 hbox hround
 simp only at hxl h0 hbox hround
 have hb0:=hbox _ _ h0
 refine callsIn_of_wp Tryz.func156 rfl trivial ?_ rfl
 simp only[Tryz.ntmps156,List.size_toArray,List.length_cons,List.length_nil,Nat.reduceAdd,Nat.reduceSub,Array.replicate_succ,Array.replicate_zero,List.push_toArray,List.append_toArray,List.nil_append,List.cons_append]
 gi_wp2
 gi_loopw [3] (λi wr=>∃k:Nat,k<=xl/\i=.int .i64 ((k:Int)-1)/\J k wr) (λi _=>(RowKit.intOf i+1).toNat)
 case atStart=>exact⟨xl,Nat.le_refl _,rfl,h0⟩
 case round=>
  obtain⟨k,hk,rfl,hJ⟩:=hrel
  have hbx:=hbox _ _ hJ
  cases k with
  | zero=>
    gi_wp2
    go_end0
    exact⟨⟨_,rfl⟩,hJ⟩
  | succ j=>
    obtain⟨ad,⟨v0,v1,v2,v3,_⟩,hxa,hcells,f,tmps1,asg,body,hy,hR⟩:=hround j wr (by omega) hJ
    subst hxa
    have hc:∀i u,[Value.bool v0,.slice v1.a v1.len v1.cap,.bool v2,.slice v3.a v3.len v3.cap][i]?=some u->wr.cell? (ad.add (j*4+i))=some u:=λi u hu=>by
     have:=hcells i u (by simpa [STy.cells,LT.up,Lf.up] using hu)
     simpa [STy.size] using this
    have hc0:=hc 0 _ rfl
    have hk1:∀i,0<i->ad.add (j*4+i)={ block:=(ad.add (j*4)).block,off:=(ad.add (j*4)).off+i }:=λi hi=>by
     rw[zcd,zhb]
     unfold Addr.add
     rw[if_neg (by omega)]
     congr 1
     omega
    have hc1:=hc 1 _ rfl
    have hc2:=hc 2 _ rfl
    have hc3:=hc 3 _ rfl
    rw[hk1 _ (by decide)]at hc1 hc2 hc3
    rw[Nat.add_zero]at hc0
    have hkj:(((j+1:Nat):Int)-1)=(j:Int):=by omega
    rw[hkj]
    simp only[STy.val,LT.up,Lf.up]at hy
    gi_wp2
    refine⟨rfl,hR.mono ?_⟩
    rintro e W3 ⟨rfl,hJ3⟩
    gi_wp2
    go_roundw
    case rel=>exact⟨j,by omega,by simp,hJ3⟩
    case measure=>simp[RowKit.intOf]
end Den
end

section
set_option maxRecDepth 100000
namespace Den
open Go
noncomputable def zae1:Code:=match Go.Proofs.Tryz.f45.body with | some c=>c | none=>.skip
noncomputable def zacu:ArgT (TInt×Unit):=(ArgT.cons tyTInt ArgT.nil)
noncomputable def zadc:Ty Bool:=(Ty.leaf .bool)
noncomputable def zki:FSem:=mkE zacu zadc (λa=>F.zez a.1)
noncomputable def zaer:Cfg:={ P:=Go.Proofs.Tryz.prog,n:=19,tab:=[],mutL:=[],rtL:=[(3,1),(8,1),(15,1)],locL:=[1] }
noncomputable def zaec:Code:=match Go.Proofs.Tryz.f99.body with | some c=>c | none=>.skip
noncomputable def zads:An:=(.seq .leaf (.seq .leaf .leaf))
theorem zp6:Entry Go.Proofs.Tryz.prog 99 zki false:=
 za0 (C:=zaer) (fn:=Go.Proofs.Tryz.f99) (c:=zaec) (an:=zads) trivial trivial Go.Proofs.Tryz.func99 rfl rfl (by decide) (λ_=>rfl) (by intro a K D;kernel_rfl)
noncomputable def zacs:ArgT (TRat×TRat×Unit):=(ArgT.cons tyTRat (ArgT.cons tyTRat ArgT.nil))
noncomputable def zada:Ty TRat:=tyTRat
noncomputable def zws:FSem:=mkE zacs zada (λa=>F.zpl a.1 a.2.1)
noncomputable def zaep:Cfg:={ P:=Go.Proofs.Tryz.prog,n:=65,tab:=[(90,zkh),(134,zod),(91,zhw),(99,zki),(81,zc7)],mutL:=[],rtL:=[(7,2),(8,2),(13,3),(14,3),(20,2),(24,3),(28,2),(30,3),(33,2),(36,2),(38,3),(41,3),(43,2),(46,2),(50,3),(55,2),(59,3)],locL:=[2,3,4,5,6] }
noncomputable def zaea:Code:=match Go.Proofs.Tryz.f80.body with | some c=>c | none=>.skip
noncomputable def zadq:An:=(.seq .leaf (.join [(4,.box [.bool,.sl,.bool,.sl])] (.seq .leaf (.cond (.seq .leaf .leaf) .leaf)) (.join [(4,.box [.bool,.sl,.bool,.sl])] (.seq .leaf (.cond (.seq (.draw [0,1,2,3,5,6,4,7,8]) .leaf) .leaf)) (.seq (.draw [0,1,2,3,5,6,7,8,10,11,4,9,12,13]) (.seq (.draw [0,1,2,4,5,6,9,10,11,13,14,15,3,7,8,12,16,17,18,19]) .leaf)))))
theorem zagl:Entry Go.Proofs.Tryz.prog 80 zws false:=
 za0 (C:=zaep) (fn:=Go.Proofs.Tryz.f80) (c:=zaea) (an:=zadq) ⟨zp4,zxa,zkw,zp6,zcr,trivial⟩ trivial Go.Proofs.Tryz.func80 rfl rfl (by decide) (λ_=>rfl) (by intro a K D;kernel_rfl)
noncomputable def za9l:ArgT (TRat×Unit):=(ArgT.cons tyTRat ArgT.nil)
noncomputable def za9w:Ty Int:=(Ty.leaf (.int .i64))
noncomputable def zub:FSem:=mkE za9l za9w (λa=>F.zmv a.1)
noncomputable def zaav:Cfg:={ P:=Go.Proofs.Tryz.prog,n:=6,tab:=[(92,zg4)],mutL:=[],rtL:=[(3,1)],locL:=[1] }
noncomputable def zaai:Code:=match Go.Proofs.Tryz.f32.body with | some c=>c | none=>.skip
noncomputable def zaa7:An:=(.seq .leaf (.seq .leaf .leaf))
theorem zacb:Entry Go.Proofs.Tryz.prog 32 zub false:=
 za0 (C:=zaav) (fn:=Go.Proofs.Tryz.f32) (c:=zaai) (an:=zaa7) ⟨ziy,trivial⟩ trivial Go.Proofs.Tryz.func32 rfl rfl (by decide) (λ_=>rfl) (by intro a K D;kernel_rfl)
noncomputable def za9n:ArgT (Sl×Unit):=(ArgT.cons (Ty.leaf .sl) ArgT.nil)
noncomputable def za9y:Ty Sl:=(Ty.leaf .sl)
noncomputable def zis:FSem:=mkE za9n za9y (λa=>F.zh6 a.1)
noncomputable def zaax:Cfg:={ P:=Go.Proofs.Tryz.prog,n:=24,tab:=[(32,zub)],mutL:=[],rtL:=[],locL:=[] }
noncomputable def zaak:Code:=match Go.Proofs.Tryz.f25.body with | some c=>c | none=>.skip
noncomputable def zaa9:An:=(.seq .leaf (.seq .leaf (.join [(3,.leaf (.int .i64))] (.block (.loop [(3,.leaf (.int .i64))] (.join [] (.seq .leaf (.cond .leaf .leaf)) (.block .leaf)))) (.seq .leaf .leaf))))
theorem zn4:Entry Go.Proofs.Tryz.prog 25 zis false:=
 za0 (C:=zaax) (fn:=Go.Proofs.Tryz.f25) (c:=zaak) (an:=zaa9) ⟨zacb,trivial⟩ trivial Go.Proofs.Tryz.func25 rfl rfl (by decide) (λ_=>rfl) (by intro a K D;kernel_rfl)
noncomputable def za5e:ArgT (Sl×TRat×Unit):=(ArgT.cons (Ty.leaf .sl) (ArgT.cons tyTRat ArgT.nil))
noncomputable def za60:Ty Sl:=(Ty.leaf .sl)
noncomputable def zl2:FSem:=mkE za5e za60 (λa=>F.zi4 a.1 a.2.1)
noncomputable def za7u:Cfg:={ P:=Go.Proofs.Tryz.prog,n:=24,tab:=[(80,zws),(25,zis)],mutL:=[],rtL:=[],locL:=[3,20] }
noncomputable def za78:Code:=match Go.Proofs.Tryz.f33.body with | some c=>c | none=>.skip
noncomputable def za6m:An:=(.seq .leaf (.seq .leaf (.seq (.seq .leaf (.block (.loop [(5,.leaf (.sl)),(6,.leaf (.int .i64))] (.seq (.seq .leaf (.cond .leaf .leaf)) (.seq (.block (.draw [0,1,2,3,4,5,6,7,8,9])) .leaf))))) (.seq .leaf .leaf))))
theorem zqt:Entry Go.Proofs.Tryz.prog 33 zl2 false:=
 za0 (C:=za7u) (fn:=Go.Proofs.Tryz.f33) (c:=za78) (an:=za6m) ⟨zagl,zn4,trivial⟩ trivial Go.Proofs.Tryz.func33 rfl rfl (by decide) (λ_=>rfl) (by intro a K D;kernel_rfl)
noncomputable def za9o:ArgT (Unit):=ArgT.nil
noncomputable def za9z:Ty TRat:=tyTRat
noncomputable def zmk:FSem:=mkE za9o za9z (λa=>F.zh7 )
noncomputable def zaay:Cfg:={ P:=Go.Proofs.Tryz.prog,n:=2,tab:=[(81,zc7)],mutL:=[],rtL:=[],locL:=[0] }
noncomputable def zaal:Code:=match Go.Proofs.Tryz.f101.body with | some c=>c | none=>.skip
noncomputable def zaaa:An:=(.seq .leaf (.seq .leaf .leaf))
theorem zv0:Entry Go.Proofs.Tryz.prog 101 zmk false:=
 za0 (C:=zaay) (fn:=Go.Proofs.Tryz.f101) (c:=zaal) (an:=zaaa) ⟨zcr,trivial⟩ trivial Go.Proofs.Tryz.func101 rfl rfl (by decide) (λ_=>rfl) (by intro a K D;kernel_rfl)
noncomputable def zagu:ArgT (Sl×Int×Unit):=(ArgT.cons (Ty.leaf .sl) (ArgT.cons (Ty.leaf (.int .i64)) ArgT.nil))
noncomputable def zagy:Ty TRat:=tyTRat
noncomputable def za3m:FSem:=mkE zagu zagy (λa=>F.zos a.1 a.2.1)
noncomputable def zahc:Cfg:={ P:=Go.Proofs.Tryz.prog,n:=18,tab:=[(101,zmk)],mutL:=[],rtL:=[],locL:=[4] }
noncomputable def zah5:Code:=match Go.Proofs.Tryz.f105.body with | some c=>c | none=>.skip
noncomputable def zah1:An:=(.seq .leaf (.join [(4,.box [.bool,.sl,.bool,.sl])] (.seq .leaf (.cond (.seq .leaf .leaf) .leaf)) (.seq .leaf .leaf)))
theorem zait:Entry Go.Proofs.Tryz.prog 105 za3m false:=
 za0 (C:=zahc) (fn:=Go.Proofs.Tryz.f105) (c:=zah5) (an:=zah1) ⟨zv0,trivial⟩ trivial Go.Proofs.Tryz.func105 rfl rfl (by decide) (λ_=>rfl) (by intro a K D;kernel_rfl)
noncomputable def zacq:ArgT (TRat×TRat×Unit):=(ArgT.cons tyTRat (ArgT.cons tyTRat ArgT.nil))
noncomputable def zad8:Ty TRat:=tyTRat
noncomputable def zwq:FSem:=mkE zacq zad8 (λa=>F.zpk a.1 a.2.1)
noncomputable def zaen:Cfg:={ P:=Go.Proofs.Tryz.prog,n:=94,tab:=[(90,zkh),(99,zki),(91,zhw),(151,zkg),(134,zod)],mutL:=[],rtL:=[(11,2),(12,2),(17,3),(18,3),(23,2),(27,3),(31,2),(33,3),(36,2),(39,2),(41,3),(46,2),(48,3),(51,3),(53,2),(58,2),(60,3),(64,2),(68,3),(72,2),(76,3),(88,3)],locL:=[2,3,4,5,6,7,8,9,10] }
noncomputable def zae8:Code:=match Go.Proofs.Tryz.f103.body with | some c=>c | none=>.skip
noncomputable def zado:An:=(.seq .leaf (.seq (.seq .leaf (.cond (.seq .leaf .leaf) .leaf)) (.seq (.seq .leaf (.cond (.seq .leaf .leaf) .leaf)) (.join [(4,.box [.bool,.sl,.bool,.sl])] (.seq .leaf (.cond (.seq (.draw [0,1,2,3,5,6,4,7,8]) .leaf) .leaf)) (.seq .leaf (.seq (.seq .leaf (.cond (.seq (.draw [0,1,2,3,5,6,7,8,11,4,9,10,12]) (.seq (.draw [0,1,2,3,4,5,6,7]) .leaf)) .leaf)) (.seq (.draw [0,1,2,4,5,6,8,9,3,7,10,11]) (.seq (.draw [0,1,2,4,5,6,9,3,7,8,10]) (.seq .leaf (.seq (.draw [0,1,3,4,5,6,2,7,8,9,10]) .leaf))))))))))
theorem zagj:Entry Go.Proofs.Tryz.prog 103 zwq false:=
 za0 (C:=zaen) (fn:=Go.Proofs.Tryz.f103) (c:=zae8) (an:=zado) ⟨zp4,zp6,zkw,zp3,zxa,trivial⟩ trivial Go.Proofs.Tryz.func103 rfl rfl (by decide) (λ_=>rfl) (by intro a K D;kernel_rfl)
noncomputable def zacw:ArgT (Sl×Sl×Unit):=(ArgT.cons (Ty.leaf .sl) (ArgT.cons (Ty.leaf .sl) ArgT.nil))
noncomputable def zadf:Ty Sl:=(Ty.leaf .sl)
noncomputable def zoe:FSem:=mkE zacw zadf (λa=>F.zm1 a.1 a.2.1)
noncomputable def zaet:Cfg:={ P:=Go.Proofs.Tryz.prog,n:=31,tab:=[(25,zis),(105,za3m),(103,zwq)],mutL:=[],rtL:=[],locL:=[27] }
noncomputable def zaee:Code:=match Go.Proofs.Tryz.f40.body with | some c=>c | none=>.skip
noncomputable def zadu:An:=(.seq .leaf (.seq .leaf (.join [(5,.leaf (.sl))] (.seq .leaf (.block (.loop [(5,.leaf (.sl)),(6,.leaf (.int .i64))] (.join [] (.seq .leaf (.cond .leaf .leaf)) (.seq (.block .leaf) .leaf))))) (.seq .leaf .leaf))))
theorem zxb:Entry Go.Proofs.Tryz.prog 40 zoe false:=
 za0 (C:=zaet) (fn:=Go.Proofs.Tryz.f40) (c:=zaee) (an:=zadu) ⟨zn4,zait,zagj,trivial⟩ trivial Go.Proofs.Tryz.func40 rfl rfl (by decide) (λ_=>rfl) (by intro a K D;kernel_rfl)
noncomputable def zacy:ArgT (Sl×Sl×Unit):=(ArgT.cons (Ty.leaf .sl) (ArgT.cons (Ty.leaf .sl) ArgT.nil))
noncomputable def zadh:Ty Sl:=(Ty.leaf .sl)
noncomputable def zwv:FSem:=mkE zacy zadh (λa=>F.zpn a.1 a.2.1)
noncomputable def zaev:Cfg:={ P:=Go.Proofs.Tryz.prog,n:=10,tab:=[(81,zc7),(33,zl2),(40,zoe)],mutL:=[],rtL:=[],locL:=[] }
noncomputable def zaeg:Code:=match Go.Proofs.Tryz.f42.body with | some c=>c | none=>.skip
noncomputable def zadw:An:=(.seq .leaf (.seq .leaf .leaf))
theorem zago:Entry Go.Proofs.Tryz.prog 42 zwv false:=
 za0 (C:=zaev) (fn:=Go.Proofs.Tryz.f42) (c:=zaeg) (an:=zadw) ⟨zcr,zqt,zxb,trivial⟩ trivial Go.Proofs.Tryz.func42 rfl rfl (by decide) (λ_=>rfl) (by intro a K D;kernel_rfl)
noncomputable def za9m:ArgT (Sl×Sl×Unit):=(ArgT.cons (Ty.leaf .sl) (ArgT.cons (Ty.leaf .sl) ArgT.nil))
noncomputable def za9x:Ty Bool:=(Ty.leaf .bool)
noncomputable def zuc:FSem:=mkE za9m za9x (λa=>F.zmw a.1 a.2.1)
noncomputable def zaaw:Cfg:={ P:=Go.Proofs.Tryz.prog,n:=10,tab:=[(42,zwv)],mutL:=[],rtL:=[],locL:=[] }
noncomputable def zaaj:Code:=match Go.Proofs.Tryz.f124.body with | some c=>c | none=>.skip
noncomputable def zaa8:An:=(.seq .leaf (.seq .leaf .leaf))
theorem zacc:Entry Go.Proofs.Tryz.prog 124 zuc false:=
 za0 (C:=zaaw) (fn:=Go.Proofs.Tryz.f124) (c:=zaaj) (an:=zaa8) ⟨zago,trivial⟩ trivial Go.Proofs.Tryz.func124 rfl rfl (by decide) (λ_=>rfl) (by intro a K D;kernel_rfl)
noncomputable def za5d:ArgT (Sl×Sl×Unit):=(ArgT.cons (Ty.leaf .sl) (ArgT.cons (Ty.leaf .sl) ArgT.nil))
noncomputable def za5z:Ty Bool:=(Ty.leaf .bool)
noncomputable def zqm:FSem:=mkE za5d za5z (λa=>F.zi3 a.1 a.2.1)
noncomputable def za7t:Cfg:={ P:=Go.Proofs.Tryz.prog,n:=15,tab:=[(124,zuc)],mutL:=[],rtL:=[],locL:=[] }
noncomputable def za77:Code:=match Go.Proofs.Tryz.f70.body with | some c=>c | none=>.skip
noncomputable def za6l:An:=(.seq .leaf (.seq .leaf .leaf))
theorem za8i:Entry Go.Proofs.Tryz.prog 70 zqm false:=
 za0 (C:=za7t) (fn:=Go.Proofs.Tryz.f70) (c:=za77) (an:=za6l) ⟨zacc,trivial⟩ trivial Go.Proofs.Tryz.func70 rfl rfl (by decide) (λ_=>rfl) (by intro a K D;kernel_rfl)
noncomputable def zacl:ArgT (TInt×TInt×Unit):=(ArgT.cons tyTInt (ArgT.cons tyTInt ArgT.nil))
noncomputable def zad3:Ty Int:=(Ty.leaf (.int .i64))
noncomputable def zwp:FSem:=mkE zacl zad3 (λa=>F.zpj a.1 a.2.1)
noncomputable def zaei:Cfg:={ P:=Go.Proofs.Tryz.prog,n:=9,tab:=[(150,zob),(92,zg4)],mutL:=[],rtL:=[],locL:=[2,3] }
noncomputable def zae3:Code:=match Go.Proofs.Tryz.f95.body with | some c=>c | none=>.skip
noncomputable def zadj:An:=(.seq .leaf (.seq .leaf .leaf))
theorem zagi:Entry Go.Proofs.Tryz.prog 95 zwp false:=
 za0 (C:=zaei) (fn:=Go.Proofs.Tryz.f95) (c:=zae3) (an:=zadj) ⟨zx9,ziy,trivial⟩ trivial Go.Proofs.Tryz.func95 rfl rfl (by decide) (λ_=>rfl) (by intro a K D;kernel_rfl)
noncomputable def za56:ArgT (TInt×Unit):=(ArgT.cons tyTInt ArgT.nil)
noncomputable def za5s:Ty Bool:=(Ty.leaf .bool)
noncomputable def zqi:FSem:=mkE za56 za5s (λa=>F.zi2 a.1)
noncomputable def za7m:Cfg:={ P:=Go.Proofs.Tryz.prog,n:=22,tab:=[(136,zba)],mutL:=[],rtL:=[(3,1),(7,1),(12,1),(16,1)],locL:=[1] }
noncomputable def za70:Code:=match Go.Proofs.Tryz.f94.body with | some c=>c | none=>.skip
noncomputable def za6e:An:=(.seq .leaf (.seq (.draw [0,1,4,5,6,2,3,7,8,9,10,11,12,13,14,15,16,17,18,19]) .leaf))
theorem za8e:Entry Go.Proofs.Tryz.prog 94 zqi false:=
 za0 (C:=za7m) (fn:=Go.Proofs.Tryz.f94) (c:=za70) (an:=za6e) ⟨zbq,trivial⟩ trivial Go.Proofs.Tryz.func94 rfl rfl (by decide) (λ_=>rfl) (by intro a K D;kernel_rfl)
noncomputable def za5c:ArgT (TRat×Unit):=(ArgT.cons tyTRat ArgT.nil)
noncomputable def za5y:Ty Bool:=(Ty.leaf .bool)
noncomputable def zql:FSem:=mkE za5c za5y (λa=>F.zko a.1)
noncomputable def za7s:Cfg:={ P:=Go.Proofs.Tryz.prog,n:=25,tab:=[(94,zqi),(92,zg4),(90,zkh),(99,zki)],mutL:=[],rtL:=[(3,1),(7,1),(12,1),(18,1),(20,1)],locL:=[1] }
noncomputable def za76:Code:=match Go.Proofs.Tryz.f35.body with | some c=>c | none=>.skip
noncomputable def za6k:An:=(.seq .leaf (.seq .leaf .leaf))
theorem za8h:Entry Go.Proofs.Tryz.prog 35 zql false:=
 za0 (C:=za7s) (fn:=Go.Proofs.Tryz.f35) (c:=za76) (an:=za6k) ⟨za8e,ziy,zp4,zp6,trivial⟩ trivial Go.Proofs.Tryz.func35 rfl rfl (by decide) (λ_=>rfl) (by intro a K D;kernel_rfl)
noncomputable def zacr:ArgT (TRat×TRat×Unit):=(ArgT.cons tyTRat (ArgT.cons tyTRat ArgT.nil))
noncomputable def zad9:Ty Int:=(Ty.leaf (.int .i64))
noncomputable def zwr:FSem:=mkE zacr zad9 (λa=>F.zj5 a.1 a.2.1)
noncomputable def zaeo:Cfg:={ P:=Go.Proofs.Tryz.prog,n:=16,tab:=[(91,zhw),(95,zwp)],mutL:=[],rtL:=[(5,2),(7,3),(10,3),(12,2)],locL:=[2,3] }
noncomputable def zae9:Code:=match Go.Proofs.Tryz.f36.body with | some c=>c | none=>.skip
noncomputable def zadp:An:=(.seq .leaf (.seq (.draw [0,1,2,3,5,6,7,8,4,9,10,11]) .leaf))
theorem zagk:Entry Go.Proofs.Tryz.prog 36 zwr false:=
 za0 (C:=zaeo) (fn:=Go.Proofs.Tryz.f36) (c:=zae9) (an:=zadp) ⟨zkw,zagi,trivial⟩ trivial Go.Proofs.Tryz.func36 rfl rfl (by decide) (λ_=>rfl) (by intro a K D;kernel_rfl)
noncomputable def za5f:ArgT (Sl×Int×Unit):=(ArgT.cons (Ty.leaf .sl) (ArgT.cons (Ty.leaf (.int .i64)) ArgT.nil))
noncomputable def za61:Ty Sl:=(Ty.leaf .sl)
noncomputable def zqn:FSem:=mkE za5f za61 (λa=>F.zkp a.1 a.2.1)
noncomputable def za7v:Cfg:={ P:=Go.Proofs.Tryz.prog,n:=20,tab:=[(101,zmk),(25,zis)],mutL:=[],rtL:=[],locL:=[14] }
noncomputable def za79:Code:=match Go.Proofs.Tryz.f76.body with | some c=>c | none=>.skip
noncomputable def za6n:An:=(.seq .leaf (.seq .leaf (.seq (.seq .leaf (.block (.loop [(5,.leaf (.sl)),(6,.leaf (.int .i64))] (.seq (.seq .leaf (.cond .leaf .leaf)) (.seq (.block .leaf) .leaf))))) (.seq .leaf .leaf))))
theorem za8j:Entry Go.Proofs.Tryz.prog 76 zqn false:=
 za0 (C:=za7v) (fn:=Go.Proofs.Tryz.f76) (c:=za79) (an:=za6n) ⟨zv0,zn4,trivial⟩ trivial Go.Proofs.Tryz.func76 rfl rfl (by decide) (λ_=>rfl) (by intro a K D;kernel_rfl)
noncomputable def zacx:ArgT (Sl×Sl×Unit):=(ArgT.cons (Ty.leaf .sl) (ArgT.cons (Ty.leaf .sl) ArgT.nil))
noncomputable def zadg:Ty Sl:=(Ty.leaf .sl)
noncomputable def zwu:FSem:=mkE zacx zadg (λa=>F.zm2 a.1 a.2.1)
noncomputable def zaeu:Cfg:={ P:=Go.Proofs.Tryz.prog,n:=24,tab:=[(33,zl2),(76,zqn),(40,zoe)],mutL:=[],rtL:=[],locL:=[] }
noncomputable def zaef:Code:=match Go.Proofs.Tryz.f21.body with | some c=>c | none=>.skip
noncomputable def zadv:An:=(.seq .leaf (.seq .leaf (.seq (.seq .leaf (.block (.loop [(5,.leaf (.sl)),(6,.leaf (.int .i64))] (.seq (.seq .leaf (.cond .leaf .leaf)) (.seq (.block .leaf) .leaf))))) (.seq .leaf .leaf))))
theorem zagn:Entry Go.Proofs.Tryz.prog 21 zwu false:=
 za0 (C:=zaeu) (fn:=Go.Proofs.Tryz.f21) (c:=zaef) (an:=zadv) ⟨zqt,za8j,zxb,trivial⟩ trivial Go.Proofs.Tryz.func21 rfl rfl (by decide) (λ_=>rfl) (by intro a K D;kernel_rfl)
end Den
end

section
set_option maxRecDepth 100000
namespace Den
open Go
noncomputable def zap3:Code:=match Go.Proofs.Tryz.f133.body with | some c=>c | none=>.skip
noncomputable def zact:ArgT (TRat×Unit):=(ArgT.cons tyTRat ArgT.nil)
noncomputable def zadb:Ty TRat:=tyTRat
noncomputable def zwt:FSem:=mkE zact zadb (λa=>F.zpm a.1)
noncomputable def zaeq:Cfg:={ P:=Go.Proofs.Tryz.prog,n:=9,tab:=[(93,zoa)],mutL:=[],rtL:=[(3,1),(6,1)],locL:=[1,2] }
noncomputable def zaeb:Code:=match Go.Proofs.Tryz.f117.body with | some c=>c | none=>.skip
noncomputable def zadr:An:=(.seq .leaf (.seq (.draw [0,1,3,4,2,5,6]) .leaf))
theorem zagm:Entry Go.Proofs.Tryz.prog 117 zwt false:=
 za0 (C:=zaeq) (fn:=Go.Proofs.Tryz.f117) (c:=zaeb) (an:=zadr) ⟨zx8,trivial⟩ trivial Go.Proofs.Tryz.func117 rfl rfl (by decide) (λ_=>rfl) (by intro a K D;kernel_rfl)
noncomputable def zsy:ArgT (Sl×TRat×Unit):=(ArgT.cons (Ty.leaf .sl) (ArgT.cons tyTRat ArgT.nil))
noncomputable def zt8:Ty TRat:=tyTRat
noncomputable def zkf:FSem:=mkE zsy zt8 (λa=>F.zfe a.1 a.2.1)
noncomputable def zu4:Cfg:={ P:=Go.Proofs.Tryz.prog,n:=19,tab:=[(79,zb0),(106,zcn),(75,zdf),(74,zed)],mutL:=[],rtL:=[],locL:=[3,4,5,7],backs:=[(156,(.agg [.bool,.sl,.bool,.sl]))] }
noncomputable def ztt:Code:=match Go.Proofs.Tryz.f46.body with | some c=>c | none=>.skip
noncomputable def zti:An:=(.seq .leaf (.seq .leaf (.seq (.seq .leaf (.block (.back [(5,.box [.bool,.sl,.bool,.sl])] .leaf (.block (.draw [0,1,3,2,4,5]))))) (.seq .leaf .leaf))))
theorem zuz:Entry Go.Proofs.Tryz.prog 46 zkf false:=
 za0 (C:=zu4) (fn:=Go.Proofs.Tryz.f46) (c:=ztt) (an:=zti) ⟨zbd,zfy,zej,zgh,trivial⟩ ⟨zry,trivial⟩ Go.Proofs.Tryz.func46 rfl rfl (by decide) (λ_=>rfl) (by intro a K D;kernel_rfl)
noncomputable def zxt:ArgT (Sl×TRat×Unit):=(ArgT.cons (Ty.leaf .sl) (ArgT.cons tyTRat ArgT.nil))
noncomputable def zy9:Ty Int:=(Ty.leaf (.int .i64))
noncomputable def ze3:FSem:=mkE zxt zy9 (λa=>F.zbk a.1 a.2.1)
noncomputable def zzn:Cfg:={ P:=Go.Proofs.Tryz.prog,n:=31,tab:=[(46,zkf),(96,ze2)],mutL:=[],rtL:=[],locL:=[3] }
noncomputable def zz6:Code:=match Go.Proofs.Tryz.f52.body with | some c=>c | none=>.skip
noncomputable def zyp:An:=(.seq .leaf (.seq .leaf (.seq (.seq .leaf (.block (.loop [(5,.leaf (.int .i64)),(6,.leaf (.int .i64)),(12,.leaf (.int .i64))] (.seq .leaf (.seq (.cond .leaf .leaf) (.join [(5,.leaf (.int .i64)),(6,.leaf (.int .i64))] (.block (.seq .leaf (.seq .leaf (.seq (.seq .leaf (.cond .leaf .leaf)) (.seq (.seq .leaf (.cond .leaf .leaf)) .leaf))))) .leaf)))))) (.seq .leaf .leaf))))
theorem zfg:Entry Go.Proofs.Tryz.prog 52 ze3 false:=
 za0 (C:=zzn) (fn:=Go.Proofs.Tryz.f52) (c:=zz6) (an:=zyp) ⟨zuz,zff,trivial⟩ trivial Go.Proofs.Tryz.func52 rfl rfl (by decide) (λ_=>rfl) (by intro a K D;kernel_rfl)
noncomputable def za9f:ArgT (Sl×Unit):=(ArgT.cons (Ty.leaf .sl) ArgT.nil)
noncomputable def za9q:Ty Sl:=(Ty.leaf .sl)
noncomputable def zmj:FSem:=mkE za9f za9q (λa=>F.zd6 a.1)
noncomputable def zaap:Cfg:={ P:=Go.Proofs.Tryz.prog,n:=19,tab:=[(81,zc7)],mutL:=[],rtL:=[],locL:=[15] }
noncomputable def zaac:Code:=match Go.Proofs.Tryz.f63.body with | some c=>c | none=>.skip
noncomputable def zaa1:An:=(.seq .leaf (.seq .leaf (.seq (.seq .leaf (.block (.loop [(3,.leaf (.sl)),(8,.leaf (.int .i64))] (.seq .leaf (.seq (.cond .leaf .leaf) (.seq (.block (.seq .leaf .leaf)) .leaf)))))) (.seq .leaf .leaf))))
theorem zuw:Entry Go.Proofs.Tryz.prog 63 zmj false:=
 za0 (C:=zaap) (fn:=Go.Proofs.Tryz.f63) (c:=zaac) (an:=zaa1) ⟨zcr,trivial⟩ trivial Go.Proofs.Tryz.func63 rfl rfl (by decide) (λ_=>rfl) (by intro a K D;kernel_rfl)
noncomputable def za5i:ArgT (Sl×Unit):=(ArgT.cons (Ty.leaf .sl) ArgT.nil)
noncomputable def za64:Ty Sl:=(Ty.leaf .sl)
noncomputable def zhe:FSem:=mkE za5i za64 (λa=>F.zdm a.1)
noncomputable def za7y:Cfg:={ P:=Go.Proofs.Tryz.prog,n:=42,tab:=[(39,zf2),(69,zfm),(26,zde),(22,zin),(79,zb0),(43,zfi)],mutL:=[],rtL:=[],locL:=[40] }
noncomputable def za7c:Code:=match Go.Proofs.Tryz.f107.body with | some c=>c | none=>.skip
noncomputable def za6q:An:=(.seq .leaf (.seq (.seq .leaf (.cond (.seq .leaf .leaf) .leaf)) (.seq .leaf (.seq .leaf (.seq .leaf (.block (.loop [(3,.leaf (.sl)),(4,.leaf (.sl)),(5,.leaf (.sl))] (.block (.seq .leaf (.join [] (.seq .leaf (.cond (.seq .leaf .leaf) .leaf)) (.seq .leaf .leaf)))))))))))
theorem zlb:Entry Go.Proofs.Tryz.prog 107 zhe false:=
 za0 (C:=za7y) (fn:=Go.Proofs.Tryz.f107) (c:=za7c) (an:=za6q) ⟨zio,zmb,zfs,zqb,zbd,zk2,trivial⟩ trivial Go.Proofs.Tryz.func107 rfl rfl (by decide) (λ_=>rfl) (by intro a K D;kernel_rfl)
noncomputable def za9p:ArgT (Sl×Sl×Unit):=(ArgT.cons (Ty.leaf .sl) (ArgT.cons (Ty.leaf .sl) ArgT.nil))
noncomputable def zaa0:Ty Bool:=(Ty.leaf .bool)
noncomputable def zud:FSem:=mkE za9p zaa0 (λa=>F.zmx a.1 a.2.1)
noncomputable def zaaz:Cfg:={ P:=Go.Proofs.Tryz.prog,n:=27,tab:=[(70,zqm)],mutL:=[],rtL:=[],locL:=[] }
noncomputable def zaam:Code:=match Go.Proofs.Tryz.f109.body with | some c=>c | none=>.skip
noncomputable def zaab:An:=(.seq .leaf (.seq (.seq .leaf (.cond (.seq .leaf .leaf) .leaf)) (.seq (.seq .leaf (.block (.loop [(5,.leaf (.int .i64))] (.seq (.seq .leaf (.cond .leaf .leaf)) (.seq (.block (.seq (.draw [0,1,2,3,4,5,6,7,8,9]) (.cond (.seq .leaf .leaf) .leaf))) .leaf))))) (.seq .leaf .leaf))))
theorem zacd:Entry Go.Proofs.Tryz.prog 109 zud false:=
 za0 (C:=zaaz) (fn:=Go.Proofs.Tryz.f109) (c:=zaam) (an:=zaab) ⟨za8i,trivial⟩ trivial Go.Proofs.Tryz.func109 rfl rfl (by decide) (λ_=>rfl) (by intro a K D;kernel_rfl)
noncomputable def zxj:ArgT (Int×(Option Addr)×Unit):=(ArgT.cons (Ty.leaf (.int .i64)) (ArgT.cons (Ty.leaf .ptr) ArgT.nil))
noncomputable def zxz:Ty Int:=(Ty.leaf (.int .i64))
noncomputable def zna:FSem:=mkE zxj zxz (λa=>F.zfa a.1 a.2.1)
noncomputable def zzd:Cfg:={ P:=Go.Proofs.Tryz.prog,n:=8,tab:=[(81,zc7),(52,ze3)],mutL:=[],rtL:=[],locL:=[] }
noncomputable def zyw:Code:=match Go.Proofs.Tryz.f108.body with | some c=>c | none=>.skip
noncomputable def zyf:An:=(.seq .leaf (.seq (.draw [0,1,2,3,4]) .leaf))
theorem zzv:Entry Go.Proofs.Tryz.prog 108 zna false:=
 za0 (C:=zzd) (fn:=Go.Proofs.Tryz.f108) (c:=zyw) (an:=zyf) ⟨zcr,zfg,trivial⟩ trivial Go.Proofs.Tryz.func108 rfl rfl (by decide) (λ_=>rfl) (by intro a K D;kernel_rfl)
noncomputable def za12:ArgT (Sl×Unit):=(ArgT.cons (Ty.leaf .sl) ArgT.nil)
noncomputable def za1l:Ty TInterval:=tyTInterval
noncomputable def zjq:FSem:=mkE za12 za1l (λa=>F.zf0 a.1)
noncomputable def za36:Cfg:={ P:=Go.Proofs.Tryz.prog,n:=10,tab:=[(34,zjl),(97,zg0)],mutL:=[],rtL:=[],locL:=[2,3] }
noncomputable def za2m:Code:=match Go.Proofs.Tryz.f113.body with | some c=>c | none=>.skip
noncomputable def za23:An:=(.seq .leaf (.seq .leaf (.seq (.draw [0,2,1,3,4]) .leaf)))
theorem zp7:Entry Go.Proofs.Tryz.prog 113 zjq false:=
 za0 (C:=za36) (fn:=Go.Proofs.Tryz.f113) (c:=za2m) (an:=za23) ⟨zsp,zk3,trivial⟩ trivial Go.Proofs.Tryz.func113 rfl rfl (by decide) (λ_=>rfl) (by intro a K D;kernel_rfl)
noncomputable def zxv:ArgT (Sl×TRat×TRat×Unit):=(ArgT.cons (Ty.leaf .sl) (ArgT.cons tyTRat (ArgT.cons tyTRat ArgT.nil)))
noncomputable def zyb:Ty Int:=(Ty.leaf (.int .i64))
noncomputable def znh:FSem:=mkE zxv zyb (λa=>F.zho a.1 a.2.1 a.2.2.1)
noncomputable def zzp:Cfg:={ P:=Go.Proofs.Tryz.prog,n:=14,tab:=[(52,ze3)],mutL:=[],rtL:=[],locL:=[4,5] }
noncomputable def zz8:Code:=match Go.Proofs.Tryz.f111.body with | some c=>c | none=>.skip
noncomputable def zyr:An:=(.seq .leaf (.seq (.draw [0,1,3,4,2,5,6,7]) .leaf))
theorem za02:Entry Go.Proofs.Tryz.prog 111 znh false:=
 za0 (C:=zzp) (fn:=Go.Proofs.Tryz.f111) (c:=zz8) (an:=zyr) ⟨zfg,trivial⟩ trivial Go.Proofs.Tryz.func111 rfl rfl (by decide) (λ_=>rfl) (by intro a K D;kernel_rfl)
noncomputable def za5j:ArgT (Sl×TRat×TRat×Unit):=(ArgT.cons (Ty.leaf .sl) (ArgT.cons tyTRat (ArgT.cons tyTRat ArgT.nil)))
noncomputable def za65:Ty Int:=(Ty.leaf (.int .i64))
noncomputable def zl4:FSem:=mkE za5j za65 (λa=>F.zfr a.1 a.2.1 a.2.2.1)
noncomputable def za7z:Cfg:={ P:=Go.Proofs.Tryz.prog,n:=16,tab:=[(98,zjn),(107,zhe),(111,znh)],mutL:=[],rtL:=[],locL:=[4,5] }
noncomputable def za7d:Code:=match Go.Proofs.Tryz.f54.body with | some c=>c | none=>.skip
noncomputable def za6r:An:=(.seq .leaf (.seq (.seq .leaf (.cond (.seq .leaf .leaf) .leaf)) (.seq (.draw [0,2,3,1,4,5]) .leaf)))
theorem zqv:Entry Go.Proofs.Tryz.prog 54 zl4 false:=
 za0 (C:=za7z) (fn:=Go.Proofs.Tryz.f54) (c:=za7d) (an:=za6r) ⟨zp1,zlb,za02,trivial⟩ trivial Go.Proofs.Tryz.func54 rfl rfl (by decide) (λ_=>rfl) (by intro a K D;kernel_rfl)
noncomputable def za5k:ArgT (Sl×Unit):=(ArgT.cons (Ty.leaf .sl) ArgT.nil)
noncomputable def za66:Ty Int:=(Ty.leaf (.int .i64))
noncomputable def zl5:FSem:=mkE za5k za66 (λa=>F.zei a.1)
noncomputable def za80:Cfg:={ P:=Go.Proofs.Tryz.prog,n:=12,tab:=[(113,zjq),(54,zl4)],mutL:=[],rtL:=[(7,3),(9,3)],locL:=[3] }
noncomputable def za7e:Code:=match Go.Proofs.Tryz.f57.body with | some c=>c | none=>.skip
noncomputable def za6s:An:=(.seq .leaf (.seq .leaf (.seq .leaf .leaf)))
theorem zqw:Entry Go.Proofs.Tryz.prog 57 zl5 false:=
 za0 (C:=za80) (fn:=Go.Proofs.Tryz.f57) (c:=za7e) (an:=za6s) ⟨zp7,zqv,trivial⟩ trivial Go.Proofs.Tryz.func57 rfl rfl (by decide) (λ_=>rfl) (by intro a K D;kernel_rfl)
noncomputable def za54:ArgT (Unit):=ArgT.nil
noncomputable def za5q:Ty Bool:=(Ty.leaf .bool)
noncomputable def zqg:FSem:=mkE za54 za5q (λa=>F.zcv )
noncomputable def za7k:Cfg:={ P:=Go.Proofs.Tryz.prog,n:=32,tab:=[(63,zmj),(107,zhe),(109,zud),(108,zna),(57,zl5)],mutL:=[],rtL:=[],locL:=[] }
noncomputable def za6y:Code:=match Go.Proofs.Tryz.f49.body with | some c=>c | none=>.skip
noncomputable def za6c:An:=(.seq .leaf (.seq .leaf (.seq .leaf (.seq (.draw [0,1,2,3,4,5,6,7,8,9,10,11,12,13,14,15,16,17,18,19,20,21,22,23,24,25]) .leaf))))
theorem za8c:Entry Go.Proofs.Tryz.prog 49 zqg false:=
 za0 (C:=za7k) (fn:=Go.Proofs.Tryz.f49) (c:=za6y) (an:=za6c) ⟨zuw,zlb,zacd,zzv,zqw,trivial⟩ trivial Go.Proofs.Tryz.func49 rfl rfl (by decide) (λ_=>rfl) (by intro a K D;kernel_rfl)
end Den
end
