/-
  Part 7 of the tools and contracts from which the statement is proved.
-/
import Derived.Test.YtijmjfcnjfnpgaaGreatDoorPartr6
import Derived.Calls
set_option linter.all false
open Go.IntKind
open Nat renaming le_refl→Ja,mul_le_mul_right→Jj,lt_or_ge→Jo,add_mul→Js,le_trans→Jt,mul_one→J7,add_zero→Uy,zero_add→Gi,min_eq_left→Gk,eq_of_mul_eq_mul_right→Gn,add_sub_cancel_left→To,zero_mul→Pn,one_mul→Pr,lt_irrefl→Pz
open List renaming getElem?_eq_getElem→Jc,take_of_length_le→Jd,length_append→Je,getD_eq_getElem?_getD→Jf,getElem_mem→Jh,take_append_getElem→Jk,length_take→Jl,eq_nil_of_length_eq_zero→Jn,range→Jp,replicate→Jr,mem_cons→Ju,take_length→Jw,take_append_of_le_length→Jx,all_eq_true→Jz,length_map→J1,length_cons→J3,getElem?_eq_none→J5,mem_singleton→J6,getElem_cons_zero→Ua,mem_append→Ub,countP_singleton→Uc,map_append→Uf,getElem?_append_left→Uh,not_mem_nil→Uk,countP_append→Uo,append_assoc→Uq,flatMap_cons→Ur,mem_cons_of_mem→Us,mem_cons_self→Ut,getElem?_map→Uw,getElem?_append_right→Uz,map_cons→U3,length_set→Gl,range_succ→Gp,length_singleton→Gr,append_nil→Gt,getElem?_drop→Gy,flatMap_append→G5,cons_append→G9,mem_filter→Ta,getElem_append_right→Te,nil_append→Tf,length_range→Ti,getElem_append_left→Tk,getElem_map→Ts,drop_drop→T7,countP_cons→T9,map_nil→Pg,pairwise_iff_getElem→Pt,pairwise_cons→Px,getElem?_range→P8
open Option.some renaming injEq→Jm,inj→J9
open Bool renaming and_eq_true→Jv,false_eq_true→J0,not_eq_true'→Gc,and_true→Pl
open Classical renaming byContradiction→Jy
open Option renaming map_some→U0
open Go.Value renaming int→Ge,bool→T6
open Iff renaming rfl→Pc
open Rat renaming intCast_sub→Ld
section
namespace Den
open Go Iv Lx
def zbj(n:Nat)(X:Int->Bool):List Int:=(z8h n).filter X
theorem z5w{n:Nat}{X:Int->Bool}{x:Int}:x∈zbj n X↔(0<=x/\x<n)/\X x=true:=by
 unfold zbj;rw[Ta,z9n]
theorem zzu{n:Nat}{X:Int->Bool}:szX n X=(zbj n X).length:=by
 unfold szX zbj z8h;rw[List.filter_map,J1,List.countP_eq_length_filter];rfl
theorem Zev{n:Nat}{X:Int->Bool}{i:Nat}(hi:i<n)(hX:X (i:Int)=true):szX n X=szX n (λx=>X x&&x != (i:Int))+1:=by
 unfold szX;have key:∀m,(Jp m).countP (λj:Nat=>X (j:Int))=(Jp m).countP (λj:Nat=>X (j:Int)&&(j:Int) != (i:Int))+(if i<m then 1 else 0):=by
  intro m;induction m with
  | zero=>simp
  | succ m ih=>
    rw[Gp,Uo,Uo,ih,Uc,Uc];by_cases hm:m=i
    . subst hm;simp[hX]
    . have e1:(if i<m+1 then 1 else 0)=(if i<m then 1 else 0):=by
       by_cases hh:i<m
       . rw[if_pos hh,if_pos (by omega)]
       . rw[if_neg hh,if_neg (by omega)]
      have e2:((m:Int) != (i:Int))=true:=by simp;omega
      rw[e1,e2,Pl];omega
 rw[key n,if_pos hi]
theorem zyx{n:Nat}{X:Int->Bool}{i:Int}:∀{es:List (Int×Int)},(∀e∈es,0<=e.1/\e.1<e.2/\e.2<(n:Int))->z0u es X=z0u es (λx=>X x&&x != i)+We es (zbj n X) i
 | [],_=>rfl
 | e :: es,h=>by
   have ih:=zyx (X:=X) (i:=i) (es:=es) λe he=>h e (Us _ he)
   have hr:=h e (Ut ..);unfold z0u We at ih |-
   rw[T9,T9,T9,ih];have m1:decide (e.1∈zbj n X)=X e.1:=by
    cases hx:X e.1 with
    | true=>exact decide_eq_true (z5w.2 ⟨⟨by omega,by omega⟩,hx⟩)
    | false=>exact decide_eq_false λhh=>by rw[(z5w.1 hh).2]at hx;cases hx
   have m2:decide (e.2∈zbj n X)=X e.2:=by
    cases hx:X e.2 with
    | true=>exact decide_eq_true (z5w.2 ⟨⟨by omega,by omega⟩,hx⟩)
    | false=>exact decide_eq_false λhh=>by rw[(z5w.1 hh).2]at hx;cases hx
   rw[m1,m2];have H:(if (X e.1&&X e.2)=true then 1 else 0)=(if ((X e.1&&e.1 != i)&&(X e.2&&e.2 != i))=true then 1 else 0)+(if (X e.1&&X e.2&&(e.1==i||e.2==i))=true then 1 else 0):=by
    cases h1:X e.1<;>cases h2:X e.2<;>by_cases h3:e.1=i<;>by_cases h4:e.2=i<;>first | (exfalso;omega) | (simp[h3,h4];done)
   rw[H];exact Nat.add_add_add_comm _ _ _ _
theorem zuv{a b c:Int×Int}(h1:z29 a b)(h2:z29 b c):z29 a c:=by
 unfold z29 at *;omega
theorem GV.lt{n:Int}{es:List (Int×Int)}(h:GV n es):∀k j (hk:k<es.length) (hj:j<k),z29 (es[j]'(by omega)) es[k]
 | 0,j,_,hj=>by omega
 | k+1,j,hk,hj=>by
   have h1:=h.2.2 k hk;by_cases hjk:j=k
   . subst hjk;exact h1
   . exact zuv (GV.lt h k j (by omega) (by omega)) h1
theorem zjy{α:Type}{p:α->Bool}:∀{l:List α},l.Pairwise (λa b=>¬(p a=true/\p b=true))->l.countP p<=1
 | [],_=>by simp
 | a :: r,h=>by
   rw[Px]at h;rw[T9];by_cases hp:p a=true
   . rw[if_pos hp];have:r.countP p=0:=List.countP_eq_zero.2 λb hb hh=>h.1 b hb ⟨hp,hh⟩
     omega
   . rw[if_neg hp];have:=zjy h.2;omega
theorem zrn{n:Nat}{es:List (Int×Int)}(hg:GV n es)(hc:IsCore n es []):X3 n es:=by
 suffices H:∀k (X:Int->Bool),szX n X=k+2->z0u es X+3<=2*(k+2) from λX hX=>by
  have:=H (szX n X-2) X (by omega);rw[show szX n X-2+2=szX n X by omega]at this;exact this
 intro k;induction k with
 | zero=>
   intro X hX;rw[zzu]at hX;obtain⟨p,q,hpq⟩:∃p q,zbj n X=[p,q]:=by
    generalize zbj n X=l at hX
    match l,hX with
    | [p,q],_=>exact⟨p,q,rfl⟩
   have hin:∀e∈es,(X e.1&&X e.2)=true->(e.1=p\/e.1=q)/\(e.2=p\/e.2=q)/\e.1<e.2:=λe he hx=>by
    have hr:=hg.2.1 e he;rw[Jv]at hx;have h1:e.1∈zbj n X:=z5w.2 ⟨⟨by omega,by omega⟩,hx.1⟩;have h2:e.2∈zbj n X:=z5w.2 ⟨⟨by omega,by omega⟩,hx.2⟩;rw[hpq]at h1 h2;simp only[Ju,Uk,or_false]at h1 h2;exact⟨h1,h2,hr.2.1⟩
   have:z0u es X<=1:=by
    unfold z0u;refine zjy (Pt.2 λi j hi hj hij=>?_);rintro⟨h1,h2⟩;have b:=hg.lt j i hj hij;have a1:=hin _ (Jh hi) h1;have a2:=hin _ (Jh hj) h2;unfold z29 at b;omega
   omega
 | succ k ih=>
   intro X hX;obtain⟨i,hi,hd⟩:∃i∈zbj n X,We es (zbj n X) i<=2:=by
    refine Jy λhno=>?_
    have hall:∀i∈zbj n X,3<=We es (zbj n X) i:=λi hi=>by
     rcases Jo (We es (zbj n X) i) 3 with h | h
     . exact absurd ⟨i,hi,by omega⟩ hno
     . exact h
    have hg2:=hc.great (zbj n X) (λi hi=>(z5w.1 hi).1) hall;rw[zzu]at hX;cases hl:zbj n X with
    | nil=>rw[hl]at hX;simp at hX
    | cons a r=>have:=hg2 a (by rw[hl];exact Ut ..);cases this
   obtain⟨⟨h0,h1⟩,hx⟩:=z5w.1 hi;obtain⟨j,rfl⟩:∃j:Nat,i=j:=⟨i.toNat,by omega⟩;have h2:=Zev (n:=n) (X:=X) (i:=j) (by omega) hx;have h3:=ih (λx=>X x&&x != (j:Int)) (by omega);rw[zyx (n:=n) (i:=(j:Int)) hg.2.1];omega
end Den
end

section
namespace Den
open Go Iv Lx
def slV(s:Sl):Value:=.slice s.a s.len s.cap
structure PG(D:Hp)(f:BM)(g:Option Addr)(n:Nat)(O:List (List Int))(bo:Nat)(ss:List Sl):Prop where
 ptr:∃p,g=some p/\D.cell (p.add 0)=some (.slice (some ⟨bo,0,none⟩) n n)
 slen:ss.length=n
 olen:O.length=n
 out:f bo=some (ss.map slV)
 row:∀v,v<n->OS f 1 (ss.getD v zf) ((O.getD v []).map ic)
 apt:∀v,v<n->¬inB (ss.getD v zf) bo
 apt2:∀u v,u<n->v<n->u≠v->∀b,inB (ss.getD u zf) b->¬inB (ss.getD v zf) b
structure PV(f:BM)(bo:Nat)(ss:List Sl)(n bv:Nat)(vis:List Bool):Prop where
 cells:f bv=some (vis.map T6)
 len:vis.length=n
 ne:bv≠bo
 apt:∀v,v<n->¬inB (ss.getD v zf) bv
theorem zz7{l:List Sl}{v:Nat}(h:v<l.length):(l.map slV)[v]?=some (slV (l.getD v zf)):=by
 rw[Uw,Jc h,Jf,Jc h];rfl
section
variable {D h : Hp} {f f2 : BM} {g : Option Addr} {n bo bv : Nat} {O : List (List Int)} {ss : List Sl} {vis : List Bool}
theorem PG.other{b:Nat}{cs:List Value}(pg:PG D f g n O bo ss)(h1:b≠bo)(h2:∀v,v<n->¬inB (ss.getD v zf) b):PG D (z1b f b cs) g n O bo ss:=
 ⟨pg.ptr,pg.slen,pg.olen,by rw[Q7 (λhh=>h1 hh.symm)];exact pg.out,λv hv=>(pg.row v hv).upd (h2 v hv),pg.apt,pg.apt2⟩
theorem PG.setRow{v:Nat}{y:Sl}{l:List Int}(pg:PG D f g n O bo ss)(hv:v<n)(hfr:∀b,f b≠none->¬inB (ss.getD v zf) b->f2 b=f b)(hy:OS f2 1 y (l.map ic))(hin:∀b,inB y b->inB (ss.getD v zf) b\/f b=none) :
 PG D (z1b f2 bo ((ss.set v y).map slV)) g n (O.set v l) bo (ss.set v y):=by
 have hsl:=pg.slen;have hol:=pg.olen;have ho:f bo≠none:=by rw[pg.out];simp
 have ya:¬inB y bo:=λhh=>by
  rcases hin bo hh with h1 | h1
  . exact pg.apt v hv h1
  . exact ho h1
 have gs:∀u,u≠v->(ss.set v y).getD u zf=ss.getD u zf:=λu hu=>Qv (λhh=>hu hh.symm)
 have gv:(ss.set v y).getD v zf=y:=Wb (by omega);refine⟨pg.ptr,by rw[Gl];exact hsl,by rw[Gl];exact hol,Z9,λu hu=>?_,λu hu=>?_,λu w hu hw huw b=>?_⟩
 . by_cases huv:u=v
   . subst huv;rw[gv,Wb (by omega)];exact hy.upd ya
   . rw[gs u huv,Qv (λhh=>huv hh.symm)];refine OS.upd ((pg.row u hu).congr λb hb=>hfr b ((pg.row u hu).there hb) (pg.apt2 u v hu hv huv b hb)) (pg.apt u hu)
 . by_cases huv:u=v
   . subst huv;rw[gv];exact ya
   . rw[gs u huv];exact pg.apt u hu
 . by_cases h1:u=v
   . subst h1;rw[gv,gs w (λhh=>huw hh.symm)];intro hb hw2;rcases hin b hb with h2 | h2
     . exact pg.apt2 u w hu hw huw b h2 hw2
     . exact(pg.row w hw).there hw2 h2
   . by_cases h2:w=v
     . subst h2;rw[gs u huw,gv];intro hb hw2;rcases hin b hw2 with h3 | h3
       . exact pg.apt2 u w hu hw huw b hb h3
       . exact(pg.row u hu).there hb h3
     . rw[gs u h1,gs w h2];exact pg.apt2 u w hu hw huw b
theorem PV.setRow{v:Nat}{y:Sl}(pv:PV f bo ss n bv vis)(hsl:ss.length=n)(hv:v<n)(hfr:∀b,f b≠none->¬inB (ss.getD v zf) b->f2 b=f b)(hin:∀b,inB y b->inB (ss.getD v zf) b\/f b=none){cs:List Value} :
 PV (z1b f2 bo cs) bo (ss.set v y) n bv vis:=by
 have hb:f bv≠none:=by rw[pv.cells];simp
 refine⟨?_,pv.len,pv.ne,λu hu=>?_⟩
 . rw[Q7 pv.ne,hfr bv hb (pv.apt v hv)];exact pv.cells
 . by_cases huv:u=v
   . subst huv;rw[Wb (by omega)];intro hh;rcases hin bv hh with h1 | h1
     . exact pv.apt u hu h1
     . exact hb h1
   . rw[Qv (λhh=>huv hh.symm)];exact pv.apt u hu
theorem PG.head(pg:PG D f g n O bo ss)(hB:Bk D h f){K:Addr->Prop}(H:∀p,g=some p->h.cell (p.add 0)=some (.slice (some ⟨bo,0,none⟩) n n)->K p):Ye g K:=by
 obtain⟨p,rfl,hp⟩:=pg.ptr;exact H p rfl (Hp.cell_le hB.le hp)
theorem PG.again(pg:PG D f g n O bo ss){f':BM}{h':Hp}{p:Addr}(hB:Bk D h' f')(e:g=some p):ldL .sl (p.add 0) (λx=>((.slice x.a x.len x.cap):Value)=((.slice (some ⟨bo,0,none⟩) n n):Value)) h':=by
 obtain⟨q,e2,hq⟩:=pg.ptr;rw[e]at e2;cases e2;exact⟨⟨some ⟨bo,0,none⟩,n,n⟩,Hp.cell_le hB.le hq,rfl⟩
theorem PG.rowOf(pg:PG D f g n O bo ss)(hB:Bk D h f){v:Nat}(hv:v<n){K:Sl->Prop}(H:K (ss.getD v zf)) :
 Ye g λp=>ldL (.sl) (p.add 0) (λx=>zg x (v:Int) 1 λa=>ldL (.sl) a (λy=>K y) h) h:=by
 refine pg.head hB λp _ hp=>⟨⟨some ⟨bo,0,none⟩,n,n⟩,hp,zh6 hv ?_⟩
 exact hB.ld (l:=.sl) pg.out (zz7 (by rw[pg.slen];exact hv)) H
theorem zdf{v:Nat}{Ki:Int->Hp->Prop}(pg:PG D f g n O bo ss)(hB:Bk D h f)(hv:v<n)(h2:(O.getD v []).length<=2)(H:Ki (2-((O.getD v []).length:Int)) h):zc (F.y_pebble_game_free g (v:Int)) Ki h:=by
 refine zx _ (λK' hk=>?_) H;unfold F.y_pebble_game_free;refine pg.rowOf hB hv (K:=λx4=>K' (i64.wrap (2-(x4.len:Int))) h) ?_;have:=(pg.row v hv).1;rw[J1,J7]at this;rw[this,w64 (by omega)];exact hk
theorem Z0l{x:Sl}{xs:List Int}{i:Nat}{K:Sl->Hp->Prop}(ho:OS f 1 x (xs.map ic))(hB:Bk D h f)(hi:i<xs.length)(hlen:xs.length<=1000000)
 (H:∀y f' h',Bk D h' f'->OS f' 1 y ((xs.eraseIdx i).map ic)->(∀b,¬inB x b->f' b=f b)->(∀b,inB y b->inB x b)->K y h'):Qu (F.Qe x (i:Int) (i64.wrap ((i:Int)+1))) K h:=by
 refine Xm ?_;unfold F.Qe;rw[w64 (by omega)];have hl:x.len=xs.length:=by have:=ho.1;simp at this;omega
 have hc:=ho.2.1;have ha:∃a,x.a=some a:=by
  cases hxa:x.a with
  | none=>
    have h3:=ho.2.2;rw[hxa]at h3;simp only at h3;omega
  | some a=>exact⟨a,rfl⟩
 refine⟨by omega,by omega,by omega,by omega,?_⟩;refine zu (λh1=>by omega) (λ_=>?_);refine⟨by omega,by omega,by omega,⟨by omega,by omega,by omega,?_⟩⟩;have e1:((i:Int)+1).toNat=i+1:=by omega
 have e2:((i:Int)).toNat=i:=rfl;have e3:((x.len:Int)).toNat=x.len:=rfl;have e0:((0:Int)).toNat=0:=rfl;rw[e1,e2,e3,e0];have hr:=(ho.rd hB).cut (i+1) x.len (by omega) (by rw[J1];omega) hc;have hcl:(x.cut (i+1) x.len 1).len=x.len-(i+1):=rfl;have hdl:(((xs.map ic).drop (i+1)).take (x.len-(i+1)))=(xs.drop (i+1)).map ic:=by
  rw[Jd (by simp;omega),List.map_drop]
 rw[hdl]at hr;have hr2:=hr.2;rw[J1,List.length_drop]at hr2;refine⟨_,by rw[hcl,J7,hl];exact hr2,?_⟩;have hcut:=ho.cut (n:=i) (by omega);rw[J7,<-List.map_take]at hcut;have hca:(x.cut 0 i 1).a=x.a:=zn3 x i 1;refine hcut.appF hB (by rw[hcl,J1,List.length_drop,J7,hl]) (by rw[List.all_map];exact Jz.2 λ_ _=>rfl) ?_ ?_ ?_ λf2 h2 hB2 ho2 hfr2=>?_
 . show(i-0+(x.len-(i+1)))*8<=_;omega
 . show i-0+(x.len-(i+1))<=_;omega
 . show i-0+(x.len-(i+1))<=x.cap-0;omega
 have hw:(i-0+(x.len-(i+1)))+1=x.len:=by omega
 have hcc:(x.cut 0 i 1).cap=x.cap:=Nat.sub_zero _;have hll:(x.cut 0 i 1).len=i:=Nat.sub_zero _;rw[<-Uf,<-List.eraseIdx_eq_take_drop_succ]at ho2;have fr2:∀b,¬inB x b->f2 b=f b:=λb hb=>hfr2 b λhh=>hb (by obtain⟨a,h1,h2⟩:=hh;exact⟨a,by rw[<-hca];exact h1,h2⟩)
 refine⟨by omega,by show((((x.cut 0 i 1).len+(x.cut (i+1) x.len 1).len:Nat)):Int)<=_;rw[hll,hcl];omega,by show(x.len:Int)<=(((x.cut 0 i 1).cap:Nat):Int);rw[hcc];omega,?_⟩;obtain⟨y,hy⟩:∃y:Sl,y=⟨(x.cut 0 i 1).a,(x.cut 0 i 1).len+(x.cut (i+1) x.len 1).len,(x.cut 0 i 1).cap⟩:=⟨_,rfl⟩;rw[<-hy]at ho2 |-
 have hya:y.a=x.a:=by rw[hy];exact hca
 have hyl:y.len+1=x.len:=by rw[hy];show(x.cut 0 i 1).len+(x.cut (i+1) x.len 1).len+1=_;rw[hll,hcl];omega
 have hyc:y.cap=x.cap:=by rw[hy];exact hcc
 have hyin:∀b,inB y b->inB x b:=λb hh=>by obtain⟨a,h1,h2⟩:=hh;exact⟨a,by rw[<-hya];exact h1,h2⟩
 have e4:((y.len:Int)).toNat=y.len:=rfl;refine⟨λh0=>?_,λh0=>?_⟩
 . exfalso;have:(y.cut ((y.len:Int)).toNat ((x.len:Int)).toNat 1).len=x.len-y.len:=rfl;rw[this]at h0;omega
 . have hlen1:(y.cut ((y.len:Int)).toNat ((x.len:Int)).toNat 1).len=1:=by show x.len-y.len=1;omega
   rw[hlen1];obtain⟨a,ha⟩:=ha;have hne:y.cap≠y.len:=by omega
   have ea:(y.cut ((y.len:Int)).toNat ((x.len:Int)).toNat 1).a=some (a.add (y.len*1)):=by
    show(if y.cap=((y.len:Int)).toNat then y.a else y.a.map (·.add (((y.len:Int)).toNat*1)))=_;rw[e4,if_neg hne,hya,ha];rfl
   rw[ea];have key:=ho2.spare (vs:=[.int .i64 0]) (k:=y.len) hB2 ⟨a,by rw[hya];exact ha⟩ (by rw[<-ho2.1];omega) (by show y.len+1<=_;omega) rfl (K:=K y) λf3 h3 hB3 ho3 hfr3=>
    H y f3 h3 hB3 ho3 (λb hb=>(hfr3 b λhh=>hb (hyin b hh)).trans (fr2 b hb)) hyin
   rw[hya,ha]at key;simp only[stO]at key |-
   rw[J7,Zw];exact key
end
end Den
end

section
namespace Den
open Go Iv Lx
def unv(vis:List Bool):Nat:=vis.countP λb=>!b
theorem Z01{vis:List Bool}{a:Nat}(ha:a<vis.length)(hv:qr vis a=false):unv (vis.set a true)+1=unv vis:=by
 unfold unv;induction vis generalizing a with
 | nil=>simp at ha
 | cons x l ih=>
   cases a with
   | zero=>
     have:x=false:=hv;subst this;simp
   | succ a=>
     have:=ih (a:=a) (by simpa using ha) hv;rw[List.set_cons_succ,T9,T9];omega
theorem zgh{vis:List Bool}{a v:Nat}(ha:a<vis.length):qr (vis.set a true) v=(qr vis v||decide (v=a)):=by
 unfold qr;by_cases h:v=a
 . subst h;rw[Wb ha];simp
 . rw[Qv (λhh=>h hh.symm)];simp[h]
theorem Zcu{vis:List Bool}{v:Nat}(h:v<vis.length):(vis.map T6)[v]?=some (T6 (qr vis v)):=by
 unfold qr;rw[Uw,Jc h,Jf,Jc h];rfl
section
variable {D h : Hp} {f : BM} {g : Option Addr} {n bo bv : Nat} {O O1 : List (List Int)} {ss : List Sl} {vis : List Bool} {K : Bool → Hp → Prop}
theorem Z00{a b i:Nat}(hB:Bk D h f)(pg:PG D f g n O1 bo ss)(pv:PV f bo ss n bv vis)(ha:a<n)(hb:b<n)(hab:a≠b)(hi:i<(O1.getD a []).length)(hla:(O1.getD a []).length<=2)(hlb:(O1.getD b []).length<=2)
 (H:∀h' f' ss',Bk D h' f'->PG D f' g n ((O1.set a ((O1.getD a []).eraseIdx i)).set b (O1.getD b []++[(a:Int)])) bo ss'->PV f' bo ss' n bv vis->K true h') :
 (Ye g λp15=>
 (ldL (.sl) (p15.add 0) (λx16=>
 (Ye g λp17=>
 (ldL (.sl) (p17.add 0) (λx18=>
 (zg x18 (a:Int) 1 λa19=>
 (ldL (.sl) a19 (λx20=>
 (Qu (F.Qe x20 (i:Int) (i64.wrap ((i:Int)+1))) (λr21 h5=>
 ((ldL (.sl) (p15.add 0) (λx22=>
 (((.slice x22.a x22.len x22.cap):Value)=((.slice x16.a x16.len x16.cap):Value))) h5) /\
 (zg x16 (a:Int) 1 λa22=>
 (stP a22 [.slice r21.a r21.len r21.cap] (λh6=>
 (Ye g λp23=>
 (ldL (.sl) (p23.add 0) (λx24=>
 (Ye g λp25=>
 (ldL (.sl) (p25.add 0) (λx26=>
 (zg x26 (b:Int) 1 λa27=>
 (ldL (.sl) a27 (λx28=>
 (ql 1 8 [.int .i64 0] x28 1 [.int .i64 (a:Int)] (λw29 h7=>
 ((ldL (.sl) (p23.add 0) (λx30=>
 (((.slice x30.a x30.len x30.cap):Value)=((.slice x24.a x24.len x24.cap):Value))) h7) /\
 (zg x24 (b:Int) 1 λa30=>
 (stP a30 [.slice w29.a w29.len w29.cap] (λh8=>
 (K true h8)) h7)))) h6)) h6))) h6))) h6))) h5)))) h)) h))) h))) h)):=by
  have hsl:=pg.slen;refine pg.head hB λp15 e15 c15=>⟨⟨some ⟨bo,0,none⟩,n,n⟩,c15,?_⟩
  refine pg.rowOf hB ha (K:=λx20=>Qu _ _ h) ?_;refine Z0l (pg.row a ha) hB hi (by omega) λy f2 h2 hB2 ho2 hfr2 hin2=>?_
  have hf2:f2 bo=some (ss.map slV):=by rw[hfr2 bo (pg.apt a ha)];exact pg.out
  refine⟨pg.again hB2 e15,zh6 ha (hB2.st hf2 (vs:=[slV y]) (by simp;omega) rfl λh3 hB3=>?_)⟩;rw[z32 (by omega)]at hB3;have pg3:=pg.setRow (f2:=f2) (l:=(O1.getD a []).eraseIdx i) ha (λb _ hb=>hfr2 b hb) ho2 (λb hb=>.inl (hin2 b hb));have pv3:=pv.setRow (f2:=f2) (y:=y) hsl ha (λb _ hb=>hfr2 b hb) (λb hb=>.inl (hin2 b hb)) (cs:=(ss.set a y).map slV);have hsl3:=pg3.slen;have eb:(O1.set a ((O1.getD a []).eraseIdx i)).getD b []=O1.getD b []:=Qv hab;refine pg3.head hB3 λp23 e23 c23=>⟨⟨some ⟨bo,0,none⟩,n,n⟩,c23,?_⟩
  refine pg3.rowOf hB3 hb (K:=λx28=>ql 1 8 [.int .i64 0] x28 1 [.int .i64 (a:Int)] _ h3) ?_;have hrow:=pg3.row b hb;rw[eb]at hrow;have hrl:((ss.set a y).getD b zf).len=(O1.getD b []).length:=by have:=hrow.1;rw[J1,J7]at this;exact this
  refine hrow.app hB3 (n:=1) (new:=[ic (a:Int)]) rfl rfl rfl (by omega) (by omega) λw f4 h4 hB4 ho4 hfr4 hin4=>?_
  rw[<-List.map_singleton (f:=ic),<-Uf]at ho4;have hf4:f4 bo=some ((ss.set a y).map slV):=by rw[hfr4 bo (pg3.apt b hb) (by rw[pg3.out];simp)];exact pg3.out
  refine⟨pg3.again hB4 e23,zh6 hb (hB4.st hf4 (vs:=[slV w]) (by simp;omega) rfl λh5 hB5=>?_)⟩;rw[z32 (by omega)]at hB5;have pg5:=pg3.setRow (f2:=f4) (l:=O1.getD b []++[(a:Int)]) hb (λb hn hb=>hfr4 b hb hn) ho4 (λb hb=>(hin4 b hb).imp id And.left);have pv5:=pv3.setRow (f2:=f4) (y:=w) hsl3 hb (λb hn hb=>hfr4 b hb hn) (λb hb=>(hin4 b hb).imp id And.left) (cs:=((ss.set a y).set b w).map slV);exact H h5 _ _ hB5 pg5 pv5
def okO(n:Nat)(O:List (List Int)):Prop:=(∀v,v<n->(O.getD v []).length<=2)/\∀v,v<n->∀u∈O.getD v [],0<=u/\u<n
theorem Z0v:∀(fuel:Nat) {D h:Hp} {f:BM} {g:Option Addr} {n bo bv:Nat} {O:List (List Int)} {ss:List Sl} {vis:List Bool} {K:Bool->Hp->Prop} {a:Nat},Bk D h f->PG D f g n O bo ss->PV f bo ss n bv vis->okO n O->a<n->qr vis a=false->unv vis<=fuel ->
 (∀r h' f' O' ss' vis',Bk D h' f'->PG D f' g n O' bo ss'->PV f' bo ss' n bv vis'->FP n O vis a r O' vis'->(r=false->ss'=ss)->K r h')->F.y_pebble_game_fetch_ fuel g (a:Int) ⟨some ⟨bv,0,none⟩,n,n⟩ K h:=by
 intro fuel;induction fuel with
 | zero=>
   intro D h f g n bo bv O ss vis K a hB pg pv hO ha hva hfu H;have:=Z01 (by rw[pv.len];exact ha) hva;omega
 | succ fuel ih=>
   intro D h f g n bo bv O ss vis K a hB pg pv hO ha hva hfu H;unfold F.y_pebble_game_fetch_;have hvl:=pv.len;have hsl:=pg.slen;refine zh6 ha (hB.st pv.cells (vs:=[T6 true]) (by simp;omega) rfl λh1 hB1=>?_);rw[z32 (by omega)]at hB1;have pg1:=pg.other (cs:=(vis.set a true).map T6) pv.ne pv.apt;have pv1:PV (z1b f bv ((vis.set a true).map T6)) bo ss n bv (vis.set a true):=⟨Z9,by rw[Gl];exact hvl,pv.ne,pv.apt⟩;have hun:=Z01 (by omega) hva;refine pg1.rowOf hB1 ha (K:=λx5=>zn _ _ h1) ?_;have hrl:(ss.getD a zf).len=(O.getD a []).length:=by have:=(pg1.row a ha).1;rw[J1,J7]at this;exact this
   have h2a:=hO.1 a ha;refine yg (n:=(O.getD a []).length) (by omega) (λi h'=>∃f' vis',Bk D h' f'/\PG D f' g n O bo ss/\PV f' bo ss n bv vis'/\(∀v,qr vis v=true->qr vis' v=true)/\qr vis' a=true /\
    (∀j (hj:j<(O.getD a []).length),j<i->qr vis' ((O.getD a [])[j]).toNat=true)/\(∀v,qr vis' v=true->qr vis v=false->v≠a->(∀u∈O.getD v [],qr vis' u.toNat=true)/\(O.getD v []).length=2)/\unv vis'<=fuel)
    ⟨_,_,hB1,pg1,pv1,λv hv=>by rw[zgh (by omega),hv];rfl,by rw[zgh (by omega)];simp,λj _ hj=>by omega,λv hv hv2 hva2=>by rw[zgh (by omega),hv2]at hv;simp at hv;exact absurd hv hva2,by omega⟩ ?_
   rintro i h2 hi ⟨f2,vis2,hB2,pg2,pv2,hsub,hav,hno,hcl,hun2⟩ k hk;have hvl2:=pv2.len;refine ze (λh3=>?_) (λh3=>?_)
   . have hi':i<(O.getD a []).length:=by simp only at h3;omega
     have hIL:IL h2 (ss.getD a zf) (O.getD a []):=⟨(pg2.row a ha).rd hB2,(pg2.row a ha).2.1⟩;obtain⟨J,hJ⟩:∃J:Unit->Hp->Prop,∀s h',J s h'↔∃f' vis',Bk D h' f'/\PG D f' g n O bo ss/\PV f' bo ss n bv vis'/\(∀v,qr vis v=true->qr vis' v=true)/\qr vis' a=true /\
      (∀j (hj:j<(O.getD a []).length),j<i+1->qr vis' ((O.getD a [])[j]).toNat=true)/\(∀v,qr vis' v=true->qr vis v=false->v≠a->(∀u∈O.getD v [],qr vis' u.toNat=true)/\(O.getD v []).length=2)/\unv vis'<=fuel:=⟨_,λ_ _=>Pc⟩
     refine zh J (λs h' hs=>hk _ hi' ((hJ s h').1 hs)) ?_;refine hIL.get i rfl hi' ?_;obtain⟨b,hb⟩:∃b:Nat,(O.getD a [])[i]=(b:Int):=⟨((O.getD a [])[i]).toNat,by have:=hO.2 a ha _ (Jh hi');omega⟩;have hbr:=hO.2 a ha _ (Jh hi');rw[hb]at hbr |-
     have hbn:b<n:=by omega
     refine zh6 hbn (hB2.ld (l:=.bool) pv2.cells (Zcu (by omega)) ?_);refine zi (λhvb=>(hJ _ _).2 ⟨f2,vis2,hB2,pg2,pv2,hsub,hav,λj hj hji=>?_,hcl,hun2⟩) (λhvb=>?_)
     . rcases Jo j i with h5 | h5
       . exact hno j hj h5
       . have:j=i:=by omega
         subst this;rw[hb];exact hvb
     have hab:a≠b:=λhh=>by rw[<-hh,hav]at hvb;cases hvb
     refine zdf pg2 hB2 hbn (hO.1 b hbn) ?_;have h2b:=hO.1 b hbn;refine ze (λh5=>?_) (λh5=>?_)
     . refine Z00 hB2 pg2 pv2 ha hbn hab hi' h2a h2b λh' f' ss' hB' pg' pv'=>H true h' f' _ ss' vis2 hB' pg' pv' ?_ (λhh=>by cases hh)
       refine FP.turn (vis1:=vis) pg.olen hO.1 hO.2 pg.olen pv2.len (λX=>rfl) ha hbn hab ?_ (λv _=>rfl) hi' hb (by omega);cases hh:qr vis b with
       | false=>rfl
       | true=>rw[hsub b hh]at hvb;cases hvb
     . have hlb:(O.getD b []).length=2:=by omega
       refine Xm (ih hB2 pg2 pv2 hO hbn hvb hun2 λr h6 f6 O6 ss6 vis6 hB6 pg6 pv6 hfp hss=>?_);have hvb0:qr vis b=false:=by
        cases hh:qr vis b with
        | false=>rfl
        | true=>rw[hsub b hh]at hvb;cases hvb
       cases r with
       | true=>
         refine Z4 rfl ?_;obtain⟨p1,p2,p3,p4,p5,p6,p7⟩:=hfp;have ea:O6.getD a []=O.getD a []:=p7 a hav hab;refine Z00 hB6 pg6 pv6 ha hbn hab (by rw[ea];exact hi') (p3 a ha) (p3 b hbn) λh' f' ss' hB' pg' pv'=>H true h' f' _ ss' vis6 hB' pg' pv' ?_ (λhh=>by cases hh)
         refine FP.turn (vis1:=vis) pg.olen p3 p4 p1 p2 p5 ha hbn hab hvb0 (λv hv=>?_) hi' hb (by omega);rcases hv with hv | rfl
         . exact p7 v (hsub v hv) (λhh=>by rw[hh,hvb0]at hv;cases hv)
         . exact ea
       | false=>
         obtain⟨p1,p2,rfl,p4,p5,p6⟩:=hfp;have:=hss rfl;subst this;refine zr rfl ((hJ _ _).2 ⟨f6,vis6,hB6,pg6,pv6,λv hv=>p4 v (hsub v hv),p4 a hav,λj hj hji=>?_,λv hv hv2 hva2=>?_,?_⟩)
         . rcases Jo j i with h5 | h5
           . exact p4 _ (hno j hj h5)
           . have:j=i:=by omega
             subst this;rw[hb];exact p5
         . cases hv3:qr vis2 v with
           | true=>
             have:=hcl v hv3 hv2 hva2;exact⟨λu hu=>p4 _ (this.1 u hu),this.2⟩
           | false=>
             have:=p6 v hv hv3;refine⟨this.1,?_⟩;by_cases hvb':v=b
             . subst hvb';exact hlb
             . exact this.2 hvb'
         . refine Jt ?_ hun2;have h7:∀(l m:List Bool),l.length=m.length->(∀v,qr l v=true->qr m v=true)->unv m<=unv l:=by
            intro l;induction l with
            | nil=>intro m hm _;cases m with | nil=>exact Ja _ | cons x m=>simp at hm
            | cons x l ih2=>
              intro m hm hv;cases m with
              | nil=>simp at hm
              | cons y m=>
                have h8:=ih2 m (by simpa using hm) λv=>hv (v+1)
                have h9:=hv 0;unfold unv qr at *;rw[T9,T9];simp only[List.getD_cons_zero]at h9;cases x<;>cases y<;>simp at h9 |-<;>omega
           exact h7 vis2 vis6 (by omega) p4
   . have hi':i=(O.getD a []).length:=by simp only at h3;omega
     refine H false h2 f2 O ss vis2 hB2 pg2 pv2 ⟨pg.olen,hvl2,rfl,hsub,hav,λv hv hv2=>?_⟩ (λ_=>rfl);by_cases hva2:v=a
     . subst hva2;refine⟨λu hu=>?_,λhh=>absurd rfl hh⟩;obtain⟨j,hj,rfl⟩:=List.mem_iff_getElem.1 hu;exact hno j hj (by omega)
     . have:=hcl v hv hv2 hva2;exact⟨this.1,λ_=>this.2⟩
theorem zwg{a:Nat}(hB:Bk D h f)(pg:PG D f g n O bo ss)(pv:PV f bo ss n bv vis)(hO:okO n O)(ha:a<n)(hva:qr vis a=false)
 (H:∀r h' f' O' ss' vis',Bk D h' f'->PG D f' g n O' bo ss'->FP n O vis a r O' vis'->K r h'):Qu (F.y_pebble_game_fetch g (a:Int) ⟨some ⟨bv,0,none⟩,n,n⟩) K h:=by
 refine Xm ?_;unfold F.y_pebble_game_fetch;exact⟨unv vis,Z0v _ hB pg pv hO ha hva (Ja _) λr h' f' O' ss' vis' h1 h2 _ h3 _=>H r h' f' O' ss' vis' h1 h2 h3⟩
end
end Den
end

section
namespace Den
theorem Zay{n:Nat}{X:Int->Bool}:szX (n+1) X=szX n X+(if X (n:Int)then 1 else 0):=by
 unfold szX;rw[Gp,Uo,Uc]
theorem ztl{n:Nat}{X:Int->Bool}{a b:Int}(ha:0<=a/\a<n)(hb:0<=b/\b<n)(hab:a≠b)(xa:X a=true)(xb:X b=true):2<=szX n X:=by
 obtain⟨a',rfl⟩:∃a':Nat,a=a':=⟨a.toNat,by omega⟩;obtain⟨b',rfl⟩:∃b':Nat,b=b':=⟨b.toNat,by omega⟩;unfold szX;exact zyc (p:=λi:Nat=>X (i:Int)) (by omega) (by omega) (λhh=>hab (by rw[hh])) xa xb
theorem X3.add{n:Nat}{es:List (Int×Int)}{a b:Int}(h:X3 n es)(hE:∀e∈es,0<=e.1/\e.1<e.2/\e.2<n)(ha:0<=a/\a<n)(hb:0<=b/\b<n)(hab:a≠b) :
 X3 (n+1) (es++[(a,(n:Int)),(b,(n:Int))]):=λX hX=>by
 have e:z0u (es++[(a,(n:Int)),(b,(n:Int))]) X=z0u es X+(if X a&&X (n:Int)then 1 else 0)+(if X b&&X (n:Int)then 1 else 0):=by
  rw[show es++[(a,(n:Int)),(b,(n:Int))]=(es++[(a,(n:Int))])++[(b,(n:Int))]by simp,zda,zda]
 rw[Zay]at hX |-
 rw[e];cases hn:X (n:Int)with
 | false=>
   rw[hn]at hX;simp only[Bool.and_false,J0,if_false,Uy]at hX |-
   exact h X hX
 | true=>
   rw[hn]at hX;simp only[Pl,if_true]at hX |-
   by_cases h2:2<=szX n X
   . have:=h X h2;split<;>split<;>omega
   . have h0:z0u es X=0:=by
      unfold z0u;rw[List.countP_eq_zero];intro e he hx;rw[Jv]at hx;have:=hE e he;exact h2 (ztl ⟨this.1,by omega⟩ ⟨by omega,this.2.2⟩ (by omega) hx.1 hx.2)
     rw[h0];cases xa:X a<;>cases xb:X b<;>simp only[J0,if_false,if_true]
     . omega
     . omega
     . omega
     . exact absurd (ztl ha hb hab xa xb) h2
theorem X3.bar:X3 2 [(0,1)]:=λX hX=>by
 have:z0u [(0,1)] X<=1:=by unfold z0u;exact List.countP_le_length
 omega
theorem Z3f{q:Nat->Bool}:∀{m:Nat} {J:List Int},(∀a,J.count a<=1)->(∀a∈J,0<=a/\a<m/\q a.toNat=true)->J.length<=(Jp m).countP q
 | 0,J,_,h=>by
   cases J with
   | nil=>simp
   | cons a J=>have:=h a (Ut ..);omega
 | m+1,J,h1,h2=>by
   have hl:=List.length_eq_countP_add_countP (λa:Int=>a==(m:Int)) (l:=J);have hc:=h1 (m:Int);have ih:=Z3f (q:=q) (m:=m) (J:=J.filter λa=>!(a==(m:Int))) (λa=>Jt (List.filter_sublist.count_le a) (h1 a)) (λa ha=>by
    have h3:=Ta.1 ha;have h4:=h2 a h3.1;have h5:a≠(m:Int):=by simpa using h3.2
    exact⟨h4.1,by omega,h4.2.2⟩)
   rw[<-List.countP_eq_length_filter]at ih;have e1:J.countP (λa:Int=>a==(m:Int))=J.count (m:Int):=rfl;have e2:J.countP (λa:Int=>decide ¬(a==(m:Int))=true)=J.countP λa=>!(a==(m:Int)):=List.countP_congr λa _=>by simp
   rw[Gp,Uo,Uc];by_cases hm:(m:Int)∈J
   . have:=(h2 _ hm).2.2;rw[show((m:Int)).toNat=m from rfl]at this;rw[this,if_pos rfl];omega
   . have h0:J.count (m:Int)=0:=List.count_eq_zero.2 hm;omega
end Den
end

section
namespace Den
open Go Iv Lx
section
variable {D h : Hp} {f f2 : BM} {g : Option Addr} {n bo bv : Nat} {O O1 : List (List Int)} {ss : List Sl} {es : List (Int × Int)} {Kb : Bool → Hp → Prop} {Ki : Int → Hp → Prop}
theorem PG.mono{D':Hp}(pg:PG D f g n O bo ss)(hl:D.le D'):PG D' f g n O bo ss:=by
 obtain⟨p,h1,h2⟩:=pg.ptr;exact⟨⟨p,h1,Hp.cell_le hl h2⟩,pg.slen,pg.olen,pg.out,pg.row,pg.apt,pg.apt2⟩
theorem PG.congr(pg:PG D f g n O bo ss)(h1:f2 bo=f bo)(h2:∀v,v<n->∀b,inB (ss.getD v zf) b->f2 b=f b):PG D f2 g n O bo ss:=
 ⟨pg.ptr,pg.slen,pg.olen,h1.trans pg.out,λv hv=>(pg.row v hv).congr (h2 v hv),pg.apt,pg.apt2⟩
theorem GI.okO(hg:GI n O es):okO n O:=⟨hg.two,hg.rng⟩
theorem Z22(n:Nat):yn n [T6 false]=(Jr n false).map T6:=by
 unfold yn;simp
theorem Zcv(n v:Nat):qr (Jr n false) v=false:=by
 unfold qr;rw[Jf,List.getElem?_replicate];split<;>rfl
theorem zkd{p q:Nat}{e:Int×Int}{k5:Unit->Hp->Prop}(hB:Bk D h f)(pg:PG D f g n O bo ss)(hg:GI n O es)(hs:X3 n (es++[e]))(he:e=((p:Int),(q:Int))\/e=((q:Int),(p:Int)))(hp:p<n)(hq:q<n)(hpq:p≠q)(hn:n<=1000000)
 (H:∀h' f' O' ss',Bk D h' f'->PG D f' g n O' bo ss'->GI n O' es->O'.getD p []=[]->O'.getD q []=O.getD q []->k5 () h') :
 zn (S:=Unit) (λs8 k9 h4=>
 (zc (F.y_pebble_game_free g (p:Int)) (λr10 h5=>
 (ifP (decide (r10<2))
 (Ye g λp11=>
 (ldL (.sl) (p11.add 0) (λx12=>
 (mkP (x12.len:Int) (x12.len:Int) 1 [.bool false] (λm13 h6=>
 (zg m13 (q:Int) 1 λa14=>
 (stP a14 [.bool true] (λh7=>
 (Qu (F.y_pebble_game_fetch g (p:Int) m13) (λr15 h8=>
 (ifP (!r15)
 (k5 () h8)
 (k9 () h8))) h7)) h6))) h5)) h5))
 (k5 () h5))) h4))
      () h:=by
  refine zdj (λm _ h'=>∃f' O' ss',Bk D h' f'/\PG D f' g n O' bo ss'/\GI n O' es/\O'.getD q []=O.getD q []/\m=(O'.getD p []).length) ⟨f,O,ss,hB,pg,hg,rfl,rfl⟩ ?_;rintro m _ h1 ⟨f1,O1,ss1,hB1,pg1,hg1,hq1,rfl⟩ K9 hK9;have h2:=hg1.two p hp;refine zdf pg1 hB1 hp h2 ?_;refine ze (λh3=>?_) (λh3=>?_)
  . refine pg1.head hB1 λp11 e11 c11=>⟨⟨some ⟨bo,0,none⟩,n,n⟩,c11,?_⟩
    refine hB1.mkF n n rfl rfl (Ja _) (by omega) (by omega) λbv h6 hbv hDv hB6=>?_
    rw[Z22]at hB6;have hbo:bv≠bo:=λhh=>by rw[hh,pg1.out]at hbv;cases hbv
    have hrow:∀v,v<n->¬inB (ss1.getD v zf) bv:=λv hv hh=>(pg1.row v hv).there hh hbv
    have pg6:=pg1.other (cs:=(Jr n false).map T6) hbo hrow;refine zh6 hq (hB6.st Z9 (vs:=[T6 true]) (by simp;omega) rfl λh7 hB7=>?_);rw[z32 (by simp;omega),zhp]at hB7;have pg7:=pg1.other (cs:=((Jr n false).set q true).map T6) hbo hrow;have pv7:PV (z1b f1 bv (((Jr n false).set q true).map T6)) bo ss1 n bv ((Jr n false).set q true):=⟨Z9,by simp,hbo,hrow⟩;have vs:∀v,qr ((Jr n false).set q true) v=decide (v=q):=λv=>by
     rw[zgh (by simp;omega),Zcv];simp
    refine zwg hB7 pg7 pv7 hg1.okO hp (by rw[vs];simp[hpq]) λr h8 f8 O8 ss8 vis8 hB8 pg8 hfp=>?_
    cases r with
    | false=>
      have:=zrz hg1 hs he hp hq hpq (λv=>by rw[vs];simp) hfp;omega
    | true=>
      have hg8:=hg1.fetched hfp;obtain⟨p1,p2,p3,p4,p5,p6,p7⟩:=hfp;refine zr rfl (hK9 _ _ _ ?_ ⟨f8,O8,ss8,hB8,pg8,hg8,?_,rfl⟩)
      . omega
      . rw[p7 q (by rw[vs];simp) (λhh=>hpq hh.symm)];exact hq1
  . exact H h1 f1 O1 ss1 hB1 pg1 hg1 (Jn (by omega)) hq1
theorem zs5{a b:Nat}(hB:Bk D h f)(pg:PG D f g n O bo ss)(hg:GI n O es)(hs:X3 n (es++[((a:Int),(b:Int))]))(ha:a<n)(hb:b<n)(hab:a≠b)(hn:n<=1000000)
 (H:∀D' h' f' O' ss',D.le D'->Bk D' h' f'->PG D' f' g n O' bo ss'->GI n O' es->O'.getD a []=[]->O'.getD b []=[]->Ki 4 h'):Qu (F.y_pebble_game_gather g (a:Int) (b:Int)) Ki h:=by
 refine Xm ?_;unfold F.y_pebble_game_gather;refine hB.newD λb1 D1 h1 _ hl1 c1 hB1=>?_
 refine yg (n:=2) (by omega) (λi h'=>∃f' O' ss',Bk D1 h' f'/\PG D1 f' g n O' bo ss'/\GI n O' es/\(0<i->O'.getD a []=[])/\(1<i->O'.getD b []=[])) ⟨f,O,ss,hB1,pg.mono hl1,hg,by omega,by omega⟩ ?_;rintro i h2 hi ⟨f2,O2,ss2,hB2,pg2,hg2,z1,z2⟩ k hk;refine ze (λh3=>?_) (λh3=>?_)
 . have hi':i<2:=by have:(i:Int)<((2:Nat):Int):=h3;omega
   obtain⟨J,hJ⟩:∃J:Unit->Hp->Prop,∀s h',J s h'↔∃f' O' ss',Bk D1 h' f'/\PG D1 f' g n O' bo ss'/\GI n O' es/\(0<i+1->O'.getD a []=[])/\(1<i+1->O'.getD b []=[]):=⟨_,λ_ _=>Pc⟩;refine zh J (λs h' hs=>hk _ hi' ((hJ s h').1 hs)) ?_;refine zkg hi' ?_;have cl:∀j v,[Ge .i64 (a:Int),.int .i64 (b:Int),.int .i64 (b:Int),.int .i64 (a:Int)][i*2+j]?=some v->h2.cell ((⟨b1,0+i*2,none⟩:Addr).add j)=some v:=λj v hv=>by
    rw[z2p,Gi];exact Hp.cell_le hB2.le (c1 _ v hv)
   rcases(by omega:i=0\/i=1)with rfl | rfl
   . refine⟨(a:Int),cl 0 _ rfl,(b:Int),cl 1 _ rfl,?_⟩;exact zkd hB2 pg2 hg2 hs (.inl rfl) ha hb hab hn λh' f' O' ss' hB' pg' hg' e1 _=>(hJ _ _).2 ⟨f',O',ss',hB',pg',hg',λ_=>e1,by omega⟩
   . refine⟨(b:Int),cl 0 _ rfl,(a:Int),cl 1 _ rfl,?_⟩;exact zkd hB2 pg2 hg2 hs (.inr rfl) hb ha (λhh=>hab hh.symm) hn λh' f' O' ss' hB' pg' hg' e1 e2=>(hJ _ _).2 ⟨f',O',ss',hB',pg',hg',λ_=>by rw[e2];exact z1 (by omega),λ_=>e1⟩
 . have:i=2:=by have:¬(i:Int)<((2:Nat):Int):=h3;omega
   subst this;have z1:=z1 (by omega);have z2:=z2 (by omega);refine zdf pg2 hB2 ha (by rw[z1];simp) (zdf pg2 hB2 hb (by rw[z2];simp) ?_);rw[z1,z2];exact H D1 h2 f2 O2 ss2 hl1 hB2 pg2 hg2 z1 z2
theorem zhr{a b:Nat}(hB:Bk D h f)(pg:PG D f g n O bo ss)(hg:GI n O es)(hs:X3 n (es++[((a:Int),(b:Int))]))(ha:a<n)(hb:b<n)(hab:a≠b)(hn:n<=1000000)
 (H:∀D' h' f' O' ss',D.le D'->Bk D' h' f'->PG D' f' g n O' bo ss'->GI n O' (es++[((a:Int),(b:Int))])->Kb true h'):F.y_pebble_game_accept g (a:Int) (b:Int) Kb h:=by
 unfold F.y_pebble_game_accept;refine zs5 hB pg hg hs ha hb hab hn λD1 h1 f1 O1 ss1 hl1 hB1 pg1 hg1 z1 z2=>?_
 refine zr rfl ?_;refine pg1.head hB1 λp2 e2 c2=>⟨⟨some ⟨bo,0,none⟩,n,n⟩,c2,?_⟩
 refine pg1.rowOf hB1 ha (K:=λx7=>ql 1 8 [.int .i64 0] x7 1 [.int .i64 (b:Int)] _ h1) ?_;have hrow:=pg1.row a ha;rw[z1]at hrow;have hsl:=pg1.slen;have hrl:(ss1.getD a zf).len=0:=by have:=hrow.1;rw[J7]at this;exact this
 refine hrow.app hB1 (n:=1) (new:=[ic (b:Int)]) rfl rfl rfl (by omega) (by omega) λw f4 h4 hB4 ho4 hfr4 hin4=>?_
 have hf4:f4 bo=some (ss1.map slV):=by rw[hfr4 bo (pg1.apt a ha) (by rw[pg1.out];simp)];exact pg1.out
 refine⟨pg1.again hB4 e2,zh6 ha (hB4.st hf4 (vs:=[slV w]) (by simp;omega) rfl λh5 hB5=>?_)⟩;rw[z32 (by omega)]at hB5;have pg5:=pg1.setRow (f2:=f4) (l:=O1.getD a []++[(b:Int)]) ha (λb hn hb=>hfr4 b hb hn) (by rw[z1];exact ho4) (λb hb=>(hin4 b hb).imp id And.left);exact H D1 h5 _ _ _ hl1 hB5 pg5 (hg1.accept ha hb (by rw[z1];simp))
theorem zm8{a b:Nat}{s:Sl}{cs:List Value}(hB:Bk D h f)(pg:PG D f g n O bo ss)(ho:OS f 1 s cs)(hap:∀k,inB s k->k≠bo/\∀v,v<n->¬inB (ss.getD v zf) k)(hg:GI n O es)(hs:X3 n (es++[((a:Int),(b:Int))]))(ha:a<n)(hb:b<n)(hab:a≠b)(hn:n<=1000000)
 (H:∀D' h' f' O' ss',D.le D'->Bk D' h' f'->PG D' f' g n O' bo ss'->OS f' 1 s cs->(∀k,inB s k->k≠bo/\∀v,v<n->¬inB (ss'.getD v zf) k)->GI n O' (es++[((a:Int),(b:Int))])->Kb true h'):Qu (F.y_pebble_game_accept g (a:Int) (b:Int)) Kb h:=by
 cases hsa:s.a with
 | none=>
   have nin:∀k,¬inB s k:=λk hh=>by obtain⟨x,h1,_⟩:=hh;rw[hsa]at h1;cases h1
   refine Xm (zhr hB pg hg hs ha hb hab hn λD' h' f' O' ss' h1 h2 h3 h4=>H D' h' f' O' ss' h1 h2 h3 ?_ (λk hk=>absurd hk (nin k)) h4);exact ho.congr λk hk=>absurd hk (nin k)
 | some A=>
   have hin:inB s A.block:=⟨A,hsa,rfl⟩;have hap1:=hap _ hin;obtain⟨bs,hbs⟩:∃bs,f A.block=some bs:=by
    cases hh:f A.block with
    | none=>exact absurd hh (ho.there hin)
    | some bs=>exact⟨bs,rfl⟩
   have only:∀k,inB s k->k=A.block:=λk hk=>by obtain⟨x,h1,h2⟩:=hk;rw[hsa]at h1;cases h1;exact h2.symm
   refine hB.out hbs (K1:=λr h1=>r=true/\∃D' f' O' ss',D.le D'/\Bk D' h1 f'/\PG D' f' g n O' bo ss'/\GI n O' (es++[((a:Int),(b:Int))])) (λhB0=>?_) ?_
   . have pg0:PG D (λk=>if k=A.block then none else f k) g n O bo ss:=pg.congr (if_neg (λhh=>hap1.1 hh.symm)) λv hv k hk=>if_neg λhh=>hap1.2 v hv (by rw[<-hh];exact hk)
     exact zhr hB0 pg0 hg hs ha hb hab hn λD' h' f' O' ss' h1 h2 h3 h4=>⟨rfl,D',f',O',ss',h1,h2,h3,h4⟩
   . rintro r h1 ⟨rfl,D',f',O',ss',g1,g2,g3,g4⟩ hback;obtain⟨k1,k2,k3⟩:=hback D' f' g2;have hbo:A.block≠bo:=hap1.1;have hrw:∀v,v<n->¬inB (ss'.getD v zf) A.block:=λv hv hh=>(g3.row v hv).there hh k2
     refine H D' _ _ O' ss' g1 k1 (g3.other hbo hrw) ?_ (λk hk=>by rw[only k hk];exact⟨hbo,hrw⟩) g4;refine ho.congr λk hk=>?_
     rw[only k hk,Z9,hbs]
theorem zxn{K:Option Addr->Hp->Prop}(hn:n<=1000000)(H:∀g D' h' f' bo,h.le D'->Bk D' h' f'->PG D' f' g n (Jr n []) bo (Jr n zf)->K g h'):zc (F.z6x (n:Int)) K h:=by
 refine zd (λg h'=>∃D' f' bo,h.le D'/\Bk D' h' f'/\PG D' f' g n (Jr n []) bo (Jr n zf)) (λK' hk=>?_) λg h' _ ⟨D',f',bo,h1,h2,h3⟩=>H g D' h' f' bo h1 h2 h3
 unfold F.z6x;refine(Bk.start (h:=h)).mkF n n rfl rfl (Ja _) (by omega) (by omega) λbo h1 hbo hDo hB1=>?_
 refine hB1.newD λp D2 h2 _ hl2 c2 hB2=>hk _ _ (Hp.le_trans hl2 hB2.le) ⟨D2,_,bo,hl2,hB2,?_⟩
 have gn:∀v,(Jr n zf).getD v zf=zf:=λv=>by
  rw[Jf,List.getElem?_replicate];split<;>rfl
 have ge:∀v,(Jr n ([]:List Int)).getD v []=[]:=λv=>by
  rw[Jf,List.getElem?_replicate];split<;>rfl
 refine⟨⟨_,rfl,?_⟩,by simp,by simp,?_,λv hv=>?_,λv hv hh=>?_,λu v hu hv huv b hb=>?_⟩
 . rw[z2p];exact c2 0 _ rfl
 . rw[Z9];congr 1;unfold yn slV;simp[zf]
 . rw[gn,ge];exact OS.nil
 . rw[gn]at hh;obtain⟨_,h5,_⟩:=hh;cases h5
 . rw[gn]at hb;obtain⟨_,h5,_⟩:=hb;cases h5
theorem Z25(i:Nat):z8h (i+1)=z8h i++[(i:Int)]:=by
 unfold z8h;rw[Gp,Uf];rfl
theorem zt7(i:Nat):(z8h i).length=i:=by simp[z8h]
def okE(n:Nat)(es:List (Int×Int)):Prop:=∀e∈es,0<=e.1/\e.1<n/\0<=e.2/\e.2<n/\e.1≠e.2
theorem Z1s{l:Sl}{K:Sl×Option Addr->Hp->Prop}(hl:LR a2c 2 A2P h l es)(he:okE n es)(hs:X3 n es)(hn:n<=1000000)(hlen:es.length<=1000000)(H:∀r h',h.le h'->IL h' r.1 (z8h es.length)->K r h'):zc (F.z8q (n:Int) l) K h:=by
 refine zd (λr h'=>IL h' r.1 (z8h es.length)) (λK' hk=>?_) λr h' hl hr=>H r h' hl hr
 unfold F.z8q;have hll:=hl.len yb;refine zxn hn λg D1 h1 f1 bo hl1 hB1 pg1=>?_
 refine Yq (n:=es.length) (by omega) (λi s h'=>∃D' f' O' ss',h.le D'/\Bk D' h' f'/\PG D' f' g n O' bo ss'/\OS f' 1 s ((z8h i).map ic)/\(∀k,inB s k->k≠bo/\∀v,v<n->¬inB (ss'.getD v zf) k)/\GI n O' (es.take i))
  ⟨D1,f1,_,_,hl1,hB1,pg1,OS.nil,(λk hk=>by obtain⟨_,h5,_⟩:=hk;cases h5),GI.start n⟩ ?_
 rintro i s h2 hi ⟨D2,f2,O2,ss2,hl2,hB2,pg2,ho2,hap2,hg2⟩ k hk2;refine ze (λh3=>?_) (λh3=>?_)
 . have hi':i<es.length:=by simp only at h3;omega
   obtain⟨J,hJ⟩:∃J:Sl×Unit->Hp->Prop,∀s h',J s h'↔∃D' f' O' ss',h.le D'/\Bk D' h' f'/\PG D' f' g n O' bo ss'/\OS f' 1 s.1 ((z8h (i+1)).map ic)/\(∀k,inB s.1 k->k≠bo/\∀v,v<n->¬inB (ss'.getD v zf) k)/\GI n O' (es.take (i+1)):=⟨_,λ_ _=>Pc⟩;refine zh J (λs h' hs=>hk2 _ _ hi' ((hJ s h').1 hs)) ?_;refine(hl.le yb (Hp.le_trans hl2 hB2.le)).get yb i rfl hi' λa x hx hc=>⟨_,hc 0 _ rfl,_,hc 1 _ rfl,?_⟩
   obtain⟨x1,x2⟩:=hx;have her:=he _ (Jh hi');obtain⟨p,hp⟩:∃p:Nat,es[i].1=(p:Int):=⟨es[i].1.toNat,by omega⟩;obtain⟨q,hq⟩:∃q:Nat,es[i].2=(q:Int):=⟨es[i].2.toNat,by omega⟩;rw[x1,x2,hp,hq];have ee:es[i]=((p:Int),(q:Int)):=Prod.ext hp hq;have et:es.take (i+1)=es.take i++[((p:Int),(q:Int))]:=by rw[<-ee,Jk hi']
   refine zm8 hB2 pg2 ho2 hap2 hg2 (hs.sub (by rw[<-et];exact List.take_sublist _ _)) (by omega) (by omega) (by omega) hn λD4 h4 f4 O4 ss4 hl4 hB4 pg4 ho4 hap4 hg4=>?_
   refine Z4 rfl ?_;have hsl:s.len=i:=by have:=ho4.1;rw[J1,zt7,J7]at this;exact this
   refine ho4.app hB4 (n:=1) (new:=[ic (i:Int)]) rfl rfl rfl (by omega) (by omega) λw f5 h5 hB5 ho5 hfr5 hin5=>(hJ _ _).2 ⟨D4,f5,O4,ss4,Hp.le_trans hl2 hl4,hB5,?_,?_,?_,?_⟩
   . have hbo:f4 bo≠none:=by rw[pg4.out];simp
     refine pg4.congr (hfr5 bo (λhh=>(hap4 bo hh).1 rfl) hbo) λv hv b hb=>hfr5 b (λhh=>(hap4 b hh).2 v hv hb) ((pg4.row v hv).there hb)
   . rw[Z25,Uf];exact ho5
   . intro b hb;rcases hin5 b hb with h6 | h6
     . exact hap4 b h6
     . refine⟨λhh=>?_,λv hv hh=>(pg4.row v hv).there hh h6.1⟩;rw[hh,pg4.out]at h6;cases h6.1
   . rw[et];exact hg4
 . have:i=es.length:=by simp only at h3;omega
   subst this;exact hk _ _ (Hp.le_trans hl2 hB2.le) ⟨ho2.rd hB2,ho2.2.1⟩
theorem GV.okE{m:Nat}(h:GV (m:Int) es):okE m es:=λe he=>by have:=h.2.1 e he;omega
theorem z9m{G:TGraph}{Ks:Sl->Hp->Prop}(hl:LR a2c 2 A2P h G.edges es)(hv:GV G.n es)(hs:X3 G.n.toNat es)(hlen:es.length<=1000000)(H:∀r h',h.le h'->IL h' r (z8h es.length)->Ks r h'):zc (F.Wp G) Ks h:=by
 refine zd (λr h'=>IL h' r (z8h es.length)) (λK' hk=>?_) λr h' hl hr=>H r h' hl hr
 unfold F.Wp;refine z0x hl (by omega) λb h1 hl1 hb=>?_
 rw[hb.2 hv];refine zr rfl ?_;have hn:=hv.1;obtain⟨m,hm⟩:∃m:Nat,G.n=(m:Int):=⟨G.n.toNat,by omega⟩;rw[hm]at hv hs hn |-
 exact Z1s (hl.le yb hl1) (GV.okE hv) hs (by omega) hlen λr h2 hl2 hr=>hk _ _ (Hp.le_trans hl1 hl2) hr
theorem zx7{G:TGraph}(hl:LR a2c 2 A2P h G.edges es)(hv:GV G.n es)(hs:X3 G.n.toNat es)(hlen:(es.length:Int)+3=2*G.n)(H:∀h',h.le h'->Kb true h'):zc (F.z6w G) Kb h:=by
 refine zd (λb h'=>b=true) (λK' hk=>?_) λr h' hl hr=>by subst hr;exact H h' hl
 unfold F.z6w;have hn:=hv.1;refine z0x hl (by omega) λb h1 hl1 hb=>?_
 rw[hb.2 hv];refine Z4 rfl (ze (λh2=>hk _ _ hl1 rfl) (λh2=>?_));refine zd (λr h'=>r=3) (λK2 hk2=>?_) λr h' hl hr=>by subst hr;exact hk _ _ (Hp.le_trans hl1 hl) rfl
 unfold F.z7x;refine z0x (hl.le yb hl1) (by omega) λb2 h3 hl3 hb2=>?_
 rw[hb2.2 hv];refine zr rfl ?_;refine z9m (hl.le yb (Hp.le_trans hl1 hl3)) hv hs (by omega) λr h4 hl4 hr=>hk2 _ _ (Hp.le_trans hl3 hl4) ?_
 have:=hr.len;rw[zt7]at this;rw[this,w64 (n:=2*G.n) (by omega),w64 (by omega)];omega
end
end Den
end

section
namespace Den
open Go Iv Lx
def EL(h:Hp)(l:Sl)(es:List (Int×Int)):Prop:=Rd h 2 l (es.flatMap z00)/\l.len<=l.cap
theorem zfl(e:Int×Int):(z00 e).length=2:=rfl
theorem zuo:∀{xs:List A2_Int} {es:List (Int×Int)},xs.length=es.length->(∀k (h1:k<xs.length) (h2:k<es.length),xs[k].c0=es[k].1/\xs[k].c1=es[k].2)->xs.flatMap a2c=es.flatMap z00
 | [],[],_,_=>rfl
 | [],_ :: _,h,_=>by simp at h
 | _ :: _,[],h,_=>by simp at h
 | x :: xs,e :: es,h,hk=>by
   have h0:=hk 0 (by simp) (by simp);simp only[Ua]at h0;rw[Ur,Ur,zuo (xs:=xs) (es:=es) (by simpa using h) λk h1 h2=>by
    have:=hk (k+1) (by simpa using h1) (by simpa using h2);simpa only[List.getElem_cons_succ] using this]
   unfold a2c z00;rw[h0.1,h0.2]
theorem LR.el{h:Hp}{l:Sl}{es:List (Int×Int)}(hl:LR a2c 2 A2P h l es):EL h l es:=by
 obtain⟨xs,h1,h2,h3,h4⟩:=hl;rw[zuo h3 λk k1 k2=>h4 k k1 k2]at h1;exact⟨h1,h2⟩
theorem EL.lr{h:Hp}{l:Sl}{es:List (Int×Int)}(hl:EL h l es):LR a2c 2 A2P h l es:=by
 refine⟨es.map λe=>⟨e.1,e.2⟩,?_,hl.2,by simp,λk h1 h2=>by simp[A2P]⟩;rw[zuo (es:=es) (by simp) λk h1 h2=>by simp];exact hl.1
theorem EL.len{h:Hp}{l:Sl}{es:List (Int×Int)}(hx:EL h l es):l.len=es.length:=hx.lr.len yb
theorem znd{α:Type}{c:α->List Value}{n:Nat}(hc:∀x,(c x).length=n):∀{xs:List α} {k:Nat},(xs.flatMap c).drop (k*n)=(xs.drop k).flatMap c
 | [],k=>by simp
 | x :: xs,0=>by simp
 | x :: xs,k+1=>by
   rw[Ur,List.drop_succ_cons,<-znd hc (xs:=xs) (k:=k),Js,Pr,Nat.add_comm,<-T7];congr 1;rw[<-hc x,List.drop_append_of_le_length (Ja _),List.drop_length,Tf]
theorem zwj{α:Type}{c:α->List Value}{n:Nat}(hc:∀x,(c x).length=n){xs:List α}{k:Nat}:(xs.flatMap c).take (k*n)=(xs.take k).flatMap c:=by
 have h:=List.take_append_drop k xs;by_cases hk:k<=xs.length
 . conv=>lhs;rw[<-h,G5]
   have:((xs.take k).flatMap c).length=k*n:=by rw[Xc hc,Jl,Gk hk]
   rw[Jx (by omega),Jd (by omega)]
 . rw[Jd (by rw[Xc hc];exact Jj _ (by omega)),Jd (by omega)]
theorem Own.bk{D h:Hp}{size:Nat}{x:Sl}{cs:List Value}(ho:Own D h size x cs):∃f,Bk D h f/\OS f size x cs:=by
 obtain⟨h1,h2,h3,h4⟩:=ho;cases ha:x.a with
 | none=>
   rw[ha]at h4;refine⟨zcg,⟨h1,λb cs hb=>by cases hb⟩,h2,h3,by rw[ha];exact h4⟩
 | some a=>
   rw[ha]at h4;obtain⟨g1,g2,g3,b,g4,g5,g6,g7⟩:=h4;refine⟨z1b zcg a.block b.cells,⟨h1,λk cs hk=>?_⟩,h2,h3,?_⟩
   . by_cases hka:k=a.block
     . subst hka;rw[Z9]at hk;cases hk;exact⟨g3,b.elem,by rw[g4,<-g5]⟩
     . rw[Q7 hka]at hk;cases hk
   . rw[ha];exact⟨g1,g2,b.cells,Z9,g6,g7⟩
section
variable {D h : Hp} {f : BM} {es : List (Int × Int)} {Ks : Sl → Hp → Prop}
theorem GV.cap{n:Int}(h:GV n es):es.length<=3600:=by
 have hn:=h.1;have:=Z3f (q:=λ_=>true) (m:=3600) (J:=es.map λe=>e.1*60+e.2) (λa=>by
  have h1:((es.map λe=>e.1*60+e.2).Nodup):=by
   refine Pt.2 λi j hi hj hij hh=>?_
   rw[J1]at hi hj;rw[Ts,Ts]at hh;have b:=h.lt j i (by omega) hij;have r1:=h.2.1 _ (Jh (by omega:i<es.length));have r2:=h.2.1 _ (Jh (by omega:j<es.length));unfold z29 at b;omega
  rw[h1.count];split<;>omega) (λa ha=>by
  obtain⟨e,he,rfl⟩:=List.mem_map.1 ha;have:=h.2.1 e he;exact⟨by omega,by omega,rfl⟩)
 rw[J1,List.countP_true,Ti]at this;exact this
end
end Den
end

section
namespace Den
open Go Iv Lx
section
variable {D h : Hp} {f f2 : BM} {g : Option Addr} {p : Addr} {n bo bv bt : Nat} {L : List (List Int)} {ss : List Sl} {vis : List Bool} {T : List Int} {le : Sl} {es : List (Int × Int)}
def okL(n m:Nat)(L:List (List Int)):Prop:=(∀v,v<n->(L.getD v []).length<=2)/\∀v,v<n->∀j∈L.getD v [],0<=j/\j<m
end
end Den
end

section
namespace Den
open Go Iv Lx
section
variable {D h : Hp} {f : BM} {n : Nat} {es : List (Int × Int)}
end
end Den
end

section
namespace Den
def inP(P:List Int)(v:Int):Bool:=decide (v∈P)
structure Lam(n:Nat)(P:List Int)(E:List (Int×Int)):Prop where
 rng:∀v∈P,0<=v/\v<n
 few:∀X:Int->Bool,2<=szX n (λv=>X v&&inP P v)->z0u E X+3<=2*szX n λv=>X v&&inP P v
 none:∀X:Int->Bool,szX n (λv=>X v&&inP P v)<=1->z0u E X=0
 tight:E.length+3=2*szX n (inP P)
theorem zja{n:Nat}{Y:Int->Bool}{x z:Int}(hx:0<=x/\x<n)(hz:0<=z/\z<n)(hne:x≠z):(if Y x then 1 else 0)+(if Y z then 1 else 0)<=szX n Y:=by
 unfold szX;have key:∀m:Nat,(if Y x/\x<(m:Int)then 1 else 0)+(if Y z/\z<(m:Int)then 1 else 0)<=(Jp m).countP λi:Nat=>Y (i:Int):=by
  intro m;induction m with
  | zero=>rw[if_neg (by omega),if_neg (by omega)];simp
  | succ m ih=>
    rw[Gp,Uo,Uc];by_cases h1:x=(m:Int)
    . have h2:¬z=(m:Int):=λhh=>hne (h1.trans hh.symm)
      have e2:(if Y z/\z<((m+1:Nat):Int)then 1 else 0)=(if Y z/\z<(m:Int)then 1 else 0):=by
       congr 1;exact propext ⟨λh=>⟨h.1,by omega⟩,λh=>⟨h.1,by omega⟩⟩
      rw[e2];rw[if_neg (show ¬(Y x/\x<(m:Int))by omega)]at ih;subst h1;by_cases hy:Y (m:Int)=true
      . rw[if_pos hy,if_pos (show Y (m:Int)=true/\(m:Int)<((m+1:Nat):Int) from ⟨hy,by omega⟩)];omega
      . rw[if_neg hy,if_neg (show ¬(Y (m:Int)=true/\(m:Int)<((m+1:Nat):Int)) from λhh=>hy hh.1)];omega
    . have e1:(if Y x/\x<((m+1:Nat):Int)then 1 else 0)=(if Y x/\x<(m:Int)then 1 else 0):=by
       congr 1;exact propext ⟨λh=>⟨h.1,by omega⟩,λh=>⟨h.1,by omega⟩⟩
      rw[e1];by_cases h2:z=(m:Int)
      . rw[if_neg (show ¬(Y z/\z<(m:Int))by omega)]at ih;subst h2;by_cases hy:Y (m:Int)=true
        . rw[if_pos hy,if_pos (show Y (m:Int)=true/\(m:Int)<((m+1:Nat):Int) from ⟨hy,by omega⟩)];omega
        . rw[if_neg hy,if_neg (show ¬(Y (m:Int)=true/\(m:Int)<((m+1:Nat):Int)) from λhh=>hy hh.1)];omega
      . have e2:(if Y z/\z<((m+1:Nat):Int)then 1 else 0)=(if Y z/\z<(m:Int)then 1 else 0):=by
         congr 1;exact propext ⟨λh=>⟨h.1,by omega⟩,λh=>⟨h.1,by omega⟩⟩
        rw[e2];omega
 have:=key n;have e1:(if Y x/\x<(n:Int)then 1 else 0)=(if Y x then 1 else 0):=by congr 1;exact propext ⟨λh=>h.1,λh=>⟨h,hx.2⟩⟩
 have e2:(if Y z/\z<(n:Int)then 1 else 0)=(if Y z then 1 else 0):=by congr 1;exact propext ⟨λh=>h.1,λh=>⟨h,hz.2⟩⟩
 rw[e1,e2]at this;exact this
theorem Zdf{n:Nat}{a b:Int}(ha:0<=a/\a<n)(hb:0<=b/\b<n)(hab:a≠b):Lam n [a,b] [(a,b)]:=by
 have hle:∀X:Int->Bool,szX n (λv=>X v&&inP [a,b] v)<=2:=by
  intro X;unfold szX;have key:∀m:Nat,(Jp m).countP (λi:Nat=>X (i:Int)&&inP [a,b] (i:Int))<=(if a<(m:Int)then 1 else 0)+(if b<(m:Int)then 1 else 0):=by
   intro m;induction m with
   | zero=>simp
   | succ m ih=>
     rw[Gp,Uo,Uc];have hi:(X (m:Int)&&inP [a,b] (m:Int))=true->(m:Int)=a\/(m:Int)=b:=λh=>by
      rw[Jv]at h;have:=of_decide_eq_true h.2;simpa using this
     by_cases hh:(X (m:Int)&&inP [a,b] (m:Int))=true
     . rw[if_pos hh];rcases hi hh with h1 | h1
       . rw[if_neg (show ¬a<(m:Int)by omega)]at ih;rw[if_pos (show a<((m+1:Nat):Int)by omega)];by_cases h2:b<(m:Int)
         . rw[if_pos h2]at ih;rw[if_pos (by omega)];omega
         . rw[if_neg h2]at ih;rw[if_neg (by omega)];omega
       . rw[if_neg (show ¬b<(m:Int)by omega)]at ih;rw[if_pos (show b<((m+1:Nat):Int)by omega)];by_cases h2:a<(m:Int)
         . rw[if_pos h2]at ih;rw[if_pos (by omega)];omega
         . rw[if_neg h2]at ih;rw[if_neg (by omega)];omega
     . rw[if_neg hh];have e1:(if a<(m:Int)then 1 else 0)<=(if a<((m+1:Nat):Int)then 1 else 0):=by split<;>split<;>omega
       have e2:(if b<(m:Int)then 1 else 0)<=(if b<((m+1:Nat):Int)then 1 else 0):=by split<;>split<;>omega
       omega
  have:=key n;rw[if_pos ha.2,if_pos hb.2]at this;exact this
 have hge:∀X:Int->Bool,(if X a then 1 else 0)+(if X b then 1 else 0)<=szX n (λv=>X v&&inP [a,b] v):=λX=>by
  have:=zja (Y:=λv=>X v&&inP [a,b] v) ha hb hab;have e1:inP [a,b] a=true:=decide_eq_true (by simp);have e2:inP [a,b] b=true:=decide_eq_true (by simp);simp only[e1,e2,Pl]at this;exact this
 have hc:∀X:Int->Bool,z0u [(a,b)] X=if X a&&X b then 1 else 0:=λX=>by unfold z0u;rw[Uc]
 refine⟨λv hv=>?_,λX hX=>?_,λX hX=>?_,?_⟩
 . simp only[Ju,Uk,or_false]at hv;rcases hv with rfl | rfl<;>assumption
 . rw[hc];split<;>omega
 . have:=hge X;rw[hc,if_neg];intro hh;rw[Jv]at hh;rw[if_pos hh.1,if_pos hh.2]at this;omega
 . have h1:=hle λ_=>true
   have h2:=hge λ_=>true
   simp only[Bool.true_and,if_true]at h1 h2;have e:(λv=>inP [a,b] v)=inP [a,b]:=rfl;rw[e]at h1 h2;simp only[J3,List.length_nil];omega
theorem Z9n{n:Nat}{P1 P2 P3 P:List Int}{x y z:Int}{X:Int->Bool}(hx:∀v,v∈P1/\v∈P2↔v=x)(hy:∀v,v∈P2/\v∈P3↔v=y)(hz:∀v,v∈P1/\v∈P3↔v=z)(hxy:x≠y)(hyz:y≠z)(hxz:x≠z)
 (hP:∀v,v∈P↔v∈P1\/v∈P2\/v∈P3) (bx:0<=x/\x<n) (by_:0<=y/\y<n) (bz:0<=z/\z<n) :
 szX n (λv=>X v&&inP P1 v)+szX n (λv=>X v&&inP P2 v)+szX n (λv=>X v&&inP P3 v)=szX n (λv=>X v&&inP P v)+((if X x then 1 else 0)+(if X y then 1 else 0)+(if X z then 1 else 0)):=by
 unfold szX;have one:∀v:Int,(if (X v&&inP P1 v)=true then 1 else 0)+(if (X v&&inP P2 v)=true then 1 else 0)+(if (X v&&inP P3 v)=true then 1 else 0) =
  (if (X v&&inP P v)=true then 1 else 0)+((if X v/\v=x then 1 else 0)+(if X v/\v=y then 1 else 0)+(if X v/\v=z then 1 else 0)):=by
  intro v;cases hX:X v with
  | false=>simp
  | true=>
    have g1:=hx v;have g2:=hy v;have g3:=hz v;have g4:=hP v;unfold inP;by_cases m1:v∈P1<;>by_cases m2:v∈P2<;>by_cases m3:v∈P3<;>simp only[m1,m2,m3,and_true,and_self,and_false,or_true,or_false,true_iff,false_iff,iff_true,iff_false]at g1 g2 g3 g4 <;>
     first
     | exact absurd (g1.symm.trans g2) hxy
     | (simp[m1,m2,m3,g1,g2,g3,g4];done)
     | (subst g1;simp[m1,m2,m3,g4,hxy,hxz];done)
     | (subst g2;simp[m1,m2,m3,g4,hyz,hxy.symm];done)
     | (subst g3;simp[m1,m2,m3,g4,hyz.symm,hxz.symm];done)
 have at_:∀(w:Int) m,(if X w/\w<((m+1:Nat):Int)then 1 else 0)=(if X w/\w<(m:Int)then 1 else 0)+(if X (m:Int)/\(m:Int)=w then 1 else 0):=by
  intro w m;by_cases h1:(m:Int)=w
  . subst h1;by_cases h2:X (m:Int)=true
    . rw[if_pos ⟨h2,by omega⟩,if_neg (by omega),if_pos ⟨h2,rfl⟩]
    . rw[if_neg (λh=>h2 h.1),if_neg (λh=>h2 h.1),if_neg (λh=>h2 h.1)]
  . rw[if_neg (show ¬(X (m:Int)/\(m:Int)=w) from λh=>h1 h.2)];have:(X w/\w<((m+1:Nat):Int))=(X w/\w<(m:Int)):=propext ⟨λh=>⟨h.1,by omega⟩,λh=>⟨h.1,by omega⟩⟩;simp only[this,Uy]
 have key:∀m:Nat,(Jp m).countP (λi:Nat=>X (i:Int)&&inP P1 (i:Int))+(Jp m).countP (λi:Nat=>X (i:Int)&&inP P2 (i:Int))+(Jp m).countP (λi:Nat=>X (i:Int)&&inP P3 (i:Int)) =
  (Jp m).countP (λi:Nat=>X (i:Int)&&inP P (i:Int))+((if X x/\x<(m:Int)then 1 else 0)+(if X y/\y<(m:Int)then 1 else 0)+(if X z/\z<(m:Int)then 1 else 0)):=by
  intro m;induction m with
  | zero=>
    rw[if_neg (show ¬(X x/\x<((0:Nat):Int))by omega),if_neg (show ¬(X y/\y<((0:Nat):Int))by omega),if_neg (show ¬(X z/\z<((0:Nat):Int))by omega)];simp
  | succ m ih=>
    simp only[Gp,Uo,Uc];rw[at_ x m,at_ y m,at_ z m];have:=one (m:Int);omega
 have:=key n;have e:∀w:Int,w<n->(if X w/\w<(n:Int)then 1 else 0)=(if X w then 1 else 0):=λw hw=>by congr 1;exact propext ⟨λh=>h.1,λh=>⟨h,hw⟩⟩
 rw[e x bx.2,e y by_.2,e z bz.2]at this;exact this
theorem Z1d{n:Nat}{P1 P2 P3 P:List Int}{E1 E2 E3 E:List (Int×Int)}{x y z:Int}(h1:Lam n P1 E1)(h2:Lam n P2 E2)(h3:Lam n P3 E3)(hx:∀v,v∈P1/\v∈P2↔v=x)(hy:∀v,v∈P2/\v∈P3↔v=y)(hz:∀v,v∈P1/\v∈P3↔v=z)
 (hxy:x≠y) (hyz:y≠z) (hxz:x≠z) (hP:∀v,v∈P↔v∈P1\/v∈P2\/v∈P3) (hE:E.Perm (E1++E2++E3)):Lam n P E:=by
 have mx:=(hx x).2 rfl;have my:=(hy y).2 rfl;have mz:=(hz z).2 rfl;have bx:=h1.rng x mx.1;have by_:=h2.rng y my.1;have bz:=h1.rng z mz.1;have sz:∀X:Int->Bool,_:=λX=>Z9n (n:=n) (X:=X) hx hy hz hxy hyz hxz hP bx by_ bz
 have i1:∀{Q:List Int} {v:Int},v∈Q->inP Q v=true:=λh=>decide_eq_true h
 have w1:∀X:Int->Bool,(if X x then 1 else 0)+(if X z then 1 else 0)<=szX n (λv=>X v&&inP P1 v):=λX=>by
  have:=zja (Y:=λv=>X v&&inP P1 v) bx bz hxz;simp only[i1 mx.1,i1 mz.1,Pl]at this;exact this
 have w2:∀X:Int->Bool,(if X x then 1 else 0)+(if X y then 1 else 0)<=szX n (λv=>X v&&inP P2 v):=λX=>by
  have:=zja (Y:=λv=>X v&&inP P2 v) bx by_ hxy;simp only[i1 mx.2,i1 my.1,Pl]at this;exact this
 have w3:∀X:Int->Bool,(if X y then 1 else 0)+(if X z then 1 else 0)<=szX n (λv=>X v&&inP P3 v):=λX=>by
  have:=zja (Y:=λv=>X v&&inP P3 v) by_ bz hyz;simp only[i1 my.2,i1 mz.2,Pl]at this;exact this
 have hb:∀X:Int->Bool,∀w,(if X w then 1 else 0)<=1:=λX w=>by split<;>omega
 have hc:∀X:Int->Bool,z0u E X=z0u E1 X+z0u E2 X+z0u E3 X:=λX=>by
  rw[zn0 hE];unfold z0u;rw[Uo,Uo]
 refine⟨λv hv=>?_,λX hX=>?_,λX hX=>?_,?_⟩
 . rcases(hP v).1 hv with h | h | h
   . exact h1.rng v h
   . exact h2.rng v h
   . exact h3.rng v h
 . have a0:=sz X;have a1:=w1 X;have a2:=w2 X;have a3:=w3 X;have b1:=hb X x;have b2:=hb X y;have b3:=hb X z;have c1:=h1.few X;have c2:=h2.few X;have c3:=h3.few X;have d1:=h1.none X;have d2:=h2.none X;have d3:=h3.none X;rw[hc];generalize szX n (λv=>X v&&inP P1 v)=s1 at *;generalize szX n (λv=>X v&&inP P2 v)=s2 at *;generalize szX n (λv=>X v&&inP P3 v)=s3 at *;generalize szX n (λv=>X v&&inP P v)=s at *;generalize (if X x then 1 else 0)=p at *;generalize (if X y then 1 else 0)=q at *;generalize (if X z then 1 else 0)=r at *;generalize z0u E1 X=k1 at *;generalize z0u E2 X=k2 at *;generalize z0u E3 X=k3 at *;omega
 . have a0:=sz X;have a1:=w1 X;have a2:=w2 X;have a3:=w3 X;have d1:=h1.none X;have d2:=h2.none X;have d3:=h3.none X;rw[hc];generalize szX n (λv=>X v&&inP P1 v)=s1 at *;generalize szX n (λv=>X v&&inP P2 v)=s2 at *;generalize szX n (λv=>X v&&inP P3 v)=s3 at *;generalize szX n (λv=>X v&&inP P v)=s at *;generalize (if X x then 1 else 0)=p at *;generalize (if X y then 1 else 0)=q at *;generalize (if X z then 1 else 0)=r at *;omega
 . have a0:=sz λ_=>true
   simp only[Bool.true_and,if_true]at a0;have t1:=h1.tight;have t2:=h2.tight;have t3:=h3.tight;rw[hE.length_eq,Je,Je];have e1:(λv=>inP P1 v)=inP P1:=rfl;have e2:(λv=>inP P2 v)=inP P2:=rfl;have e3:(λv=>inP P3 v)=inP P3:=rfl;have e4:(λv=>inP P v)=inP P:=rfl;rw[e1,e2,e3,e4]at a0;omega
end Den
end

section
namespace Den
theorem zof{α:Type}{R:α->α->Prop}(hirr:∀a,¬R a a)(hasym:∀a b,R a b->¬R b a):∀{l m:List α},l.Pairwise R->m.Pairwise R->(∀v,v∈l↔v∈m)->l=m
 | [],[],_,_,_=>rfl
 | [],b :: m,_,_,h=>absurd ((h b).2 (Ut ..)) Uk
 | a :: l,[],_,_,h=>absurd ((h a).1 (Ut ..)) Uk
 | a :: l,b :: m,h1,h2,h=>by
   rw[Px]at h1 h2;have e:a=b:=by
    rcases Ju.1 ((h a).1 (Ut ..))with h3 | h3
    . exact h3
    . rcases Ju.1 ((h b).2 (Ut ..))with h4 | h4
      . exact h4.symm
      . exact absurd (h1.1 b h4) (hasym b a (h2.1 a h3))
   subst e;rw[zof hirr hasym h1.2 h2.2 λv=>?_];constructor
   . intro hv;rcases Ju.1 ((h v).1 (Us _ hv))with h3 | h3
     . subst h3;exact absurd (h1.1 v hv) (hirr v)
     . exact h3
   . intro hv;rcases Ju.1 ((h v).2 (Us _ hv))with h3 | h3
     . subst h3;exact absurd (h2.1 v hv) (hirr v)
     . exact h3
def Ym:List Int->List Int
 | []=>[]
 | [a]=>[a]
 | a :: b :: l=>if a=b then Ym (b :: l)else a :: Ym (b :: l)
theorem zbu:∀{l:List Int} {v:Int},v∈Ym l↔v∈l
 | [],_=>Pc
 | [a],_=>Pc
 | a :: b :: l,v=>by
   have ih:=zbu (l:=b :: l) (v:=v);unfold Ym;by_cases h:a=b
   . rw[if_pos h,ih,h];simp
   . rw[if_neg h,Ju,ih,Ju (l:=b :: l)]
theorem zhz:∀{l:List Int},l.Pairwise (·<=·)->(Ym l).Pairwise (·<·)
 | [],_=>List.Pairwise.nil
 | [a],_=>List.pairwise_singleton _ _
 | a :: b :: l,h=>by
   have h':=Px.1 h;have ih:=zhz h'.2;unfold Ym;by_cases hab:a=b
   . rw[if_pos hab];exact ih
   . rw[if_neg hab,Px];refine⟨λv hv=>?_,ih⟩;have h1:=zbu.1 hv;have h2:=h'.1 v h1;have h3:=h'.1 b (Ut ..);rcases Ju.1 h1 with rfl | h4
     . omega
     . have:=(Px.1 h'.2).1 v h4;omega
def zbb(es:List (Int×Int)):List Int:=es.flatMap λe=>[e.1,e.2]
theorem zde:∀(es:List (Int×Int)),(zbb es).length=2*es.length
 | []=>rfl
 | e :: es=>by
   have ih:=zde es;unfold zbb at ih |-
   rw[Ur,Je,ih,J3];simp only[J3,List.length_nil];omega
def z30(es:List (Int×Int)):List Int:=Ym ((zbb es).mergeSort λx y=>decide (x<=y))
theorem zdo{es:List (Int×Int)}{v:Int}:v∈z30 es↔∃e∈es,v=e.1\/v=e.2:=by
 unfold z30;rw[zbu,List.mem_mergeSort];unfold zbb;rw[List.mem_flatMap];constructor
 . rintro⟨e,he,hv⟩;exact⟨e,he,by simpa using hv⟩
 . rintro⟨e,he,hv⟩;exact⟨e,he,by simpa using hv⟩
theorem zj7{es:List (Int×Int)}:(z30 es).Pairwise (·<·):=by
 unfold z30;refine zhz ?_;have:=List.pairwise_mergeSort (le:=λx y:Int=>decide (x<=y)) (λa b c h1 h2=>by simp at *;omega) (λa b=>by simp;omega) (zbb es);exact this.imp λh=>by simpa using h
theorem zl8{es fs:List (Int×Int)}{v:Int}:v∈z30 (es++fs)↔v∈z30 es\/v∈z30 fs:=by
 rw[zdo,zdo,zdo];constructor
 . rintro⟨e,he,hv⟩;rcases Ub.1 he with h | h
   . exact .inl ⟨e,h,hv⟩
   . exact .inr ⟨e,h,hv⟩
 . rintro(⟨e,he,hv⟩ | ⟨e,he,hv⟩)
   . exact⟨e,List.mem_append_left _ he,hv⟩
   . exact⟨e,List.mem_append_right _ he,hv⟩
def zfd(a b:List Int):Option Int:=match a.filter λx=>decide (x∈b)with | [x]=>some x | _=>none
theorem zon{a b:List Int}{x:Int}(h:zfd a b=some x)(v:Int):v∈a/\v∈b↔v=x:=by
 unfold zfd at h;have e:a.filter (λx=>decide (x∈b))=[x]:=by
  split at h
  . rename_i y hy;cases h;exact hy
  . cases h
 have:v∈a.filter (λx=>decide (x∈b))↔v∈[x]:=by rw[e]
 rw[Ta,J6,decide_eq_true_iff]at this;exact this
def mrg(a b c:List Int):Option (Int×Int×Int):=
 match zfd a b,zfd b c,zfd a c with
 | some x,some y,some z=>if x=y\/y=z\/x=z then none else some (x,y,z)
 | _,_,_=>none
theorem Z9t{a b c:List Int}{x y z:Int}(h:mrg a b c=some (x,y,z)):zfd a b=some x/\zfd b c=some y/\zfd a c=some z/\x≠y/\y≠z/\x≠z:=by
 unfold mrg at h;split at h
 . rename_i x' y' z' h1 h2 h3;split at h
   . cases h
   . rename_i hn;simp only[Jm,Prod.mk.injEq]at h;obtain⟨rfl,rfl,rfl⟩:=h;exact⟨h1,h2,h3,λhh=>hn (.inl hh),λhh=>hn (.inr (.inl hh)),λhh=>hn (.inr (.inr hh))⟩
 . cases h
inductive PTr where
 | leaf (a b:Int)
 | node (a b c:Int) (p q r:PTr)
def PTr.bars:PTr->List (Int×Int)
 | .leaf a b=>[(a,b)]
 | .node _ _ _ p q r=>p.bars++q.bars++r.bars
def PTr.size:PTr->Nat
 | .leaf _ _=>1
 | .node _ _ _ p q r=>p.size+q.size+r.size+1
def PTr.dep:PTr->Nat
 | .leaf _ _=>1
 | .node _ _ _ p q r=>max p.dep (max q.dep r.dep)+1
theorem PTr.bars_pos:∀(t:PTr),1<=t.bars.length
 | .leaf _ _=>Ja _
 | .node _ _ _ p q r=>by
   have:=PTr.bars_pos p;unfold PTr.bars;rw[Je,Je];omega
theorem PTr.dep_le:∀(t:PTr),t.dep<=t.bars.length
 | .leaf _ _=>Ja _
 | .node _ _ _ p q r=>by
   have h1:=PTr.dep_le p;have h2:=PTr.dep_le q;have h3:=PTr.dep_le r;have g1:=PTr.bars_pos p;have g2:=PTr.bars_pos q;have g3:=PTr.bars_pos r;unfold PTr.bars PTr.dep;rw[Je,Je];omega
def PTr.right:PTr->Prop
 | .leaf _ _=>True
 | .node a b c p q r=>p.right/\q.right/\r.right/\mrg (z30 p.bars) (z30 q.bars) (z30 r.bars)=some (b,c,a)
theorem Lam.congr{n:Nat}{P Q:List Int}{E:List (Int×Int)}(h:Lam n P E)(hPQ:∀v,v∈P↔v∈Q):Lam n Q E:=by
 have e:inP P=inP Q:=by funext v;unfold inP;rw[decide_eq_decide];exact hPQ v
 obtain⟨h1,h2,h3,h4⟩:=h;rw[e]at h2 h3 h4;exact⟨λv hv=>h1 v ((hPQ v).2 hv),h2,h3,h4⟩
theorem PTr.lam{n:Nat}:∀{t:PTr},t.right->(∀e∈t.bars,0<=e.1/\e.1<e.2/\e.2<(n:Int))->Lam n (z30 t.bars) t.bars
 | .leaf a b,_,h=>by
   have:=h (a,b) (by unfold PTr.bars;simp);simp only at this;refine(Zdf (n:=n) (a:=a) (b:=b) ⟨this.1,by omega⟩ ⟨by omega,this.2.2⟩ (by omega)).congr λv=>?_
   rw[zdo];unfold PTr.bars;simp
 | .node a b c p q r,hr,h=>by
   obtain⟨h1,h2,h3,h4⟩:=hr;unfold PTr.bars at h;have l1:=PTr.lam h1 λe he=>h e (by simp[he])
   have l2:=PTr.lam h2 λe he=>h e (by simp[he])
   have l3:=PTr.lam h3 λe he=>h e (by simp[he])
   obtain⟨g1,g2,g3,g4,g5,g6⟩:=Z9t h4;refine Z1d l1 l2 l3 (zon g1) (zon g2) (zon g3) g4 g5 g6 (λv=>?_) (List.Perm.refl _);show v∈z30 (p.bars++q.bars++r.bars)↔_;rw[zl8,zl8,or_assoc]
end Den
end

section
namespace Den
open Go Iv Lx
def tc(x:TTree):List Value:=[.int .i64 x.a,.int .i64 x.b,.int .i64 x.c,.slice x.parts.a x.parts.len x.parts.cap]
theorem Zp6(x:TTree):(tc x).length=4:=rfl
inductive TR (h:Hp):TTree->PTr->Prop
 | leaf (a b:Int) (s:Sl):s.len=0->TR h ⟨a,b,0,s⟩ (.leaf a b)
 | node (a b c:Int) (s:Sl) (X Y Z:TTree) (p q r:PTr):Rd h 4 s (tc X++(tc Y++tc Z))->s.len=3->s.len<=s.cap->TR h X p->TR h Y q->TR h Z r->TR h ⟨a,b,c,s⟩ (.node a b c p q r)
theorem TR.le{h h':Hp}(hl:h.le h'){x:TTree}{t:PTr}(hx:TR h x t):TR h' x t:=by
 induction hx with
 | leaf a b s h=>exact .leaf a b s h
 | node a b c s X Y Z p q r h1 h2 h3 _ _ _ i1 i2 i3=>exact .node a b c s X Y Z p q r (h1.le hl) h2 h3 i1 i2 i3
theorem X1:Rec tc 4 TR:=⟨Zp6,by decide,λx=>rfl,λhx hl=>hx.le hl⟩
theorem TR.parts{h:Hp}{a b c:Int}{s:Sl}{p q r:PTr}(hx:TR h ⟨a,b,c,s⟩ (.node a b c p q r)):LR tc 4 TR h s [p,q,r]/\s.len=3:=by
 cases hx with
 | node _ _ _ _ X Y Z _ _ _ h1 h2 h3 hX hY hZ=>
   refine⟨⟨[X,Y,Z],?_,h3,rfl,λk k1 k2=>?_⟩,h2⟩
   . show Rd h 4 s (tc X++(tc Y++(tc Z++[])));rw[Gt];exact h1
   . have:k<3:=k1;rcases(by omega:k=0\/k=1\/k=2)with rfl | rfl | rfl
     . exact hX
     . exact hY
     . exact hZ
theorem Z32:∀(fuel:Nat) {h:Hp} {x:TTree} {t:PTr} {K:Sl->Hp->Prop},TR h x t->t.dep<=fuel->t.bars.length<=100000->(∀y h',Own h h' 2 y (t.bars.flatMap z00)->K y h')->F.Wu fuel x K h:=by
 intro fuel;induction fuel with
 | zero=>intro h x t K _ hd _ _;cases t<;>unfold PTr.dep at hd<;>omega
 | succ fuel ih=>
   intro h x t K hx hd hlen H;unfold F.Wu;cases hx with
   | leaf a b s h0=>
     refine zu (λ_=>?_) (λh1=>by simp only at h1;omega);refine z3s (n:=1) (size:=2) rfl λbk h' _ ho=>H _ h' ?_
     exact ho
   | node a b c s X Y Z p q r h1 h2 h3 hX hY hZ=>
     have hp:=TR.parts (.node a b c s X Y Z p q r h1 h2 h3 hX hY hZ);unfold PTr.dep at hd;unfold PTr.bars at hlen;rw[Je,Je]at hlen;refine zu (λh4=>by simp only at h4;omega) (λ_=>?_);obtain⟨ps,hps⟩:∃ps:List PTr,ps=[p,q,r]:=⟨_,rfl⟩;have hdep:∀t∈ps,t.dep<=fuel/\t.bars.length<=100000:=λt ht=>by
      rw[hps]at ht;simp only[Ju,Uk,or_false]at ht;rcases ht with rfl | rfl | rfl<;>omega
     have hpl:ps.length=3:=by rw[hps];rfl
     have htot:(ps.flatMap PTr.bars).length<=100000:=by rw[hps];simp only[Ur,List.flatMap_nil,Gt,Je];omega
     have hfin:PTr.bars (.node a b c p q r)=ps.flatMap PTr.bars:=by
      rw[hps];show p.bars++q.bars++r.bars=p.bars++(q.bars++(r.bars++[]));rw[Gt,Uq]
     rw[hfin]at H;rw[<-hps]at hp;refine Yq (n:=3) (by omega) (λi s' h'=>Own h h' 2 s' (((ps.take i).flatMap PTr.bars).flatMap z00)) (by simpa using Own.nil (Hp.le_refl h)) ?_;intro i s' h' hi ho k hk;refine ze (λh4=>?_) (λh4=>?_)
     . have hi':i<ps.length:=by rw[hpl];simp only at h4;omega
       refine(hp.1.le X1 ho.1).get X1 i rfl hi' λa4 x hx hc=>⟨_,hc 0 _ rfl,_,hc 1 _ rfl,_,hc 2 _ rfl,x.parts,hc 3 _ rfl,?_⟩
       have hd':=hdep _ (Jh hi');refine zd (λy h''=>Own h' h'' 2 y (ps[i].bars.flatMap z00)) (λK' hk'=>ih hx hd'.1 hd'.2 λy h'' hy=>hk' _ _ hy.1 hy) λy h3 hl3 hy=>?_
       have hyl:y.len=ps[i].bars.length:=by
        have:=hy.2.1;rw[Xc zfl]at this;exact Gn (by decide) this
       have hcl:(ps[i].bars.flatMap z00).length=y.len*2:=hy.2.1.symm;refine⟨_,by rw[<-hcl];exact hy.rd.2,?_⟩;have hsl:s'.len=((ps.take i).flatMap PTr.bars).length:=by
        have:=ho.2.1;rw[Xc zfl]at this;exact Gn (by decide) this
       have htk:(ps.take (i+1)).flatMap PTr.bars=(ps.take i).flatMap PTr.bars++ps[i].bars:=by
        rw[<-Jk hi',G5];simp
       have hle:((ps.take i).flatMap PTr.bars).length+ps[i].bars.length<=100000:=by
        rw[<-Je,<-htk];have:=congrArg (λl=>(l.flatMap PTr.bars).length) (List.take_append_drop (i+1) ps);simp only[G5,Je]at this;omega
       refine z54 (ho.le hl3) (n:=y.len) hcl rfl (by rw[List.all_flatMap];exact Jz.2 λ_ _=>rfl) (by show(s'.len+y.len)*16<=_;omega) (by show s'.len+y.len<=_;omega) λw h4 hw _=>hk _ _ (by omega) ?_
       rw[htk,G5];exact hw
     . have:i=3:=by simp only at h4;omega
       subst this;rw[Jd (by omega)]at ho;exact H _ _ ho
section
variable {D h : Hp} {f : BM} {Ks : Sl → Hp → Prop}
theorem zmv{x:TTree}{t:PTr}(hx:TR h x t)(hlen:t.bars.length<=100000)(H:∀y h',Own h h' 2 y (t.bars.flatMap z00)->Ks y h'):zc (F.z2n x) Ks h:=by
 refine zd (λy h'=>Own h h' 2 y (t.bars.flatMap z00)) (λK' hk=>?_) λy h' _ hy=>H y h' hy
 unfold F.z2n;exact⟨t.dep,Z32 _ hx (Ja _) hlen λy h' hy=>hk _ _ hy.1 hy⟩
theorem zti{α:Type}{enc:α->List Value}{size:Nat}{srt:List α->List α}{x:Sl}{xs:List α}{K:Unit->Hp->Prop}(hsz:0<size)(hc:∀a,(enc a).length=size)(hsl:(srt xs).length=xs.length)(hlf:∀a,(enc a).all Value.leaf=true)(ho:OS f size x (xs.flatMap enc))(hB:Bk D h f)(hlen:xs.length<=140737488355328)
 (H:∀f' h',Bk D h' f'->OS f' size x ((srt xs).flatMap enc)->K () h'):zik enc size srt x K h:=by
 have hl:x.len=xs.length:=by
  have:=ho.1;rw[Xc hc]at this;exact Gn hsz this
 have ho':=ho;obtain⟨h1,h2,h3⟩:=ho;cases ha:x.a with
 | none=>
   rw[ha]at h3;simp only at h3;have h0:x.len=0:=by omega
   refine .inl ⟨h0,H f h hB ?_⟩;have:srt xs=[]:=Jn (by omega);rw[this];have e:xs=[]:=Jn (by omega);rw[e]at ho';exact ho'
 | some a=>
   rw[ha]at h3;obtain⟨g1,g2,bs,g3,g4,g5⟩:=h3;have ea:a=⟨a.block,0,none⟩:=by cases a;simp only at g1 g2;rw[g1,g2]
   obtain⟨k1,e,k2⟩:=hB.own _ _ g3;have hfl:(xs.flatMap enc).length=xs.length*size:=Xc hc _;have hsl2:((srt xs).flatMap enc).length=xs.length*size:=by rw[Xc hc,hsl]
   have hle:xs.length*size<=bs.length:=by rw[g4,<-hl];exact Jj _ h2
   refine .inr ⟨a.block,0,⟨bs,e,(0,0)⟩,xs,by rw[<-ea];exact ha,hl,hlen,k2,rfl,by show 0+xs.length*size<=bs.length;omega,?_,?_⟩
   . show(bs.drop 0).take _=_;rw[List.drop_zero,<-hfl];exact g5
   . have hk:stP ⟨a.block,0,none⟩ ((srt xs).flatMap enc) (λh'=>K () h') h:=by
      refine hB.st g3 (by rw[hsl2];omega) (by rw[List.all_flatMap];exact Jz.2 λa _=>hlf a) λh' hB'=>H _ h' hB' ⟨by rw[hsl2,hl],h2,?_⟩
      rw[ha];refine⟨g1,g2,_,Z9,by rw[Yj (by rw[hsl2];omega)];exact g4,?_⟩;unfold Zc;rw[List.take_zero,Tf,Jx (Ja _),Jd (Ja _)]
     obtain⟨b2,q1,q2,q3,q4,q5,q6⟩:=hk;rw[k2]at q1;cases q1;exact q6
theorem za7:∀{l:List Int} {b a:Int},Ym (l++[b,a])=Ym (l++[b])++(if b=a then []else [a])
 | [],b,a=>by
   show Ym [b,a]=Ym [b]++_;unfold Ym;by_cases h:b=a
   . rw[if_pos h,if_pos h,h];rfl
   . rw[if_neg h,if_neg h];rfl
 | [x],b,a=>by
   have ih:=za7 (l:=[]) (b:=b) (a:=a);rw[Tf,Tf]at ih;show Ym (x :: b :: [a])=Ym (x :: b :: [])++_;unfold Ym;by_cases h:x=b
   . rw[if_pos h,if_pos h,ih]
   . rw[if_neg h,if_neg h,ih];rfl
 | x :: y :: l,b,a=>by
   have ih:=za7 (l:=y :: l) (b:=b) (a:=a);show Ym (x :: y :: (l++[b,a]))=Ym (x :: y :: (l++[b]))++_;rw[G9,G9]at ih;unfold Ym;by_cases h:x=y
   . rw[if_pos h,if_pos h,ih]
   . rw[if_neg h,if_neg h,ih];rfl
theorem zff{xs:List Int}{k:Nat}(h1:0<k)(hk:k<xs.length):Ym (xs.take (k+1))=Ym (xs.take k)++(if xs[k-1]=xs[k]then []else [xs[k]]):=by
 have e1:xs.take k=xs.take (k-1)++[xs[k-1]]:=by
  have:=Jk (l:=xs) (i:=k-1) (by omega);rw[show k-1+1=k by omega]at this;exact this.symm
 have e2:xs.take (k+1)=xs.take (k-1)++[xs[k-1],xs[k]]:=by
  rw[<-Jk hk,e1,Uq];rfl
 rw[e2,za7,<-e1]
theorem zi0:∀{l:List Int},(Ym l).length<=l.length
 | []=>Ja _
 | [a]=>Ja _
 | a :: b :: l=>by
   have ih:=zi0 (l:=b :: l);unfold Ym;split
   . simp only[J3]at ih |-;omega
   . simp only[J3]at ih |-;omega
theorem OS.il{x:Sl}{xs:List Int}(ho:OS f 1 x (xs.map ic))(hB:Bk D h f):IL h x xs:=⟨ho.rd hB,ho.2.1⟩
theorem zmb{x:Sl}{xs:List Int}(ho:OS f 1 x (xs.map ic))(hB:Bk D h f)(hlen:xs.length<=1000000)(H:∀y h',D.le h'->IL h' y (Ym xs)->Ks y h'):Qu (F.X9 x) Ks h:=by
 refine Xm ?_;unfold F.X9;have hl:=(ho.il hB).len;refine ze (λh1=>?_) (λh1=>?_)
 . refine H x h hB.le ?_;have:Ym xs=xs:=by
    match xs,hl with
    | [],_=>rfl
    | [a],_=>rfl
    | a :: b :: l,hl=>simp at hl;omega
   rw[this];exact ho.il hB
 have h2:2<=xs.length:=by omega
 refine Zp (λst h'=>∃k:Nat,st.1=(k:Int)/\1<=k/\k<=xs.length/\h'=h/\Ym (xs.take k)=xs.take k) (λst=>(xs.length-st.1).toNat) ⟨1,rfl,Ja _,by omega,by trivial,?_⟩ ?_
 . match xs,h2 with
   | a :: b :: l,_=>rfl
 rintro⟨_,_⟩ h9 ⟨k,rfl,hk1,hk2,hh9,hck⟩;rw[hh9];clear hh9;simp only;refine ze (λh3=>?_) (λh3=>?_)
 . have hk':k<xs.length:=by omega
   have hcs:=zff (by omega) hk';have e1:i64.wrap ((k:Int)-1)=((k-1:Nat):Int):=by rw[w64 (by omega)];omega
   rw[e1];refine(ho.il hB).get k rfl hk' ((ho.il hB).get (k-1) rfl (by omega) ?_);refine zu (λh4=>?_) (λh4=>⟨⟨k+1,by rw[w64 (by omega)];rfl,by omega,hk',by trivial,?_⟩,by rw[w64 (by omega)];omega⟩)
   . have hc0:=ho.2.1;refine⟨by omega,by omega,by omega,?_⟩;have e3:((x.len:Int)).toNat=x.len:=rfl;have e2:((k:Int)).toNat=k:=rfl;rw[e2,e3];have hcap:x.cap≠k:=by omega
     refine Zp (λst h'=>∃(w m:Nat) (f':BM) (ys:List Int),st.1=(w:Int)/\st.2.1=(m:Int)/\1<=m/\k+m<=xs.length/\w<=k+m-1/\1<=w/\Bk D h' f'/\OS f' 1 x (ys.map ic)/\ys.length=xs.length/\ys.take w=Ym (xs.take (k+m))/\ys.drop (k+m-1)=xs.drop (k+m-1))
      (λst=>(xs.length-st.2.1).toNat) ⟨k,1,f,xs,rfl,rfl,Ja _,by omega,by omega,by omega,hB,ho,rfl,?_,rfl⟩ ?_
     . rw[hcs,if_pos h4.symm,Gt];exact hck.symm
     rintro⟨_,_,_⟩ h5 ⟨w,m,f5,ys,rfl,rfl,hm1,hm2,hw,hw1,hB5,ho5,hyl,hyt,hyd⟩;have hcl:(x.cut k x.len 1).len=x.len-k:=rfl;simp only;have hil5:=ho5.il hB5;refine ze (λh6=>?_) (λh6=>?_)
     . have hm':k+m<xs.length:=by rw[hcl]at h6;omega
       have hy1:ys[k+m]'(by omega)=xs[k+m]:=by
        have:=congrArg (λl=>l[1]?) hyd;simp only[Gy]at this;rw[show k+m-1+1=k+m by omega,Jc (by omega),Jc hm']at this;exact J9 this
       have hy0:ys[k+m-1]'(by omega)=xs[k+m-1]'(by omega):=by
        have:=congrArg (λl=>l[0]?) hyd;simp only[Gy]at this;rw[Uy,Jc (by omega),Jc (by omega)]at this;exact J9 this
       have e4:i64.wrap ((m:Int)-1)=((m-1:Nat):Int):=by rw[w64 (by omega)];omega
       rw[e4];have cg:=zff (xs:=xs) (k:=k+m) (by omega) hm';obtain⟨J,hJ⟩:∃J:Int×Unit->Hp->Prop,∀s h',J s h'↔∃(w:Nat) (f':BM) (ys:List Int),s.1=(w:Int)/\w<=k+m/\1<=w/\Bk D h' f'/\OS f' 1 x (ys.map ic)/\ys.length=xs.length/\ys.take w=Ym (xs.take (k+m+1))/\ys.drop (k+m)=xs.drop (k+m):=⟨_,λ_ _=>Pc⟩;refine zh J (λs h' hs=>?_) ?_
       . obtain⟨w',f',ys',q1,q2,q3,q4,q5,q6,q7,q8⟩:=(hJ s h').1 hs;refine⟨⟨w',m+1,f',ys',q1,by rw[w64 (by omega)];rfl,by omega,by omega,by omega,q3,q4,q5,q6,q7,by rw[show k+(m+1)-1=k+m by omega];exact q8⟩,?_⟩;rw[w64 (by omega)];omega
       have hyd':ys.drop (k+m)=xs.drop (k+m):=by
        have:=congrArg (List.drop 1) hyd;rw[T7,T7,show k+m-1+1=k+m by omega]at this;exact this
       have rd:∀(j:Nat) (K:Int->Prop),k+j<ys.length->(∀(hj:k+j<ys.length),K ys[k+j])->zg (x.cut k x.len 1) (j:Int) 1 λa=>ldL (.int .i64) a K h5:=λj K hj hK=>by
        have:=(hil5.1.cut k x.len (by omega) (by rw[J1];omega) hc0);refine zlf j this rfl (v:=ic (ys[k+j])) ?_ λa ha=>⟨_,ha,hK hj⟩
        rw[List.getElem?_take_of_lt (by omega),Gy,Uw,Jc hj];rfl
       refine rd m _ (by omega) λ_=>rd (m-1) _ (by omega) λ_=>?_
       have ey1:ys[k+m]'(by omega)=xs[k+m]:=hy1;have ey0:ys[k+(m-1)]'(by omega)=xs[k+m-1]'(by omega):=by
        have:k+(m-1)=k+m-1:=by omega
        simp only[this];exact hy0
       rw[ey1,ey0];refine Z2 (λh7=>?_) (λh7=>(hJ _ _).2 ⟨w,f5,ys,rfl,by omega,hw1,hB5,ho5,hyl,?_,hyd'⟩)
       . refine rd m _ (by omega) λ_=>?_
         rw[ey1];refine ho5.st (vs:=[ic xs[k+m]]) w hB5 rfl (by omega) rfl (by decide) rfl λf8 h8 hB8 ho8 _=>?_
         rw[J7,z32 (by omega)]at ho8;refine(hJ _ _).2 ⟨w+1,f8,ys.set w xs[k+m],by rw[w64 (by omega)];rfl,by omega,by omega,hB8,ho8,by rw[Gl];exact hyl,?_,?_⟩
         . rw[cg,if_neg (λhh=>h7 hh.symm),<-hyt];have:(ys.set w xs[k+m]).take (w+1)=ys.take w++[xs[k+m]]:=by
            rw[<-Jk (by rw[Gl];omega),List.getElem_set_self,List.take_set_of_le (Ja _)]
           exact this
         . rw[List.drop_set_of_lt (by omega)];exact hyd'
       . rw[cg,if_pos h7.symm,Gt];exact hyt
     . have hm':k+m=xs.length:=by rw[hcl]at h6;omega
       rw[hm',Jd (Ja _)]at hyt;refine⟨by omega,by omega,by omega,?_⟩;have ew:((w:Int)).toNat=w:=rfl;rw[ew,e3];have hcut:=ho5.cut (n:=w) (by omega);rw[J7,<-List.map_take,hyt]at hcut;have hca:(x.cut 0 w 1).a=x.a:=zn3 x w 1;have hxa:∃a,x.a=some a:=by
        cases hxa:x.a with
        | none=>
          have h9:=ho.2.2;rw[hxa]at h9;simp only at h9;omega
        | some a=>exact⟨a,rfl⟩
       have fin:∀f' h',Bk D h' f'->OS f' 1 (x.cut 0 w 1) ((Ym xs).map ic)->slP x 0 (w:Int) 1 λc20=>Ks c20 h':=λf' h' q1 q2=>⟨by omega,by omega,by omega,H _ h' q1.le (q2.il q1)⟩
       refine⟨λh0=>fin f5 h5 hB5 hcut,λh0=>?_⟩;have hlen1:(x.cut w x.len 1).len=x.len-w:=rfl;rw[hlen1];obtain⟨a,hxa⟩:=hxa;have ea:(x.cut w x.len 1).a=some (a.add w):=by
        show(if x.cap=w then x.a else x.a.map (·.add (w*1)))=_;rw[if_neg (by omega),hxa,J7];rfl
       rw[ea];have key:=hcut.spare (vs:=yn (x.len-w) [.int .i64 0]) (k:=w) hB5 ⟨a,by rw[hca];exact hxa⟩ (by rw[J1,<-hyt,Jl];omega) (by rw[z40];show w+(x.len-w)*1<=(x.cap-0)*1;omega)
        (by unfold yn;rw[List.all_flatten];exact Jz.2 λl hl=>by rw[List.mem_replicate]at hl;rw[hl.2];rfl) (K:=λh'=>slP x 0 (w:Int) 1 λc20=>Ks c20 h') λf' h' q1 q2 _=>fin f' h' q1 q2
       rw[hca,hxa]at key;simp only[stO]at key |-
       rw[Zw];exact key
   . rw[hcs,if_neg (λhh=>h4 hh.symm),hck,Jk hk']
 . have:k=xs.length:=by omega
   subst this;rw[Jd (Ja _)]at hck;refine H x h hB.le ?_;rw[hck];exact ho.il hB
theorem zfm(l:List Int):l.flatMap Zds=l.map ic:=by
 induction l with
 | nil=>rfl
 | cons a l ih=>rw[Ur,ih];rfl
theorem z60{x:TTree}{t:PTr}(hx:TR h x t)(hlen:t.bars.length<=100000)(H:∀y h',h.le h'->IL h' y (z30 t.bars)->Ks y h'):zc (F.Q9 x) Ks h:=by
 refine zd (λy h'=>IL h' y (z30 t.bars)) (λK' hk=>?_) λy h' hl hy=>H y h' hl hy
 unfold F.Q9;refine zmv hx hlen λy h1 ho1=>?_
 have hyl:y.len=t.bars.length:=by
  have:=ho1.2.1;rw[Xc zfl]at this;exact Gn (by decide) this
 have hel:EL h1 y t.bars:=⟨ho1.rd,ho1.2.2.1⟩;refine Yq (n:=t.bars.length) (by omega) (λi s h'=>Own h1 h' 1 s ((zbb (t.bars.take i)).map ic)) (by simpa [zbb] using Own.nil (Hp.le_refl h1)) ?_;intro i s h2 hi ho k hk2;refine ze (λh3=>?_) (λh3=>?_)
 . have hi':i<t.bars.length:=by simp only at h3;omega
   refine(hel.lr.le yb ho.1).get yb i rfl hi' λa4 x hx hc=>⟨_,hc 0 _ rfl,_,hc 1 _ rfl,?_⟩
   obtain⟨x1,x2⟩:=hx;rw[x1,x2];have hsl:s.len=2*i:=by
    have:=ho.2.1;rw[J1,J7]at this;rw[this,zde,Jl];omega
   refine z54 ho (n:=2) (new:=[ic t.bars[i].1,ic t.bars[i].2]) rfl rfl rfl (by show(s.len+2)*8<=_;omega) (by show s.len+2<=_;omega) λw h4 hw _=>hk2 _ _ hi' ?_
   have:zbb (t.bars.take (i+1))=zbb (t.bars.take i)++[t.bars[i].1,t.bars[i].2]:=by
    unfold zbb;rw[<-Jk hi',G5];simp
   rw[this,Uf];exact hw
 . have:i=t.bars.length:=by simp only at h3;omega
   subst this;rw[Jd (Ja _)]at ho;obtain⟨f2,hB2,hos⟩:=ho.bk;have hel2:(zbb t.bars).length<=200000:=by rw[zde];omega
   refine Xm (zti (size:=1) (xs:=zbb t.bars) (by decide) (λ_=>rfl) (by unfold Zer;rw[List.length_mergeSort]) (λ_=>rfl) (by rw[zfm];exact hos) hB2 (by omega) λf3 h4 hB4 ho4=>?_);rw[zfm]at ho4;exact zmb ho4 hB4 (by unfold Zer;rw[List.length_mergeSort];omega) λy2 h5 hl5 hy2=>hk _ _ (Hp.le_trans ho1.1 hl5) hy2
end
end Den
end

section
namespace Den
open Go Iv Lx
theorem LR.get2{α β:Type}{c:α->List Value}{n:Nat}{P:Hp->α->β->Prop}{D h:Hp}{l:Sl}{ps:List β}{i:Int}{K:Addr->Prop}(hR:Rec c n P)(hx:LR c n P D l ps)(hl:D.le h)(k:Nat)(hi:i=k)(hk:k<ps.length)
 (H:∀a x,P D x ps[k]->(∀j v,(c x)[j]?=some v->h.cell (a.add j)=some v)->K a):zg l i n K:=by
 obtain⟨xs,h1,h2,h3,h4⟩:=hx;refine zle hR.len hR.pos (h1.le hl) k hi (by omega) λa ha=>H a xs[k] (h4 k (by omega) hk) λj v hv=>ha j v ?_ hv
 have:=(List.getElem?_eq_some_iff.1 hv).1
 rwa [hR.len]at this
section
variable {h : Hp} {a b c : Sl} {A B C : List Int} {Kb : Bool → Hp → Prop}
theorem zrj{α:Type}{l:List α}(h:l.length=1):∃x,l=[x]:=by
 match l,h with
 | [x],_=>exact⟨x,rfl⟩
theorem zbt{K:Int×Bool->Hp->Prop}(ha:IL h a A)(hb:IL h b B)(hlA:A.length<=200000)(hlB:B.length<=200000)(H:∀r h',h.le h'->(r.2=true->zfd A B=some r.1)->(r.2=false->zfd A B=none)->K r h'):zc (F.Vt a b) K h:=by
 refine zd (λr h'=>(r.2=true->zfd A B=some r.1)/\(r.2=false->zfd A B=none)) (λK' hk=>?_) λr h' hl hr=>H r h' hl hr.1 hr.2
 unfold F.Vt;have hal:=ha.len;refine Yq (n:=A.length) (by omega) (λi s h'=>OI h h' s ((A.take i).filter λx=>decide (x∈B))) (by simpa using OI.nil) ?_;intro i s h1 hi ho k hk2;refine ze (λh2=>?_) (λh2=>?_)
 . have hi':i<A.length:=by simp only at h2;omega
   refine zh (λs h'=>OI h h' s.1 ((A.take (i+1)).filter λx=>decide (x∈B))) (λs h' hs=>hk2 _ _ hi' hs) ?_;refine(ha.le ho.dle).get i rfl hi' ?_;refine Qz (hb.le ho.dle) (by omega) λh3 hl3=>?_
   have ho3:=Own.le ho hl3;have e:(A.take (i+1)).filter (λx=>decide (x∈B))=(A.take i).filter (λx=>decide (x∈B))++(if A[i]∈B then [A[i]]else []):=by
    rw[<-Jk hi',List.filter_append];congr 1;by_cases hn:A[i]∈B<;>simp[List.filter,hn]
   refine ze (λh4=>?_) (λh4=>?_)
   . refine OI.app (xs:=(A.take i).filter λx=>decide (x∈B)) ho3 (by have:=List.length_filter_le (λx=>decide (x∈B)) (A.take i);simp at this;omega) λy h' hy=>?_
     show OI _ _ _ _;rw[e,if_pos h4];exact hy
   . show OI _ _ _ _;rw[e,if_neg h4,Gt];exact ho3
 . have:i=A.length:=by simp only at h2;omega
   subst this;rw[Jw]at ho;have hsl:=ho.il.len;refine Z2 (λh3=>hk _ _ ho.dle ⟨λhh=>(by cases hh),λ_=>?_⟩) (λh3=>?_)
   . unfold zfd;split
     . rename_i x hx;rw[hx]at hsl;exact absurd (by simp only;rw[hsl];rfl) h3
     . rfl
   . obtain⟨x,hx⟩:=zrj (l:=A.filter λx=>decide (x∈B)) (by simp only at h3;omega);refine ho.il.get 0 rfl (by rw[hx];simp) ?_;refine hk _ _ ho.dle ⟨λ_=>?_,λhh=>(by cases hh)⟩;unfold zfd;simp only[hx,Ua]
theorem zha(ha:IL h a A)(hlA:A.length<=200000)(hasc:A.Pairwise (·<·))(hnn:∀x∈A,0<=x)(H:∀h',h.le h'->Kb true h'):zc (F.z1c a) Kb h:=by
 refine zd (λr h'=>r=true) (λK' hk=>?_) λr h' hl hr=>by subst hr;exact H h' hl
 unfold F.z1c;have hal:=ha.len;refine yg (n:=A.length) (by omega) (λi h'=>h.le h') (Hp.le_refl _) ?_;intro i h1 hi hl1 k hk2;refine ze (λh2=>?_) (λh2=>hk _ _ hl1 rfl);have hi':i<A.length:=by simp only at h2;omega
 refine zh (λ_ h'=>h.le h') (λs h' hs=>hk2 _ hi' hs) ?_;refine(ha.le hl1).get i rfl hi' ?_;refine ze (λh3=>?_) (λ_=>ze (λh4=>?_) (λ_=>hl1))
 . have:=hnn _ (Jh hi');have h3:A[i]<0:=h3;omega
 . have hi0:0<i:=by simp only at h4;omega
   simp only;rw[show i64.wrap ((i:Int)-1)=((i-1:Nat):Int) from by rw[w64 (by omega)];omega];refine(ha.le hl1).get (i-1) rfl (by omega) ?_;refine ze (λh5=>?_) (λ_=>hl1);have:=Pt.1 hasc (i-1) i (by omega) hi' (by omega);have h5:A[i-1]>=A[i]:=h5;omega
theorem zud{K:Int×Int×Int×Bool->Hp->Prop}(ha:IL h a A)(hb:IL h b B)(hc:IL h c C)(hlA:A.length<=200000)(hlB:B.length<=200000)(hlC:C.length<=200000)
 (sA:A.Pairwise (·<·)) (sB:B.Pairwise (·<·)) (sC:C.Pairwise (·<·)) (nA:∀x∈A,0<=x) (nB:∀x∈B,0<=x) (nC:∀x∈C,0<=x)
 (H:∀r h',h.le h'->(r.2.2.2=true->mrg A B C=some (r.1,r.2.1,r.2.2.1))->(r.2.2.2=false->mrg A B C=none)->K r h'):zc (F.z56 a b c) K h:=by
 refine zd (λr h'=>(r.2.2.2=true->mrg A B C=some (r.1,r.2.1,r.2.2.1))/\(r.2.2.2=false->mrg A B C=none)) (λK' hk=>?_) λr h' hl hr=>H r h' hl hr.1 hr.2
 unfold F.z56;refine zbt ha hb hlA hlB λr1 h1 hl1 p1 q1=>?_
 refine zbt (hb.le hl1) (hc.le hl1) hlB hlC λr2 h2 hl2 p2 q2=>?_
 have hle2:=Hp.le_trans hl1 hl2;refine zbt (ha.le hle2) (hc.le hle2) hlA hlC λr3 h3 hl3 p3 q3=>?_
 have hle3:=Hp.le_trans hle2 hl3;have no:∀h',h.le h'->mrg A B C=none->K' (0,0,0,false) h':=λh' hl hn=>hk _ _ hl ⟨λhh=>(by cases hh),λ_=>hn⟩
 refine zh (λ_ h'=>h.le h'/\mrg A B C=some (r1.1,r2.1,r3.1)) (λ_ h' hs=>hk _ _ hs.1 ⟨λ_=>hs.2,λhh=>(by cases hh)⟩) ?_;refine zi (λg1=>no _ hle3 ?_) (λg1=>?_)
 . unfold mrg;rw[q1 (by simpa using g1)]
 have g1:=p1 (by simpa using g1);refine zi (λg2=>no _ hle3 ?_) (λg2=>?_)
 . unfold mrg;rw[g1,q2 (by simpa using g2)]
 have g2:=p2 (by simpa using g2);refine zi (λg3=>no _ hle3 ?_) (λg3=>?_)
 . unfold mrg;rw[g1,g2,q3 (by simpa using g3)]
 have g3:=p3 (by simpa using g3);have em:mrg A B C=if r1.1=r2.1\/r2.1=r3.1\/r1.1=r3.1 then none else some (r1.1,r2.1,r3.1):=by unfold mrg;rw[g1,g2,g3]
 refine zu (λg4=>no _ hle3 ?_) (λg4=>zu (λg5=>no _ hle3 ?_) (λg5=>zu (λg6=>no _ hle3 ?_) (λg6=>?_)))
 . rw[em,if_pos (.inl g4)]
 . rw[em,if_pos (.inr (.inl g5))]
 . rw[em,if_pos (.inr (.inr g6))]
 refine zha (ha.le hle3) hlA sA nA λh5 hl5=>zr rfl ?_
 have hle5:=Hp.le_trans hle3 hl5;refine zha (hb.le hle5) hlB sB nB λh6 hl6=>zr rfl ?_
 have hle6:=Hp.le_trans hle5 hl6;refine zha (hc.le hle6) hlC sC nC λh7 hl7=>zr rfl ⟨Hp.le_trans hle6 hl7,?_⟩
 rw[em,if_neg];rintro(hh | hh | hh)
 . exact g4 hh
 . exact g5 hh
 . exact g6 hh
def nnB(t:PTr):Prop:=(∀e∈t.bars,0<=e.1/\0<=e.2)/\t.bars.length<=4000
theorem zwt{t:PTr}(h:nnB t):(∀x∈z30 t.bars,0<=x)/\(z30 t.bars).length<=200000:=by
 refine⟨λx hx=>?_,?_⟩
 . obtain⟨e,he,hv⟩:=zdo.1 hx;have:=h.1 e he;rcases hv with rfl | rfl
   . exact this.1
   . exact this.2
 . unfold z30;refine Jt zi0 ?_;rw[List.length_mergeSort,zde];have:=h.2;omega
def z9o(p q r:PTr):Option (Int×Int×Int):=mrg (z30 p.bars) (z30 q.bars) (z30 r.bars)
theorem zkv{X Y Z:TTree}{p q r:PTr}{K:TTree×Bool->Hp->Prop}(hX:TR h X p)(hY:TR h Y q)(hZ:TR h Z r)(np:nnB p)(nq:nnB q)(nr:nnB r)
 (H:∀W h',h.le h'->(W.2=true->∃x y z,z9o p q r=some (x,y,z)/\TR h' W.1 (.node z x y p q r)/\W.1.a=z/\W.1.b=x/\W.1.c=y)->(W.2=false->z9o p q r=none)->K W h'):zc (F.z1a X Y Z) K h:=by
 refine zd (λW h'=>(W.2=true->∃x y z,z9o p q r=some (x,y,z)/\TR h' W.1 (.node z x y p q r)/\W.1.a=z/\W.1.b=x/\W.1.c=y)/\(W.2=false->z9o p q r=none)) (λK' hk=>?_) λr h' hl hr=>H r h' hl hr.1 hr.2
 unfold F.z1a;refine z60 hX (by have:=np.2;omega) λa h1 hl1 ha=>?_
 refine z60 (hY.le hl1) (by have:=nq.2;omega) λb h2 hl2 hb=>?_
 have hle2:=Hp.le_trans hl1 hl2;refine z60 (hZ.le hle2) (by have:=nr.2;omega) λc h3 hl3 hc=>?_
 have hle3:=Hp.le_trans hle2 hl3;have n1:=zwt np;have n2:=zwt nq;have n3:=zwt nr;refine zud (ha.le (Hp.le_trans hl2 hl3)) (hb.le hl3) hc n1.2 n2.2 n3.2 zj7 zj7 zj7 n1.1 n2.1 n3.1 λR h4 hl4 g1 g2=>?_
 have hle4:=Hp.le_trans hle3 hl4;refine zce 4 3 rfl λa5 h5 hl5 hr5=>hk _ _ (Hp.le_trans hle4 hl5) ⟨λhh=>?_,g2⟩
 have hle5:=Hp.le_trans hle4 hl5;exact⟨_,_,_,g1 hh,.node _ _ _ _ X Y Z p q r hr5 rfl (Ja _) (hX.le hle5) (hY.le hle5) (hZ.le hle5),rfl,rfl,rfl⟩
end
def rm3(i j k:Nat):Nat->List PTr->List PTr
 | _,[]=>[]
 | n,t :: ts=>if n=i\/n=j\/n=k then rm3 i j k (n+1) ts else t :: rm3 i j k (n+1) ts
theorem zt6{i j k:Nat}{t:PTr}:∀{n:Nat} {ts:List PTr},rm3 i j k n (ts++[t])=rm3 i j k n ts++(if n+ts.length=i\/n+ts.length=j\/n+ts.length=k then []else [t])
 | n,[]=>by
   show(if n=i\/n=j\/n=k then rm3 i j k (n+1) []else t :: rm3 i j k (n+1) [])=[]++_;rw[Tf];rfl
 | n,x :: ts=>by
   have ih:=zt6 (i:=i) (j:=j) (k:=k) (t:=t) (n:=n+1) (ts:=ts);show(if n=i\/n=j\/n=k then rm3 i j k (n+1) (ts++[t])else x :: rm3 i j k (n+1) (ts++[t]))=_;rw[ih];have e:n+(x :: ts).length=n+1+ts.length:=by rw[J3];omega
   rw[e];show _=(if n=i\/n=j\/n=k then rm3 i j k (n+1) ts else x :: rm3 i j k (n+1) ts)++_;split<;>rfl
theorem zlo{i j k m:Nat}{ts:List PTr}(hm:m<ts.length):rm3 i j k 0 (ts.take (m+1))=rm3 i j k 0 (ts.take m)++(if m=i\/m=j\/m=k then []else [ts[m]]):=by
 rw[<-Jk hm,zt6,Jl,Gi,Gk (by omega)]
theorem zzo{i j k:Nat}{ts:List PTr}(g:PTr->Nat)(hij:i<j)(hjk:j<k)(hk:k<ts.length):∀m,m<=ts.length->((ts.take m).map g).sum=((rm3 i j k 0 (ts.take m)).map g).sum+((if i<m then g (ts[i]'(by omega))else 0)+(if j<m then g (ts[j]'(by omega))else 0)+(if k<m then g ts[k]else 0))
 | 0,_=>by simp[rm3]
 | m+1,hm=>by
   have hm':m<ts.length:=hm;have ih:=zzo g hij hjk hk m (by omega);rw[zlo hm',<-Jk hm',Uf,List.sum_append,ih];simp only[U3,Pg,List.sum_cons,List.sum_nil,Uy,Uf,List.sum_append];by_cases h1:m=i
   . subst h1;have q1:¬j<m:=by omega
     have q2:¬j<m+1:=by omega
     have q3:¬k<m:=by omega
     have q4:¬k<m+1:=by omega
     simp only[true_or,if_true,Pz,if_false,q1,q2,q3,q4,Nat.lt_succ_self,Pg,List.sum_nil,Uy]
   . by_cases h2:m=j
     . subst h2;have q1:i<m:=by omega
       have q2:i<m+1:=by omega
       have q3:¬k<m:=by omega
       have q4:¬k<m+1:=by omega
       simp only[true_or,or_true,if_true,Pz,if_false,q1,q2,q3,q4,Nat.lt_succ_self,Pg,List.sum_nil,Uy];omega
     . by_cases h3:m=k
       . subst h3;have q1:i<m:=by omega
         have q2:i<m+1:=by omega
         have q3:j<m:=by omega
         have q4:j<m+1:=by omega
         simp only[or_true,if_true,Pz,if_false,q1,q2,q3,q4,Nat.lt_succ_self,Pg,List.sum_nil,Uy];omega
       . rw[if_neg (by omega:¬(m=i\/m=j\/m=k))];have e1:(if i<m+1 then g (ts[i]'(by omega))else 0)=(if i<m then g (ts[i]'(by omega))else 0):=by
          by_cases hh:i<m
          . rw[if_pos hh,if_pos (by omega)]
          . rw[if_neg hh,if_neg (by omega)]
         have e2:(if j<m+1 then g (ts[j]'(by omega))else 0)=(if j<m then g (ts[j]'(by omega))else 0):=by
          by_cases hh:j<m
          . rw[if_pos hh,if_pos (by omega)]
          . rw[if_neg hh,if_neg (by omega)]
         have e3:(if k<m+1 then g ts[k]else 0)=(if k<m then g ts[k]else 0):=by
          by_cases hh:k<m
          . rw[if_pos hh,if_pos (by omega)]
          . rw[if_neg hh,if_neg (by omega)]
         rw[e1,e2,e3];simp;omega
theorem zq3{i j k:Nat}{t:PTr}:∀{n:Nat} {ts:List PTr},t∈rm3 i j k n ts->t∈ts
 | _,[],h=>by simp[rm3]at h
 | n,x :: ts,h=>by
   unfold rm3 at h;split at h
   . exact Us _ (zq3 h)
   . rcases Ju.1 h with rfl | h
     . exact Ut ..
     . exact Us _ (zq3 h)
def z8p(ts:List PTr)(i j k:Nat)(x y z:Int):List PTr:=.node z x y (ts.getD i (.leaf 0 0)) (ts.getD j (.leaf 0 0)) (ts.getD k (.leaf 0 0)) :: rm3 i j k 0 ts
theorem zek{e:Int×Int}:∀{ts:List PTr},(ts.flatMap PTr.bars).count e=(ts.map λt=>t.bars.count e).sum
 | []=>rfl
 | t :: ts=>by rw[Ur,List.count_append,U3,List.sum_cons,zek]
theorem z2y{ts:List PTr}{i:Nat}{d:PTr}(h:i<ts.length):ts.getD i d=ts[i]:=by rw[Jf,Jc h];rfl
theorem zad{ts:List PTr}{i j k:Nat}{x y z:Int}(hij:i<j)(hjk:j<k)(hk:k<ts.length):((z8p ts i j k x y z).flatMap PTr.bars).Perm (ts.flatMap PTr.bars)/\(z8p ts i j k x y z).length+2=ts.length:=by
 have hall:=λg=>zzo (i:=i) (j:=j) (k:=k) (ts:=ts) g hij hjk hk ts.length (Ja _)
 simp only[Jw,if_pos (show i<ts.length by omega),if_pos (show j<ts.length by omega),if_pos hk]at hall;refine⟨List.perm_iff_count.2 λe=>?_,?_⟩
 . rw[zek,zek,hall λt=>t.bars.count e];unfold z8p;rw[U3,List.sum_cons];have:(PTr.bars (.node z x y (ts.getD i (.leaf 0 0)) (ts.getD j (.leaf 0 0)) (ts.getD k (.leaf 0 0)))).count e=ts[i].bars.count e+ts[j].bars.count e+ts[k].bars.count e:=by
    show(PTr.bars (ts.getD i (.leaf 0 0))++PTr.bars (ts.getD j (.leaf 0 0))++PTr.bars (ts.getD k (.leaf 0 0))).count e=_;rw[List.count_append,List.count_append,z2y (show i<ts.length by omega),z2y (show j<ts.length by omega),z2y hk]
   rw[this];omega
 . have h1:=hall λ_=>1
   have hs:∀l:List PTr,(l.map λ_=>1).sum=l.length:=λl=>by
    induction l with
    | nil=>rfl
    | cons a l ih=>rw[U3,List.sum_cons,ih,J3];omega
   rw[hs,hs]at h1;unfold z8p;rw[J3];omega
structure First(ts:List PTr)(i j k:Nat)(x y z:Int):Prop where
 ij:i<j
 jk:j<k
 lt:k<ts.length
 can:z9o (ts.getD i (.leaf 0 0)) (ts.getD j (.leaf 0 0)) (ts.getD k (.leaf 0 0))=some (x,y,z)
 first:∀i' j' k',i'<j'->j'<k'->k'<ts.length->(i'<i\/i'=i/\(j'<j\/j'=j/\k'<k))->z9o (ts.getD i' (.leaf 0 0)) (ts.getD j' (.leaf 0 0)) (ts.getD k' (.leaf 0 0))=none
section
variable {h : Hp} {l : Sl} {ts : List PTr}
theorem zdk{body:(Int×Unit)->((Int×Unit)->Hp->Prop)->Hp->Prop}{h0:Hp}{n m:Nat}{z:Int}(hz:z=m)(hn:n<=140737488355328)(I:Nat->Hp->Prop)(h:I m h0)
 (step:∀i h,m<=i->I i h->∀k,(∀h',i<n->I (i+1) h'->k (i64.wrap ((i:Int)+1),()) h')->body ((i:Int),()) k h):zn body (z,()) h0:=by
 refine Zp (λst h'=>∃i:Nat,st.1=(i:Int)/\m<=i/\I i h') (λst=>(n-st.1).toNat) ⟨m,hz,Ja _,h⟩ ?_;rintro⟨_,_⟩ h' ⟨i,rfl,hi,hI⟩;refine step i h' hi hI _ λh2 hlt hI2=>⟨⟨i+1,?_,by omega,hI2⟩,?_⟩
 . simp only;rw[w64 (by omega)];rfl
 . simp only;rw[w64 (by omega)];omega
theorem zyb{K:Sl×Bool->Hp->Prop}(hl:LR tc 4 TR h l ts)(hn:∀t∈ts,nnB t)(hlen:ts.length<=4000)
 (H1:∀r h' i j k x y z,h.le h'->First ts i j k x y z->LR tc 4 TR h' r (z8p ts i j k x y z)->K (r,true) h')
 (H0:∀h',h.le h'->(∀i j k,i<j->j<k->k<ts.length->z9o (ts.getD i (.leaf 0 0)) (ts.getD j (.leaf 0 0)) (ts.getD k (.leaf 0 0))=none)->K (l,false) h'):zc (F.z5m l) K h:=by
 refine zd (λr h'=>(r.2=true/\∃i j k x y z,First ts i j k x y z/\LR tc 4 TR h' r.1 (z8p ts i j k x y z))\/(r=(l,false)/\∀i j k,i<j->j<k->k<ts.length->z9o (ts.getD i (.leaf 0 0)) (ts.getD j (.leaf 0 0)) (ts.getD k (.leaf 0 0))=none)) (λK' hk=>?_) λr h' hl hr=>?_
 . unfold F.z5m;have hll:=hl.len X1;have nn:∀i (hi:i<ts.length),nnB ts[i]:=λi hi=>hn _ (Jh hi)
   refine yg (n:=ts.length) (by omega) (λi h'=>h.le h'/\∀i' j' k',i'<i->i'<j'->j'<k'->k'<ts.length->z9o (ts.getD i' (.leaf 0 0)) (ts.getD j' (.leaf 0 0)) (ts.getD k' (.leaf 0 0))=none) ⟨Hp.le_refl _,λi' j' k' hh=>by omega⟩ ?_;rintro i h1 hi ⟨hl1,f1⟩ c1 hc1;refine ze (λh2=>?_) (λh2=>?_)
   . have hi':i<ts.length:=by simp only at h2;omega
     refine zdk (n:=ts.length) (m:=i+1) (by simp only;rw[w64 (by omega)];rfl) (by omega) (λj h'=>h.le h'/\∀j' k',j'<j->i<j'->j'<k'->k'<ts.length->z9o (ts.getD i (.leaf 0 0)) (ts.getD j' (.leaf 0 0)) (ts.getD k' (.leaf 0 0))=none) ⟨hl1,λj' k' hh=>by omega⟩ ?_;rintro j h3 hj ⟨hl3,f3⟩ c3 hc3;refine ze (λh4=>?_) (λh4=>?_)
     . have hj':j<ts.length:=by simp only at h4;omega
       refine zdk (n:=ts.length) (m:=j+1) (by simp only;rw[w64 (by omega)];rfl) (by omega) (λk h'=>h.le h'/\∀k',k'<k->j<k'->k'<ts.length->z9o (ts.getD i (.leaf 0 0)) (ts.getD j (.leaf 0 0)) (ts.getD k' (.leaf 0 0))=none) ⟨hl3,λk' hh=>by omega⟩ ?_;rintro k h5 hkj ⟨hl5,f5⟩ c5 hc5;refine ze (λh6=>?_) (λh6=>?_)
       . have hk':k<ts.length:=by simp only at h6;omega
         have hl5':=hl.le X1 hl5;refine hl5'.get X1 i rfl hi' λa7 X hX c7=>⟨_,c7 0 _ rfl,_,c7 1 _ rfl,_,c7 2 _ rfl,X.parts,c7 3 _ rfl,?_⟩
         refine hl5'.get X1 j rfl hj' λa9 Y hY c9=>⟨_,c9 0 _ rfl,_,c9 1 _ rfl,_,c9 2 _ rfl,Y.parts,c9 3 _ rfl,?_⟩
         refine hl5'.get X1 k rfl hk' λa11 Z hZ c11=>⟨_,c11 0 _ rfl,_,c11 1 _ rfl,_,c11 2 _ rfl,Z.parts,c11 3 _ rfl,?_⟩
         refine zkv (X:=X) (Y:=Y) (Z:=Z) hX hY hZ (nn i hi') (nn j hj') (nn k hk') λW h7 hl7 m1 m0=>?_
         have hle7:=Hp.le_trans hl5 hl7;refine zi (λh8=>?_) (λh8=>?_)
         . have:=m0 (by simpa using h8);refine hc5 _ hk' ⟨hle7,λk' hk1 hk2 hk3=>?_⟩;rcases Jo k' k with h9 | h9
           . exact f5 k' h9 hk2 hk3
           . have:k'=k:=by omega
             subst this;rw[z2y hi',z2y hj',z2y hk'];assumption
         . obtain⟨x,y,z,e1,e2,_⟩:=m1 (by simpa using h8);have hF:First ts i j k x y z:=by
            refine⟨by omega,by omega,hk',by rw[z2y hi',z2y hj',z2y hk'];exact e1,λi' j' k' q1 q2 q3 q4=>?_⟩;rcases q4 with q4 | ⟨rfl,q4 | ⟨rfl,q4⟩⟩
            . exact f1 i' j' k' q4 q1 q2 q3
            . exact f3 j' k' q4 q1 q2 q3
            . exact f5 k' q4 q2 q3
           refine z3s (n:=1) (size:=4) rfl λb8 h8' hb8 ho8=>?_
           have hnode:TR h7 W.1 (.node z x y (ts.getD i (.leaf 0 0)) (ts.getD j (.leaf 0 0)) (ts.getD k (.leaf 0 0))):=by
            rw[z2y hi',z2y hj',z2y hk'];exact e2
           have start:LO tc 4 TR h7 h8' ⟨some ⟨b8,0,none⟩,1,1⟩ [.node z x y (ts.getD i (.leaf 0 0)) (ts.getD j (.leaf 0 0)) (ts.getD k (.leaf 0 0))]:=by
            refine⟨[W.1],?_,rfl,λq q1 q2=>?_⟩
            . exact ho8
            . have:q=0:=by simp at q1;omega
              subst this;exact hnode
           refine Yq (n:=ts.length) (by omega) (λm s h'=>LO tc 4 TR h7 h' s (.node z x y (ts.getD i (.leaf 0 0)) (ts.getD j (.leaf 0 0)) (ts.getD k (.leaf 0 0)) :: rm3 i j k 0 (ts.take m))) (by simpa [rm3] using start) ?_;intro m s h9 hm hs c9' hc9;refine ze (λh10=>?_) (λh10=>?_)
           . have hm':m<ts.length:=by simp only at h10;omega
             obtain⟨J,hJ⟩:∃J:Sl×Unit->Hp->Prop,∀s h',J s h'↔LO tc 4 TR h7 h' s.1 (.node z x y (ts.getD i (.leaf 0 0)) (ts.getD j (.leaf 0 0)) (ts.getD k (.leaf 0 0)) :: rm3 i j k 0 (ts.take (m+1))):=⟨_,λ_ _=>Pc⟩;refine zh J (λs h' hs=>hc9 _ _ hm' ((hJ s h').1 hs)) ?_;refine(hl.le X1 hle7).get2 X1 hs.dle m rfl hm' λa19 V hV c19=>⟨_,c19 0 _ rfl,_,c19 1 _ rfl,_,c19 2 _ rfl,V.parts,c19 3 _ rfl,?_⟩
             have same:(m=i\/m=j\/m=k)->J (s,()) h9:=λhh=>(hJ _ _).2 (by rw[zlo hm',if_pos hh,Gt];exact hs)
             refine Z2 (λg1=>Z2 (λg2=>Z2 (λg3=>?_) (λg3=>same (.inr (.inr (by simp only at g3;omega))))) (λg2=>same (.inr (.inl (by simp only at g2;omega))))) (λg1=>same (.inl (by simp only at g1;omega)));have hlr:=hs.len X1;have hrl:(rm3 i j k 0 (ts.take m)).length<=ts.length:=by
              have:∀(n:Nat) (us:List PTr),(rm3 i j k n us).length<=us.length:=λn us=>by
               induction us generalizing n with
               | nil=>exact Ja _
               | cons u us ih=>
                 unfold rm3;split
                 . have:=ih (n+1);rw[J3];omega
                 . have:=ih (n+1);rw[J3,J3];omega
              have:=this 0 (ts.take m);rw[Jl]at this;omega
             refine hs.app X1 (bytes:=48) (zero:=[.int .i64 0,.int .i64 0,.int .i64 0,.slice zf.a zf.len zf.cap]) (x:=V) (b:=ts[m]) rfl (by rw[J3];omega) (by rw[J3];omega) hV λw h11 hw=>(hJ _ _).2 ?_
             rw[zlo hm',if_neg (by simp only at g1 g2 g3;omega)];exact hw
           . have hm':m=ts.length:=by simp only at h10;omega
             subst hm';rw[Jw]at hs;exact hk _ _ (Hp.le_trans hle7 hs.dle) (.inl ⟨rfl,i,j,k,x,y,z,hF,hs.lr X1⟩)
       . have:k>=ts.length:=by simp only at h6;omega
         refine hc3 _ hj' ⟨hl5,λj' k' q1 q2 q3 q4=>?_⟩;rcases Jo j' j with h9 | h9
         . exact f3 j' k' h9 q2 q3 q4
         . have:j'=j:=by omega
           subst this;exact f5 k' (by omega) q3 q4
     . have:j>=ts.length:=by simp only at h4;omega
       refine hc1 _ hi' ⟨hl3,λi' j' k' q1 q2 q3 q4=>?_⟩;rcases Jo i' i with h9 | h9
       . exact f1 i' j' k' h9 q2 q3 q4
       . have:i'=i:=by omega
         subst this;exact f3 j' k' (by omega) q2 q3 q4
   . have:i=ts.length:=by simp only at h2;omega
     subst this;exact hk _ _ hl1 (.inr ⟨rfl,λi' j' k' q1 q2 q3=>f1 i' j' k' (by omega) q1 q2 q3⟩)
 . rcases hr with ⟨h1,i,j,k,x,y,z,h2,h3⟩ | ⟨rfl,h2⟩
   . obtain⟨r,b⟩:=r;simp only at h1;subst h1;exact H1 r h' i j k x y z hl h2 h3
   . exact H0 h' hl h2
end
end Den
end

section
namespace Tq
def sm(n:Nat)(f:Nat->Rat):Rat:=match n with | 0=>0 | n+1=>sm n f+f n
theorem sm_zero{f:Nat->Rat}:sm 0 f=0:=rfl
theorem sm_succ{n:Nat}{f:Nat->Rat}:sm (n+1) f=sm n f+f n:=rfl
theorem sm_congr{n:Nat}{f g:Nat->Rat}(h:∀i,i<n->f i=g i):sm n f=sm n g:=by
 induction n with
 | zero=>rfl
 | succ n ih=>rw[sm_succ,sm_succ,ih (λi hi=>h i (by omega)),h n (by omega)]
theorem sm_add{n:Nat}{f g:Nat->Rat}:sm n (λi=>f i+g i)=sm n f+sm n g:=by
 induction n with
 | zero=>simp only[sm_zero];grind
 | succ n ih=>simp only[sm_succ,ih];grind
theorem sm_mul{n:Nat}{f:Nat->Rat}{c:Rat}:sm n (λi=>c*f i)=c*sm n f:=by
 induction n with
 | zero=>simp only[sm_zero];grind
 | succ n ih=>simp only[sm_succ,ih];grind
theorem sm_zeros{n:Nat}{f:Nat->Rat}(h:∀i,i<n->f i=0):sm n f=0:=by
 induction n with
 | zero=>rfl
 | succ n ih=>rw[sm_succ,ih (λi hi=>h i (by omega)),h n (by omega)];grind
theorem sm_one{n k:Nat}{f:Nat->Rat}(hk:k<n)(h:∀i,i<n->i≠k->f i=0):sm n f=f k:=by
 induction n with
 | zero=>omega
 | succ n ih=>
   rw[sm_succ];by_cases h1:k=n
   . subst h1;rw[sm_zeros λi hi=>h i (by omega) (by omega)];grind
   . rw[ih (by omega) (λi hi h2=>h i (by omega) h2),h n (by omega) (by omega)];grind
theorem sm_two{n k l:Nat}{f:Nat->Rat}(hkl:k<l)(hl:l<n)(h:∀i,i<n->i≠k->i≠l->f i=0):sm n f=f k+f l:=by
 induction n with
 | zero=>omega
 | succ n ih=>
   rw[sm_succ];by_cases h1:l=n
   . subst h1;rw[sm_one (k:=k) hkl λi hi h2=>h i (by omega) h2 (by omega)]
   . rw[ih (by omega) (λi hi h2 h3=>h i (by omega) h2 h3),h n (by omega) (by omega) (by omega)];grind
def Ker(M:Nat->Nat->Rat)(r n:Nat)(x:Nat->Rat):Prop:=∀i,i<r->sm n (λj=>M i j*x j)=0
def Indep(A:Nat->Nat->Rat)(r n:Nat):Prop:=∀x,Ker A r n x->∀j,j<n->x j=0
structure EI(A:Nat->Nat->Rat)(r n k:Nat)(M:Nat->Nat->Rat):Prop where
 ker:∀x,Ker M r n x->Ker A r n x
 unit:∀i,i<r->∀j,j<k->M i j=if i=j then 1 else 0
theorem EI.start{A:Nat->Nat->Rat}{r n:Nat}:EI A r n 0 A:=⟨λx h=>h,λi hi j hj=>by omega⟩
theorem EI.pivot{A M:Nat->Nat->Rat}{r n k:Nat}(h:EI A r n k M)(hA:Indep A r n)(hk:k<n):∃i,k<=i/\i<r/\M i k≠0:=by
 apply Jy;intro hc;have hz:∀i,k<=i->i<r->M i k=0:=λi h1 h2=>Jy λh3=>hc ⟨i,h1,h2,h3⟩
 have hx:Ker M r n (λj=>if j<k then-M j k else if j=k then 1 else 0):=λi hi=>by
  by_cases hik:i<k
  . rw[sm_two (k:=i) (l:=k) hik hk λj hj h1 h2=>by
     by_cases h3:j<k
     . rw[h.unit i hi j h3,if_neg (λhh=>h1 hh.symm)];grind
     . simp only[if_neg h3,if_neg h2];grind]
    rw[h.unit i hi i hik,if_pos rfl];simp only[if_pos hik,if_neg (Pz k),if_true]
    grind
  . rw[sm_one (k:=k) hk λj hj h1=>by
     by_cases h3:j<k
     . rw[h.unit i hi j h3,if_neg (by omega)];grind
     . simp only[if_neg h3,if_neg h1];grind]
    rw[hz i (by omega) hi];grind
 have:=hA _ (h.ker _ hx) k hk;simp only[if_neg (Pz k),if_true]at this;exact absurd this (by decide)
def swapM(M:Nat->Nat->Rat)(a b:Nat):Nat->Nat->Rat:=λi j=>if i=a then M b j else if i=b then M a j else M i j
def scaleM(M:Nat->Nat->Rat)(a:Nat)(p:Rat):Nat->Nat->Rat:=λi j=>if i=a then M a j/p else M i j
def elimM(M:Nat->Nat->Rat)(a k:Nat):Nat->Nat->Rat:=λi j=>if i=a then M a j else M i j-M i k*M a j
theorem EI.swap{A M:Nat->Nat->Rat}{r n k i:Nat}(h:EI A r n k M)(h1:k<=i)(h2:i<r):EI A r n k (swapM M k i):=by
 refine⟨λx hx=>h.ker x λj hj=>?_,λj hj l hl=>?_⟩
 . by_cases e1:j=k
   . have:=hx i h2;by_cases e2:i=k
     . subst e1;subst e2;simpa [swapM] using this
     . simp only[swapM,if_neg e2,if_true]at this;subst e1;exact this
   . by_cases e2:j=i
     . have:=hx k (by omega);simp only[swapM,if_true]at this;subst e2;exact this
     . have:=hx j hj;simpa only[swapM,if_neg e1,if_neg e2] using this
 . unfold swapM;by_cases e1:j=k
   . subst e1;rw[if_pos rfl,h.unit i h2 l hl,if_neg (by omega),if_neg (by omega)]
   . rw[if_neg e1];by_cases e2:j=i
     . subst e2;rw[if_pos rfl,h.unit k (by omega) l hl,if_neg (by omega),if_neg (by omega)]
     . rw[if_neg e2];exact h.unit j hj l hl
theorem EI.scale{A M:Nat->Nat->Rat}{r n k:Nat}(h:EI A r n k M)(hk:k<r){p:Rat}(hp:p≠0):EI A r n k (scaleM M k p):=by
 refine⟨λx hx=>h.ker x λj hj=>?_,λj hj l hl=>?_⟩
 . by_cases e1:j=k
   . subst e1;have:=hx j hj;simp only[scaleM,if_true]at this;have e:sm n (λl=>M j l*x l)=p*sm n (λl=>M j l/p*x l):=by
      rw[<-sm_mul];exact sm_congr λl _=>by grind
     rw[e,this];grind
   . have:=hx j hj;simpa only[scaleM,if_neg e1] using this
 . unfold scaleM;by_cases e1:j=k
   . subst e1;rw[if_pos rfl,h.unit j hj l hl,if_neg (by omega)];grind
   . rw[if_neg e1];exact h.unit j hj l hl
theorem EI.elim{A M:Nat->Nat->Rat}{r n k:Nat}(h:EI A r n k M)(hk:k<r)(hp:M k k=1):EI A r n (k+1) (elimM M k k):=by
 refine⟨λx hx=>h.ker x λj hj=>?_,λj hj l hl=>?_⟩
 . by_cases e1:j=k
   . have:=hx j hj;subst e1;simpa only[elimM,if_true] using this
   . have h1:=hx j hj;have h2:=hx k hk;simp only[elimM,if_neg e1,if_true]at h1 h2;have e:sm n (λl=>M j l*x l)=sm n (λl=>(M j l-M j k*M k l)*x l)+M j k*sm n (λl=>M k l*x l):=by
      rw[<-sm_mul,<-sm_add];exact sm_congr λl _=>by grind
     rw[e,h1,h2];grind
 . unfold elimM;by_cases e1:j=k
   . subst e1;rw[if_pos rfl];by_cases e2:l=j
     . subst e2;rw[if_pos rfl];exact hp
     . rw[h.unit j hj l (by omega)]
   . rw[if_neg e1];by_cases e2:l=k
     . subst e2;rw[hp,if_neg e1];grind
     . rw[h.unit j hj l (by omega),h.unit k hk l (by omega),if_neg (show ¬k=l by omega)];grind
theorem EI.step{A M:Nat->Nat->Rat}{r n k i:Nat}(h:EI A r n k M)(h1:k<=i)(h2:i<r)(h3:M i k≠0):EI A r n (k+1) (elimM (scaleM (swapM M k i) k (M i k)) k k):=by
 refine((h.swap h1 h2).scale (by omega) h3).elim (by omega) ?_;simp only[scaleM,swapM,if_true]
 grind
def ls(l:List Rat):Rat:=l.foldr (·+·) 0
theorem ls_nil:ls []=0:=rfl
theorem ls_cons{a:Rat}{l:List Rat}:ls (a :: l)=a+ls l:=rfl
theorem ls_append{l m:List Rat}:ls (l++m)=ls l+ls m:=by
 induction l with
 | nil=>rw[Tf,ls_nil];grind
 | cons a l ih=>rw[G9,ls_cons,ls_cons,ih];grind
theorem ls_perm{l m:List Rat}(h:l.Perm m):ls l=ls m:=by
 induction h with
 | nil=>rfl
 | cons a _ ih=>rw[ls_cons,ls_cons,ih]
 | swap a b l=>rw[ls_cons,ls_cons,ls_cons,ls_cons];grind
 | trans _ _ h1 h2=>rw[h1,h2]
theorem ls_zeros{α:Type}{l:List α}{f:α->Rat}(h:∀a∈l,f a=0):ls (l.map f)=0:=by
 induction l with
 | nil=>rfl
 | cons a l ih=>rw[U3,ls_cons,h a (Ut ..),ih λb hb=>h b (Us _ hb)];grind
theorem ls_sm{l:List Rat}:ls l=sm l.length (λi=>l.getD i 0):=by
 have H:∀l:List Rat,ls l.reverse=sm l.reverse.length (λi=>l.reverse.getD i 0):=by
  intro l;induction l with
  | nil=>rfl
  | cons a l ih=>
    rw[List.reverse_cons,ls_append,Je,Gr,sm_succ,ih,ls_cons,ls_nil];rw[sm_congr (f:=λi=>(l.reverse++[a]).getD i 0) (g:=λi=>l.reverse.getD i 0) λi hi=>by
     rw[Jf,Jf,Uh hi]]
    have:(l.reverse++[a]).getD l.reverse.length 0=a:=by
     rw[Jf,Uz (Ja _)];simp
    rw[this];grind
 have:=H l.reverse
 rwa [List.reverse_reverse]at this
def coef(X:Int->Rat)(e:Int×Int)(v:Int):Rat:=if v=e.1 then X e.1-X e.2 else if v=e.2 then X e.2-X e.1 else 0
def Free(E:List (Int×Int))(X Y:Int->Rat):Prop:=
 ∀ω:Int×Int->Rat,(∀v,ls (E.map λe=>ω e*coef X e v)=0)->(∀v,ls (E.map λe=>ω e*coef Y e v)=0)->∀e∈E,ω e=0
theorem Free.perm{E F:List (Int×Int)}{X Y:Int->Rat}(h:Free E X Y)(hp:E.Perm F):Free F X Y:=λω h1 h2 e he=>
 h ω (λv=>by rw[ls_perm (hp.map _)];exact h1 v) (λv=>by rw[ls_perm (hp.map _)];exact h2 v) e (hp.mem_iff.2 he)
theorem Free.bar{X Y:Int->Rat}{a b:Int}(h:X a≠X b\/Y a≠Y b):Free [(a,b)] X Y:=λω h1 h2 e he=>by
 rw[J6.1 he];have e1:=h1 a;have e2:=h2 a;simp only[U3,Pg,ls_cons,ls_nil,coef,if_true]at e1 e2;rcases h with h | h
 . have h3:X a-X b≠0:=λhh=>h (by grind)
   have h4:ω (a,b)*(X a-X b)=0:=by grind
   rcases Rat.mul_eq_zero.1 h4 with h5 | h5
   . exact h5
   . exact absurd h5 h3
 . have h3:Y a-Y b≠0:=λhh=>h (by grind)
   have h4:ω (a,b)*(Y a-Y b)=0:=by grind
   rcases Rat.mul_eq_zero.1 h4 with h5 | h5
   . exact h5
   . exact absurd h5 h3
theorem Free.add{E:List (Int×Int)}{X Y:Int->Rat}{a b n:Int}(h:Free E X Y)(hE:∀e∈E,e.1≠n/\e.2≠n)(han:a≠n)(hbn:b≠n)
 (hc:(X b-X a)*(Y n-Y a)-(Y b-Y a)*(X n-X a)≠0):Free (E++[(a,n),(b,n)]) X Y:=λω h1 h2=>by
 have z:∀Z:Int->Rat,ls (E.map λe=>ω e*coef Z e n)=0:=λZ=>ls_zeros λe he=>by
  unfold coef;rw[if_neg (λhh=>(hE e he).1 hh.symm),if_neg (λhh=>(hE e he).2 hh.symm)];grind
 have e1:=h1 n;have e2:=h2 n;rw[Uf,ls_append,z]at e1 e2;simp only[U3,Pg,ls_cons,ls_nil,coef,if_neg (λhh:n=a=>han hh.symm),if_neg (λhh:n=b=>hbn hh.symm),if_true]at e1 e2;have k1:ω (a,n)*((X b-X a)*(Y n-Y a)-(Y b-Y a)*(X n-X a))=0:=by grind
 have k2:ω (b,n)*((X b-X a)*(Y n-Y a)-(Y b-Y a)*(X n-X a))=0:=by grind
 have wa:ω (a,n)=0:=(Rat.mul_eq_zero.1 k1).resolve_right hc;have wb:ω (b,n)=0:=(Rat.mul_eq_zero.1 k2).resolve_right hc;have r:∀(Z:Int->Rat) v,ls ((E++[(a,n),(b,n)]).map λe=>ω e*coef Z e v)=0->ls (E.map λe=>ω e*coef Z e v)=0:=λZ v hv=>by
  rw[Uf,ls_append]at hv;simp only[U3,Pg,ls_cons,ls_nil,wa,wb]at hv
  grind
 intro e he;rcases Ub.1 he with he | he
 . exact h ω (λv=>r X v (h1 v)) (λv=>r Y v (h2 v)) e he
 . simp only[Ju,Uk,or_false]at he;rcases he with rfl | rfl
   . exact wa
   . exact wb
def frameM(E:List (Int×Int))(X Y:Int->Rat):Nat->Nat->Rat:=λi j=>
 if i % 2=0 then coef X (E.getD j (0,0)) ((i/2:Nat):Int)else coef Y (E.getD j (0,0)) ((i/2:Nat):Int)
theorem Free.indep{E:List (Int×Int)}{X Y:Int->Rat}{n:Nat}(h:Free E X Y)(hn:E.Nodup)(hE:∀e∈E,0<=e.1/\e.1<n/\0<=e.2/\e.2<n):Indep (frameM E X Y) (2*n) E.length:=λx hx j hj=>by
 have key:∀(Z:Int->Rat) v,(∀c,(∀i,frameM E X Y (2*i+c)=λj=>coef Z (E.getD j (0,0)) (i:Int))->c<2->ls (E.map λe=>x (E.idxOf e)*coef Z e v)=0):=by
  intro Z v c hc hc2;by_cases hv:0<=v/\v<n
  . have h1:=hx (2*v.toNat+c) (by omega);rw[hc v.toNat]at h1;rw[ls_sm,J1];refine Eq.trans (sm_congr λi hi=>?_) h1;show _=coef Z (E.getD i (0,0)) ((v.toNat:Nat):Int)*x i;have e1:E.getD i (0,0)=E[i]:=by rw[Jf,Jc hi];rfl
    have e2:E.idxOf E[i]=i:=List.Nodup.idxOf_getElem hn i hi;have e3:((v.toNat:Nat):Int)=v:=by omega
    rw[Jf,Uw,Jc hi,e1,e3];simp only[U0,Option.getD_some,e2]
    grind
  . refine ls_zeros λe he=>?_
    have:=hE e he;unfold coef;rw[if_neg (by omega),if_neg (by omega)];grind
 have:=h (λe=>x (E.idxOf e)) (λv=>key X v 0 (λi=>by funext j;unfold frameM;rw[if_pos (by omega)];congr 2;omega) (by omega))
  (λv=>key Y v 1 (λi=>by funext j;unfold frameM;rw[if_neg (by omega)];congr 2;omega) (by omega)) E[j] (Jh hj)
 simpa only[List.Nodup.idxOf_getElem hn j hj] using this
end Tq
end

section
namespace Tq
theorem Free.congr{E:List (Int×Int)}{X Y X' Y':Int->Rat}(h:Free E X Y)(hx:∀e∈E,X e.1=X' e.1/\X e.2=X' e.2)(hy:∀e∈E,Y e.1=Y' e.1/\Y e.2=Y' e.2):Free E X' Y':=λω h1 h2=>by
 have key:∀(Z Z':Int->Rat),(∀e∈E,Z e.1=Z' e.1/\Z e.2=Z' e.2)->∀v,(E.map λe=>ω e*coef Z e v)=E.map λe=>ω e*coef Z' e v:=λZ Z' hz v=>by
  refine List.map_congr_left λe he=>?_
  have:=hz e he;unfold coef;rw[this.1,this.2]
 exact h ω (λv=>by rw[key X X' hx v];exact h1 v) (λv=>by rw[key Y Y' hy v];exact h2 v)
end Tq
namespace Den
def zci(at_:List (Int×Int))(v:Int):Rat:=(((at_.getD v.toNat (0,0)).1:Int):Rat)
def ze2(at_:List (Int×Int))(v:Int):Rat:=(((at_.getD v.toNat (0,0)).2:Int):Rat)
theorem zdm{at_:List (Int×Int)}{x:Int×Int}{v:Int}(h:v.toNat<at_.length):zci (at_++[x]) v=zci at_ v/\ze2 (at_++[x]) v=ze2 at_ v:=by
 unfold zci ze2;have e:(at_++[x]).getD v.toNat (0,0)=at_.getD v.toNat (0,0):=by
  rw[Jf,Jf,Uh h]
 rw[e];exact⟨rfl,rfl⟩
theorem Zef{at_:List (Int×Int)}{x:Int×Int}:zci (at_++[x]) (at_.length:Int)=((x.1:Int):Rat)/\ze2 (at_++[x]) (at_.length:Int)=((x.2:Int):Rat):=by
 unfold zci ze2;have e:(at_++[x]).getD ((at_.length:Int)).toNat (0,0)=x:=by
  rw[Jf];simp
 rw[e];exact⟨rfl,rfl⟩
theorem GV.nodup{n:Int}{es:List (Int×Int)}(h:GV n es):es.Nodup:=by
 refine Pt.2 λi j hi hj hij hh=>?_
 have:=h.lt j i hj hij;rw[hh]at this;unfold z29 at this;omega
structure HI(n:Nat)(es:List (Int×Int))(at_:List (Int×Int)):Prop where
 n2:2<=n
 gv:GV n es
 len:es.length+3=2*n
 sp:X3 n es
 free:Tq.Free es (zci at_) (ze2 at_)
 alen:at_.length=n
theorem HI.step{n:Nat}{es es' at_:List (Int×Int)}{a b:Nat}{x:Int×Int}(h:HI n es at_)(ha:a<n)(hb:b<n)(hab:a≠b)(hp:es'.Perm (es++[((a:Int),(n:Int)),((b:Int),(n:Int))]))(hg:GV ((n+1:Nat):Int) es')
 (hc:((at_.getD b (0,0)).1-(at_.getD a (0,0)).1)*(x.2-(at_.getD a (0,0)).2)-((at_.getD b (0,0)).2-(at_.getD a (0,0)).2)*(x.1-(at_.getD a (0,0)).1)≠0):HI (n+1) es' (at_++[x]):=by
 have hr:=h.gv.2.1;have hal:=h.alen;have hold:∀e∈es,e.1.toNat<at_.length/\e.2.toNat<at_.length:=λe he=>by have:=hr e he;omega
 have f1:Tq.Free es (zci (at_++[x])) (ze2 (at_++[x])):=h.free.congr
  (λe he=>⟨(zdm (hold e he).1).1.symm,(zdm (hold e he).2).1.symm⟩) (λe he=>⟨(zdm (hold e he).1).2.symm,(zdm (hold e he).2).2.symm⟩)
 have oa:=zdm (at_:=at_) (x:=x) (v:=(a:Int)) (by show a<_;omega);have ob:=zdm (at_:=at_) (x:=x) (v:=(b:Int)) (by show b<_;omega);have on:=Zef (at_:=at_) (x:=x);rw[hal]at on;have f2:Tq.Free (es++[((a:Int),(n:Int)),((b:Int),(n:Int))]) (zci (at_++[x])) (ze2 (at_++[x])):=by
  refine f1.add (λe he=>by have:=hr e he;omega) (by omega) (by omega) ?_;rw[oa.1,oa.2,ob.1,ob.2,on.1,on.2];intro hh;refine hc ?_;have e1:zci at_ (a:Int)=(((at_.getD a (0,0)).1:Int):Rat):=rfl;have e2:ze2 at_ (a:Int)=(((at_.getD a (0,0)).2:Int):Rat):=rfl;have e3:zci at_ (b:Int)=(((at_.getD b (0,0)).1:Int):Rat):=rfl;have e4:ze2 at_ (b:Int)=(((at_.getD b (0,0)).2:Int):Rat):=rfl;rw[e1,e2,e3,e4,<-Ld,<-Ld,<-Ld,<-Ld,<-Rat.intCast_mul,<-Rat.intCast_mul,<-Ld]at hh;exact Rat.intCast_inj.1 (hh.trans (by rfl))
 refine⟨by have:=h.n2;omega,hg,?_,?_,f2.perm hp.symm,by rw[Je,Gr,hal]⟩
 . rw[hp.length_eq,Je];have:=h.len;simp only[J3,List.length_nil];omega
 . refine(X3.add h.sp hr ⟨by omega,by omega⟩ ⟨by omega,by omega⟩ (by omega)).perm hp.symm
theorem HI.indep{n:Nat}{es at_:List (Int×Int)}(h:HI n es at_):Tq.Indep (Tq.frameM es (zci at_) (ze2 at_)) (2*n) es.length:=
 h.free.indep h.gv.nodup λe he=>by have:=h.gv.2.1 e he;omega
end Den
end

section
namespace Den
open Go Iv Lx
inductive Reach:List PTr->List PTr->Prop
 | refl (ts:List PTr):Reach ts ts
 | step {ts us:List PTr} (i j k:Nat) (x y z:Int):Reach ts us->First us i j k x y z->Reach ts (z8p us i j k x y z)
def lfE(e:Int×Int):PTr:=.leaf e.1 e.2
theorem zse:∀(es:List (Int×Int)),(es.map lfE).flatMap PTr.bars=es
 | []=>rfl
 | e :: es=>by
   rw[U3,Ur,zse es];rfl
theorem Reach.keep{es:List (Int×Int)}{ts:List PTr}(h:Reach (es.map lfE) ts):(∀t∈ts,t.right)/\(ts.flatMap PTr.bars).Perm es:=by
 generalize hs:es.map lfE=s at h;induction h with
 | refl=>
   subst hs;refine⟨λt ht=>?_,by rw[zse]⟩;obtain⟨e,_,rfl⟩:=List.mem_map.1 ht;exact trivial
 | step i j k x y z _ hF ih=>
   obtain⟨h1,h2⟩:=ih;refine⟨λt ht=>?_,(zad hF.ij hF.jk hF.lt).1.trans h2⟩;unfold z8p at ht;have hij:=hF.ij;have hjk:=hF.jk;have hlt:=hF.lt;rcases Ju.1 ht with rfl | ht
   . refine⟨?_,?_,?_,hF.can⟩
     . rw[z2y (by omega)];exact h1 _ (Jh _)
     . rw[z2y (by omega)];exact h1 _ (Jh _)
     . rw[z2y (by omega)];exact h1 _ (Jh _)
   . exact h1 t (zq3 ht)
theorem Z9m{ts:List PTr}{t:PTr}(h:t∈ts):t.bars.length<=(ts.flatMap PTr.bars).length/\∀e∈t.bars,e∈ts.flatMap PTr.bars:=by
 refine⟨?_,λe he=>List.mem_flatMap.2 ⟨t,h,he⟩⟩;induction ts with
 | nil=>cases h
 | cons a ts ih=>
   rw[Ur,Je];rcases Ju.1 h with rfl | h
   . omega
   . have:=ih h;omega
theorem Reach.nn{n:Int}{es:List (Int×Int)}{ts:List PTr}(h:Reach (es.map lfE) ts)(hv:GV n es):∀t∈ts,nnB t:=λt ht=>by
 have h2:=h.keep.2;have h3:=Z9m ht;have hc:=hv.cap;refine⟨λe he=>?_,?_⟩
 . have:=hv.2.1 e (h2.mem_iff.1 (h3.2 e he));omega
 . have:=h2.length_eq;omega
theorem Reach.len{es:List (Int×Int)}{ts:List PTr}(h:Reach (es.map lfE) ts):ts.length<=es.length:=by
 generalize hs:es.map lfE=s at h;induction h with
 | refl=>subst hs;simp
 | step i j k x y z _ hF ih=>
   have:=ih;have:=(zad (x:=x) (y:=y) (z:=z) hF.ij hF.jk hF.lt).2;omega
def Ze6(ts:List PTr):Prop:=∀i j k,i<j->j<k->k<ts.length->z9o (ts.getD i (.leaf 0 0)) (ts.getD j (.leaf 0 0)) (ts.getD k (.leaf 0 0))=none
section
variable {h : Hp} {G : TGraph} {es : List (Int × Int)} {Kb : Bool → Hp → Prop}
theorem zux{K:TTree×Int->Hp->Prop}(hl:LR a2c 2 A2P h G.edges es)(hv:GV G.n es)(h12:G.n<=12)
 (H1:∀X h' t,h.le h'->TR h' X t->Reach (es.map lfE) [t]->((z30 t.bars).length:Int)=G.n->K (X,0) h')
 (H0:∀X e h' ts,h.le h'->e≠0->Reach (es.map lfE) ts->Ze6 ts->(∀t,ts=[t]->((z30 t.bars).length:Int)≠G.n)->K (X,e) h'):zc (F.z47 G) K h:=by
 refine zd (λr h'=>(r.2=0/\∃t,TR h' r.1 t/\Reach (es.map lfE) [t]/\((z30 t.bars).length:Int)=G.n)\/(r.2≠0/\∃ts,Reach (es.map lfE) ts/\Ze6 ts/\∀t,ts=[t]->((z30 t.bars).length:Int)≠G.n)) (λK' hk=>?_) λr h' hl hr=>?_
 . unfold F.z47;have hcap:=hv.cap;have hll:=hl.len yb;refine z0x hl (by omega) λb h1 hl1 hb=>?_
   rw[hb.2 hv];refine zr rfl (ze (λhh=>by omega) (λ_=>?_));refine Yq (n:=es.length) (by omega) (λi s h'=>LO tc 4 TR h1 h' s ((es.take i).map lfE)) (by simpa using LO.nil) ?_;intro i s h2 hi hs k hk2;refine ze (λh3=>?_) (λh3=>?_)
   . have hi':i<es.length:=by simp only at h3;omega
     refine(hl.le yb (Hp.le_trans hl1 hs.dle)).get yb i rfl hi' λa4 x hx hc=>⟨_,hc 0 _ rfl,_,hc 1 _ rfl,?_⟩
     obtain⟨x1,x2⟩:=hx;rw[x1,x2];refine hs.app X1 (bytes:=48) (zero:=[.int .i64 0,.int .i64 0,.int .i64 0,.slice zf.a zf.len zf.cap]) (x:=⟨es[i].1,es[i].2,0,zf⟩) (b:=lfE es[i]) rfl (by rw[J1,Jl];omega) (by rw[J1,Jl];omega) (.leaf _ _ _ rfl) λw h4 hw=>hk2 _ _ hi' ?_
     rw[<-Jk hi',Uf];exact hw
   . have hi':i=es.length:=by simp only at h3;omega
     subst hi';rw[Jw]at hs;have hlr:=hs.lr X1;have hle2:=Hp.le_trans hl1 hs.dle;refine zdj (λm st h'=>h.le h'/\∃ts,LR tc 4 TR h' st.1 ts/\Reach (es.map lfE) ts/\(st.2.1=false->Ze6 ts)/\m=2*ts.length+(if st.2.1=true then 1 else 0)) ⟨hle2,es.map lfE,hlr,.refl _,λhh=>(by cases hh),rfl⟩ ?_;rintro m ⟨l,more,_⟩ h4 ⟨hl4,ts,hts,hR,hno,rfl⟩ K8 hK8;have hnn:=hR.nn hv;have htl:=hR.len;simp only at hts hno;refine zi (λh5=>?_) (λh5=>?_)
     . refine zyb hts hnn (by omega) (λr h6 i j k x y z hl6 hF hr=>?_) (λh6 hl6 hn6=>?_)
       . have:=(zad (x:=x) (y:=y) (z:=z) hF.ij hF.jk hF.lt).2;refine hK8 _ _ _ ?_ ⟨Hp.le_trans hl4 hl6,_,hr,.step i j k x y z hR hF,λhh=>(by cases hh),rfl⟩;simp only;split<;>omega
       . refine hK8 _ _ _ ?_ ⟨Hp.le_trans hl4 hl6,ts,hts.le X1 hl6,hR,λ_=>hn6,rfl⟩;simp only at h5;simp only[h5];simp
     . simp only at h5;have hn4:=hno h5;have htsl:=hts.len X1;refine zh (λ_ h'=>h.le h'/\LR tc 4 TR h' l ts/\∃t,ts=[t]/\((z30 t.bars).length:Int)=G.n) ?_ ?_
       . rintro _ h6 ⟨hl6,hts6,t,rfl,ht⟩;refine hts6.get X1 0 rfl (by simp) λa12 X hX c12=>⟨_,c12 0 _ rfl,_,c12 1 _ rfl,_,c12 2 _ rfl,X.parts,c12 3 _ rfl,?_⟩
         exact hk _ _ hl6 (.inl ⟨rfl,t,hX,hR,ht⟩)
       . refine Z2 (λh6=>hk _ _ hl4 (.inr ⟨by decide,ts,hR,hn4,λt ht=>?_⟩)) (λh6=>?_)
         . rw[ht]at htsl;exact absurd (by simp only;rw[htsl];rfl) h6
         . obtain⟨t,rfl⟩:=zrj (l:=ts) (by simp only at h6;omega);refine hts.get X1 0 rfl (by simp) λa14 X hX c14=>⟨_,c14 0 _ rfl,_,c14 1 _ rfl,_,c14 2 _ rfl,X.parts,c14 3 _ rfl,?_⟩
           have hnt:=hnn t (Ut ..);have hX:TR h4 X t:=hX;refine z60 (x:=X) hX (by have:=hnt.2;omega) λy h7 hl7 hy=>?_
           have hyl:=hy.len;refine Z2 (λh8=>hk _ _ (Hp.le_trans hl4 hl7) (.inr ⟨by decide,[t],hR,hn4,λt' ht'=>?_⟩)) (λh8=>⟨Hp.le_trans hl4 hl7,hts.le X1 hl7,t,rfl,by rw[<-hyl];exact h8⟩);cases ht';rw[<-hyl];exact h8
 . obtain⟨X,e⟩:=r;rcases hr with ⟨h1,t,h2,h3,h4⟩ | ⟨h1,ts,h2,h3,h4⟩
   . simp only at h1;subst h1;exact H1 X h' t hl h2 h3 h4
   . exact H0 X e h' ts hl h1 h2 h3 h4
theorem zrw{a b:Sl}(ha:EL h a es)(hb:EL h b es)(hlen:es.length<=1000000)(H:∀h',h.le h'->Kb true h'):zc (F.Xj a b) Kb h:=by
 refine zd (λr h'=>r=true) (λK' hk=>?_) λr h' hl hr=>by subst hr;exact H h' hl
 unfold F.Xj;have hal:=ha.len;have hbl:=hb.len;refine Z2 (λh1=>absurd (by rw[hal,hbl]) h1) (λ_=>?_);refine yg (n:=es.length) (by omega) (λi h'=>h'=h) rfl ?_;rintro i h1 hi hh k hk2;rw[hh];refine ze (λh2=>?_) (λh2=>hk _ _ (Hp.le_refl _) rfl);have hi':i<es.length:=by simp only at h2;omega
 refine ha.lr.get yb i rfl hi' λa5 x hx hc=>⟨_,hc 0 _ rfl,_,hc 1 _ rfl,?_⟩
 refine hb.lr.get yb i rfl hi' λa7 y hy hc7=>⟨_,hc7 0 _ rfl,_,hc7 1 _ rfl,?_⟩
 refine zr ?_ (hk2 _ hi' (by trivial));rw[hx.1,hx.2,hy.1,hy.2];simp
theorem zom{a b:Int×Int}:z6p a b<0↔z29 a b:=by
 unfold z6p z29;constructor
 . intro hh;by_cases h1:a.1<b.1
   . exact .inl h1
   . rw[if_neg h1]at hh;by_cases h2:b.1<a.1
     . rw[if_pos h2]at hh;omega
     . rw[if_neg h2]at hh;by_cases h3:a.2<b.2
       . exact .inr ⟨by omega,h3⟩
       . rw[if_neg h3]at hh;split at hh<;>omega
 . rintro(h1 | ⟨h1,h2⟩)
   . rw[if_pos h1];decide
   . rw[if_neg (by omega),if_neg (by omega),if_pos h2];decide
theorem GV.pair{n:Int}(hv:GV n es):es.Pairwise z29:=Pt.2 λi j hi hj hij=>hv.lt j i hj hij
theorem Zes{n:Int}{xs:List (Int×Int)}(hp:xs.Perm es)(hv:GV n es):zlw xs=es:=by
 have hp2:(zlw xs).Perm xs:=List.mergeSort_perm _ _;have hnd:(zlw xs).Nodup:=(hp2.trans hp).nodup_iff.2 hv.nodup;have hs:=List.pairwise_mergeSort (le:=λx y:Int×Int=>!(decide (z6p y x<0))) (λa b c h1 h2=>by
  simp only[Gc,decide_eq_false_iff_not,zom]at h1 h2 |-
  unfold z29 at *;omega) (λa b=>by
  simp only[Bool.or_eq_true,Gc,decide_eq_false_iff_not,zom];unfold z29;omega) xs
 have hst:(zlw xs).Pairwise z29:=by
  have hs2:(zlw xs).Pairwise λa b=>(!(decide (z6p b a<0)))=true:=hs
  refine List.Pairwise.imp₂ (λa b h1 h2=>?_) hs2 hnd;simp only[Gc,decide_eq_false_iff_not,zom]at h1;unfold z29 at *;rcases Int.lt_trichotomy a.1 b.1 with h3 | h3 | h3
  . exact .inl h3
  . rcases Int.lt_trichotomy a.2 b.2 with h4 | h4 | h4
    . exact .inr ⟨h3,h4⟩
    . exact absurd (Prod.ext h3 h4) h2
    . exact absurd (.inr ⟨h3.symm,h4⟩) h1
  . exact absurd (.inl h3) h1
 refine zof (R:=z29) (λa hh=>?_) (λa b h1 h2=>?_) hst hv.pair λv=>(hp2.trans hp).mem_iff
 . unfold z29 at hh;omega
 . unfold z29 at h1 h2;omega
theorem nnB.sub{a b c:Int}{p q r:PTr}(h:nnB (.node a b c p q r)):nnB p/\nnB q/\nnB r:=by
 obtain⟨h1,h2⟩:=h;have e:PTr.bars (.node a b c p q r)=p.bars++q.bars++r.bars:=rfl;rw[e]at h1 h2;rw[Je,Je]at h2;exact⟨⟨λe he=>h1 e (by simp[he]),by omega⟩,⟨λe he=>h1 e (by simp[he]),by omega⟩,⟨λe he=>h1 e (by simp[he]),by omega⟩⟩
theorem Z24:∀(fuel:Nat) {h:Hp} {x:TTree} {t:PTr} {K:Bool->Hp->Prop},TR h x t->t.dep<=fuel->t.right->nnB t->(∀h',h.le h'->K true h')->F.Xa fuel x K h:=by
 intro fuel;induction fuel with
 | zero=>intro h x t K _ hd _ _ _;cases t<;>unfold PTr.dep at hd<;>omega
 | succ fuel ih=>
   intro h x t K hx hd hr hn H;unfold F.Xa;cases hx with
   | leaf a b s h0=>exact zu (λ_=>H _ (Hp.le_refl _)) (λh1=>by simp only at h1;omega)
   | node a b c s X Y Z p q r h1 h2 h3 hX hY hZ=>
     have hp:=(TR.parts (.node a b c s X Y Z p q r h1 h2 h3 hX hY hZ)).1;obtain⟨r1,r2,r3,r4⟩:=hr;obtain⟨n1,n2,n3⟩:=hn.sub;have hd':p.dep<=fuel/\q.dep<=fuel/\r.dep<=fuel:=by unfold PTr.dep at hd;omega
     have hall:∀t∈[p,q,r],t.dep<=fuel/\t.right/\nnB t:=λt ht=>by
      simp only[Ju,Uk,or_false]at ht;rcases ht with rfl | rfl | rfl
      . exact⟨hd'.1,r1,n1⟩
      . exact⟨hd'.2.1,r2,n2⟩
      . exact⟨hd'.2.2,r3,n3⟩
     refine zu (λh4=>by simp only at h4;omega) (λ_=>?_);refine zh (λ_ h'=>h.le h') ?_ ?_
     . rintro _ h5 hl5;have hp5:=hp.le X1 hl5;refine hp5.get X1 0 rfl (by simp) λa3 X' hX' c3=>⟨_,c3 0 _ rfl,_,c3 1 _ rfl,_,c3 2 _ rfl,X'.parts,c3 3 _ rfl,?_⟩
       refine hp5.get X1 1 rfl (by simp) λa5 Y' hY' c5=>⟨_,c5 0 _ rfl,_,c5 1 _ rfl,_,c5 2 _ rfl,Y'.parts,c5 3 _ rfl,?_⟩
       refine hp5.get X1 2 rfl (by simp) λa7 Z' hZ' c7=>⟨_,c7 0 _ rfl,_,c7 1 _ rfl,_,c7 2 _ rfl,Z'.parts,c7 3 _ rfl,?_⟩
       refine zkv (X:=X') (Y:=Y') (Z:=Z') hX' hY' hZ' n1 n2 n3 λW h6 hl6 m1 m0=>?_
       have hm:z9o p q r=some (b,c,a):=r4;have hle:=Hp.le_trans hl5 hl6;cases hW:W.2 with
       | false=>
         have:=m0 hW;simp only[Ua,List.getElem_cons_succ]at this;rw[hm]at this;cases this
       | true=>
         obtain⟨x,y,z,e1,_,e3,e4,e5⟩:=m1 hW;simp only[Ua,List.getElem_cons_succ]at e1;rw[hm]at e1;simp only[Jm,Prod.mk.injEq]at e1;obtain⟨rfl,rfl,rfl⟩:=e1;refine Z4 rfl (zu (λ_=>zu (λ_=>?_) (λhh=>absurd e4 hh)) (λhh=>absurd e3 hh));have:(W.1.c==c)=true:=by rw[e5];simp
         rw[this];exact H _ hle
     . refine Z2 (λh4=>absurd (by simp only;rw[h2];rfl) h4) (λ_=>?_);refine zd (λr h'=>r=false) (λK2 hk2=>?_) λr h' hl hr=>by subst hr;exact zr rfl hl
       unfold F.yi;refine zd (λr h'=>r=-1) (λK3 hk3=>?_) λr h' hl hr=>by subst hr;exact hk2 _ _ hl rfl
       unfold F.y7;refine yg (n:=3) (by omega) (λi h'=>h.le h') (Hp.le_refl _) ?_;intro i h5 hi hl5 k hk4;refine ze (λh6=>?_) (λh6=>hk3 _ _ hl5 rfl);have hi':i<[p,q,r].length:=by simp only at h6;show i<3;omega
       refine(hp.le X1 hl5).get X1 i rfl hi' λa3 V hV c3=>⟨_,c3 0 _ rfl,_,c3 1 _ rfl,_,c3 2 _ rfl,V.parts,c3 3 _ rfl,?_⟩
       have ha:=hall _ (Jh hi');refine zd (λr h'=>r=false) (λK4 hk5=>?_) λr h' hl hr=>by subst hr;exact zr rfl (hk4 _ (by simpa using hi') (Hp.le_trans hl5 hl))
       unfold F.z4z;refine zd (λr h'=>r=true) (λK5 hk6=>ih (x:=V) hV ha.1 ha.2.1 ha.2.2 λh' hl=>hk6 _ _ hl rfl) λr h' hl hr=>by subst hr;exact hk5 _ _ hl rfl
theorem ztm{X:TTree}{t:PTr}(hl:LR a2c 2 A2P h G.edges es)(hv:GV G.n es)(h12:G.n<=12)(hX:TR h X t)(hr:t.right)(hp:t.bars.Perm es)(hpt:((z30 t.bars).length:Int)=G.n)(H:∀h',h.le h'->Kb true h'):zc (F.z48 G X) Kb h:=by
 refine zd (λr h'=>r=true) (λK' hk=>?_) λr h' hl hr=>by subst hr;exact H h' hl
 unfold F.z48;have hcap:=hv.cap;have hnn:nnB t:=⟨λe he=>by have:=hv.2.1 e (hp.mem_iff.1 he);omega,by have:=hp.length_eq;omega⟩;refine z0x hl (by have:=hl.len yb;omega) λb h1 hl1 hb=>?_
 rw[hb.2 hv];refine Z4 rfl (ze (λ_=>?_) (λhh=>absurd h12 hh));refine zd (λr h'=>r=true) (λK2 hk2=>?_) λr h' hl hr=>by subst hr;exact hk _ _ (Hp.le_trans hl1 hl) rfl
 unfold F.z49;refine zmv (hX.le hl1) (by have:=hnn.2;omega) λy h2 ho2=>?_
 obtain⟨f2,hB2,hos⟩:=ho2.bk;refine Xm (zti (size:=2) (xs:=t.bars) (by decide) zfl (by unfold zlw;rw[List.length_mergeSort]) (λ_=>rfl) hos hB2 (by have:=hnn.2;omega) λf3 h4 hB4 ho4=>?_);rw[Zes hp hv]at ho4;have hle4:h1.le h4:=hB4.le;refine zrw ⟨ho4.rd hB4,ho4.2.1⟩ ((hl.le yb (Hp.le_trans hl1 hle4)).el) (by omega) λh5 hl5=>?_
 have hle5:=Hp.le_trans hle4 hl5;refine Z4 rfl ?_;refine z60 (hX.le (Hp.le_trans hl1 hle5)) (by have:=hnn.2;omega) λz h6 hl6 hz=>?_
 have hzl:=hz.len;have hle6:=Hp.le_trans hle5 hl6;refine zu (λ_=>?_) (λhh=>absurd (by rw[hzl];exact hpt) hh);refine zd (λr h'=>r=true) (λK3 hk3=>?_) λr h' hl hr=>by subst hr;exact hk2 _ _ (Hp.le_trans hle6 hl) rfl
 unfold F.z8a;exact⟨t.dep,Z24 _ (hX.le (Hp.le_trans hl1 hle6)) (Ja _) hr hnn λh' hl=>hk3 _ _ hl rfl⟩
end
end Den
end

section
namespace Den
open Go Iv Lx
def NQ(h:Hp)(B:Nat)(x:TNumber)(q:Rat):Prop:=x.radicands.len=0/\PL h B x.coefs [q]
theorem NQ.le{h h':Hp}{B:Nat}{x:TNumber}{q:Rat}(hx:NQ h B x q)(hl:h.le h'):NQ h' B x q:=⟨hx.1,hx.2.le hl⟩
theorem NQ.mono{h:Hp}{B C:Nat}{x:TNumber}{q:Rat}(hx:NQ h B x q)(hB:B<=C):NQ h C x q:=⟨hx.1,hx.2.mono hB⟩
def nc(x:TNumber):List Value:=[.slice x.radicands.a x.radicands.len x.radicands.cap,.slice x.coefs.a x.coefs.len x.coefs.cap]
def NQP(B:Nat)(h:Hp)(x:TNumber)(q:Rat):Prop:=NQ h B x q
theorem Xq(B:Nat):Rec nc 2 (NQP B):=⟨λ_=>rfl,by decide,λ_=>rfl,λhx hl=>hx.le hl⟩
theorem NR.lens{h:Hp}{x:TRat}{q:Rat}{k:Nat}(hx:NR h x q)(hq:BR k q):x.num.mag.len<=k/\x.den.mag.len<=k:=by
 have e1:=hx.1.len;have e2:=hx.2.len;exact⟨by rw[e1];exact Y6.2 hq.1,by rw[e2];exact Y6.2 hq.2⟩
section
variable {h : Hp} {B C k : Nat} {t u a b l : Sl} {x y : TRat} {p q : Rat} {X Y : TNumber} {Kb : Bool → Hp → Prop} {Ks : Sl → Hp → Prop} {KR : TRat → Hp → Prop} {KN : TNumber → Hp → Prop} {KE : TNumber × Int → Hp → Prop} {Ki : Int → Hp → Prop}
theorem zzh{K:Addr->Hp->Prop}(hx:NR h x q)(hq:BR B q)(H:∀A h',h.le h'->PL h' B ⟨some A,1,1⟩ [q]->K A h'):Y2 [.bool x.num.neg,.slice x.num.mag.a x.num.mag.len x.num.mag.cap,.bool x.den.neg,.slice x.den.mag.a x.den.mag.len x.den.mag.cap] K h:=by
 refine zce (cells:=qc x) 4 1 rfl λA h' hl hr=>H A h' hl ⟨[x],hr,?_,Ja _⟩
 refine⟨rfl,λk k1 k2=>?_⟩;have:k=0:=by simp at k1;omega
 subst this;exact⟨hx.le hl,hq⟩
theorem zfh(hx:NR h x q)(hq:BR B q)(hB:B<=1000000000000)(H:∀z h',h.le h'->NR h' z q->KR z h'):zc (F.z11 x) KR h:=by
 refine zd (λz h'=>NR h' z q) (λK' hk=>?_) λz h' hl hz=>H z h' hl hz
 unfold F.z11;have hl:=hx.lens hq;refine zbs hx.1.1 (by rw[<-hx.1.len];omega) λy1 h1 ho1=>?_
 refine zbs (hx.2.1.le ho1.1) (by rw[<-hx.2.len];omega) λy2 h2 ho2=>hk _ _ (Hp.le_trans ho1.1 ho2.1) ?_
 exact⟨⟨ho1.rdW.le ho2.1,hx.1.2⟩,⟨ho2.rdW,hx.2.2⟩⟩
theorem zmk(hx:NR h x q)(hq:BR B q)(hB:B<=1000000000000)(H:∀z h',h.le h'->NQ h' B z q->KN z h'):zc (F.z3t x) KN h:=by
 refine zd (λz h'=>NQ h' B z q) (λK' hk=>?_) λz h' hl hz=>H z h' hl hz
 unfold F.z3t;refine zfh hx hq hB λz h1 hl1 hz=>?_
 exact zzh hz hq λA h2 hl2 hp=>hk _ _ (Hp.le_trans hl1 hl2) ⟨rfl,hp⟩
theorem zob{n:Int}(h1:-9223372036854775808<=n)(h2:n<=9223372036854775807):BR 2 (n:Rat):=by
 refine⟨?_,?_⟩
 . rw[Rat.num_intCast];unfold Lt W;omega
 . rw[Rat.den_intCast];unfold Lt;decide
theorem z99{n:Int}(h1:-9223372036854775808<=n)(h2:n<=9223372036854775807)(H:∀z h',h.le h'->NQ h' 2 z (n:Rat)->KN z h'):zc (F.Wo n) KN h:=by
 refine zd (λz h'=>NQ h' 2 z (n:Rat)) (λK' hk=>?_) λz h' hl hz=>H z h' hl hz
 unfold F.Wo;refine z2l h1 h2 λz h3 hl3 hz=>?_
 exact zmk hz (zob h1 h2) (by decide) λw h4 hl4 hw=>hk _ _ (Hp.le_trans hl3 hl4) hw
theorem zlp{n:Int}(h1:-9223372036854775808<=n)(h2:n<=9223372036854775807)(H:∀z h',h.le h'->NQ h' 2 z (n:Rat)->KN z h'):zc (F.z2m n) KN h:=by
 refine zd (λz h'=>NQ h' 2 z (n:Rat)) (λK' hk=>?_) λz h' hl hz=>H z h' hl hz
 unfold F.z2m;refine Wr h1 h2 λz h3 hl3 hz=>?_
 refine zd (λz h'=>NQ h' 2 z (n:Rat)) (λK2 hk2=>?_) λz h' hl hz=>hk _ _ (Hp.le_trans hl3 hl) hz
 unfold F.z9b;exact zzh hz (zob h1 h2) λA h4 hl4 hp=>hk2 _ _ hl4 ⟨rfl,hp⟩
theorem zht(ht:t.len=0)(hu:u.len=0)(H:Kb true h):zc (F.z0m t u) Kb h:=by
 refine zx _ (λK' hk=>?_) H;unfold F.z0m;refine ze (λ_=>?_) (λhh=>absurd (by rw[ht,hu];exact Int.le_refl _) hh);rw[hu];refine⟨by omega,by omega,by omega,zx _ (λK2 hk2=>?_) hk⟩;unfold F.Zr;refine Z2 (λhh=>absurd (by rw[hu];rfl) hh) (λ_=>?_);refine yg (n:=0) (by omega) (λ_ h'=>h'=h) rfl ?_;rintro i h1 _ hh k _;rw[hh];refine ze (λh2=>?_) (λ_=>hk2);exfalso;have:(t.cut ((0:Int)).toNat ((0:Nat):Int).toNat 1).len=0:=rfl;rw[this]at h2;simp only at h2;omega
theorem zt2(hp:PL h B l [q])(H:∀y h',h.le h'->PL h' B y [q]->Ks y h'):zc (F.Qm l) Ks h:=by
 refine zd (λy h'=>PL h' B y [q]) (λK' hk=>?_) λy h' hl hy=>H y h' hl hy
 unfold F.Qm;have hll:=hp.len;obtain⟨xs,h1,h2,h3⟩:=hp;cases ha:l.a with
 | none=>
   have h4:=h1.2;rw[ha]at h4;simp only[yc]at h4;split at h4
   . rename_i h5;have:=h1.1;rw[h5,hll]at this;simp at this
   . cases h4
 | some A=>
   refine zr rfl ?_;refine(Bk.start (h:=h)).newF λbk h5 hb hD hB1=>?_
   have hxl:(xs.flatMap qc).length=l.len*4:=h1.1.symm;refine⟨xs.flatMap qc,?_,?_⟩
   . have:=zbq hB1.le h1.2;rw[hxl,ha]at this;exact this
   . have ho:OS (z1b zcg bk []) 4 ⟨some ⟨bk,0,none⟩,0,0⟩ []:=OS.blk rfl;have hl1:l.len=1:=hll;refine ho.app hB1 (n:=l.len) hxl rfl ?_ ?_ ?_ λy f2 h6 hB2 ho2 _ _=>hk _ _ hB2.le ⟨xs,?_,h2.le hB2.le,ho2.2.1⟩
     . rw[List.all_flatMap];exact Jz.2 λ_ _=>rfl
     . show(0+l.len)*64<=_;omega
     . show 0+l.len<=_;omega
     . rw[Tf]at ho2;exact ho2.rd hB2
theorem Zen(ht:t.len=0):i64.wrap (1*2 ^ (min ((t.len:Int):Int).toNat i64.bits))=1:=by
 rw[ht];have e:min (((0:Nat):Int)).toNat i64.bits=0:=Nat.zero_min _;rw[e];rfl
theorem Za1(ht:t.len=0)(hp:PL h B a [q])(H:∀y h',h.le h'->PL h' B y [q]->Ks y h'):zc (F.z7u t a) Ks h:=by
 refine zd (λy h'=>PL h' B y [q]) (λK' hk=>?_) λy h' hl hy=>H y h' hl hy
 unfold F.z7u;refine zt2 hp λy h1 hl1 hy=>?_
 have hyl:=hy.len;refine Zp (λst h'=>st.1=y/\h'=h1) (λ_=>0) ⟨rfl,rfl⟩ ?_;rintro⟨_,_⟩ h2 ⟨rfl,hh⟩;rw[hh,Zen ht];refine⟨by omega,ze (λh3=>?_) (λ_=>hk _ _ hl1 hy)⟩;simp only at h3 hyl;rw[hyl]at h3;simp at h3
theorem zmc(hp:PL h B l [q])(hB:B<=1000000000000)(H:∀y h',h.le h'->PL h' B y [q]->Ks y h'):zc (F.z0g l) Ks h:=by
 refine zd (λy h'=>PL h' B y [q]) (λK' hk=>?_) λy h' hl hy=>H y h' hl hy
 unfold F.z0g;have hll:=hp.len;have h1l:l.len=1:=hll;have hbr:=hp.bound q (Ut ..);rw[h1l];refine(Bk.start (h:=h)).mkF 1 1 rfl rfl (Ja _) (by omega) (by omega) λbm h1 hbm hDm hB1=>?_
 refine yg (n:=1) (by omega) (λi h'=>(i=0/\h'=h1)\/(0<i/\h.le h'/\PL h' B ⟨some ⟨bm,0,none⟩,1,1⟩ [q])) (.inl ⟨rfl,rfl⟩) ?_;rintro i h2 hi hI k hk2;refine ze (λh3=>?_) (λh3=>?_)
 . have hi0:i=0:=by simp only at h3;omega
   subst hi0;rcases hI with ⟨_,hh⟩ | ⟨hh,_⟩
   . rw[hh];obtain⟨xs,g1,g2,g3⟩:=hp;have hx0:0<xs.length:=by rw[g2.1];simp
     have hx:=g2.2 0 hx0 (by simp);simp only[Ua]at hx;refine zlg 0 (g1.le hB1.le) rfl hx0 ?_;refine hB1.call (K1:=λz D'=>NR D' z q) (zfh hx.1 hbr hB λz h' _ hz=>hz) λz D3 h3' hl3 hB3 hz=>?_
     have ho:OS (z1b zcg bm (yn 1 [.bool false,.slice zf.a zf.len zf.cap,.bool false,.slice zf.a zf.len zf.cap])) 4 ⟨some ⟨bm,0,none⟩,1,1⟩ (yn 1 [.bool false,.slice zf.a zf.len zf.cap,.bool false,.slice zf.a zf.len zf.cap]):=OS.mk rfl (Ja _);refine ho.st (vs:=qc z) 0 hB3 rfl (by show 0<1;omega) rfl (by decide) rfl λf4 h4 hB4 ho4 _=>hk2 _ (by omega) (.inr ⟨by omega,Hp.le_trans hl3 hB4.le,?_⟩)
     have e:Zc (yn 1 [.bool false,.slice zf.a zf.len zf.cap,.bool false,.slice zf.a zf.len zf.cap]) (0*4) (qc z)=[z].flatMap qc:=rfl;rw[e]at ho4;refine⟨[z],ho4.rd hB4,⟨rfl,λk k1 k2=>?_⟩,Ja _⟩;have:k=0:=by simp at k1;omega
     subst this;exact⟨hz.le hB4.le,hbr⟩
   . omega
 . rcases hI with ⟨rfl,_⟩ | ⟨_,g1,g2⟩
   . simp only at h3;omega
   . exact hk _ _ g1 g2
theorem zi1(hx:NQ h B X q)(hB:B<=1000000000000)(H:∀z h',h.le h'->NQ h' B z q->KN z h'):zc (F.z2k X) KN h:=by
 refine zd (λz h'=>NQ h' B z q) (λK' hk=>?_) λz h' hl hz=>H z h' hl hz
 unfold F.z2k;refine zmc hx.2 hB λy h1 hl1 hy=>?_
 refine Zp (λst h'=>st=((zf,y,()),0,())/\h'=h1) (λ_=>0) ⟨rfl,rfl⟩ ?_;rintro st h2 ⟨rfl,hh⟩;rw[hh];refine ze (λh3=>?_) (λ_=>hk _ _ hl1 ⟨rfl,hy⟩);exfalso;simp only at h3;rw[hx.1]at h3;exact absurd h3 (by decide)
theorem zop{qs:List Rat}{K:Sl×Int->Hp->Prop}(hl:LR nc 2 (NQP B) h l qs)(hlen:qs.length<=1000000)(H:K (zf,0) h):zc (F.z5d l) K h:=by
 refine zx _ (λK' hk=>?_) H;unfold F.z5d;have hll:=hl.len (Xq B);refine Yq (n:=qs.length) (by omega) (λi s h'=>h'=h/\s=zf) ⟨rfl,rfl⟩ ?_;rintro i s h1 hi ⟨hh,rfl⟩ k hk2;rw[hh];refine ze (λh2=>?_) (λ_=>hk);have hi':i<qs.length:=by simp only at h2;omega
 refine zh (λs h'=>h'=h/\s.1=zf) (λs h' hs=>hk2 _ _ hi' hs) ?_;refine hl.get (Xq B) i rfl hi' λa5 x hx hc=>⟨x.radicands,hc 0 _ rfl,x.coefs,hc 1 _ rfl,?_⟩
 exact zht rfl hx.1 (Z4 rfl ⟨rfl,rfl⟩)
theorem zgm{qs:List Rat}{K:Sl×Int->Hp->Prop}(hl:LR nc 2 (NQP B) h l qs)(hlen:qs.length<=1000000)(hB:B<=1000000000000)(H:∀y D h',h.le D->LO nc 2 (NQP B) D h' y qs->K (y,0) h'):zc (F.z37 l) K h:=by
 refine zd (λr h'=>r.2=0/\∃D,h.le D/\LO nc 2 (NQP B) D h' r.1 qs) (λK' hk=>?_) λr h' hl hr=>?_
 . unfold F.z37;have hll:=hl.len (Xq B);refine zop hl hlen (Z2 (λhh=>absurd rfl hh) (λ_=>?_));refine Yq (n:=qs.length) (by omega) (λi s h'=>∃D,h.le D/\LO nc 2 (NQP B) D h' s (qs.take i)) ⟨h,Hp.le_refl _,by simpa using LO.nil⟩ ?_;rintro i s h1 hi ⟨D,hD,ho⟩ k hk2;refine ze (λh2=>?_) (λh2=>?_)
   . have hi':i<qs.length:=by simp only at h2;omega
     refine(hl.le (Xq B) hD).get2 (Xq B) ho.dle i rfl hi' λa4 x hx hc=>⟨x.radicands,hc 0 _ rfl,x.coefs,hc 1 _ rfl,?_⟩
     have hx:NQ D B x qs[i]:=hx;obtain⟨J,hJ⟩:∃J:(Sl×Sl×Unit)×Unit->Hp->Prop,∀s' h',J s' h'↔∃D',h.le D'/\LO nc 2 (NQP B) D' h' s (qs.take i)/\NQ D' B ⟨s'.1.1,s'.1.2.1⟩ qs[i]:=⟨_,λ_ _=>Pc⟩;refine zh J (λs' h' hs=>?_) ?_
     . obtain⟨D',q1,q2,q3⟩:=(hJ s' h').1 hs;refine q2.call (Xq B) (K1:=λz D2=>NQ D2 B z qs[i]) (zi1 q3 hB λz h'' _ hz=>hz) λz D2 h4 hl4 q5 q6=>?_
       have hsl:=q5.len (Xq B);refine q5.app (Xq B) (bytes:=48) (zero:=[.slice zf.a zf.len zf.cap,.slice zf.a zf.len zf.cap]) (x:=z) (b:=qs[i]) rfl (by rw[Jl];omega) (by rw[Jl];omega) q6 λw h5 hw=>hk2 _ _ hi' ⟨D2,Hp.le_trans q1 hl4,?_⟩
       rw[<-Jk hi'];exact hw
     . refine zht rfl hx.1 (Z4 rfl ?_);refine ho.call (Xq B) (K1:=λy D2=>PL D2 B y [qs[i]]) (Za1 rfl hx.2 λy h'' _ hy=>hy) λy D2 h4 hl4 q5 q6=>?_
       exact(hJ _ _).2 ⟨D2,Hp.le_trans hD hl4,q5,rfl,q6⟩
   . have:i=qs.length:=by simp only at h2;omega
     subst this;rw[Jw]at ho;exact hk _ _ (Hp.le_trans hD ho.dle) ⟨rfl,D,hD,ho⟩
 . obtain⟨y,e⟩:=r;obtain⟨h1,D,h2,h3⟩:=hr;simp only at h1;subst h1;exact H y D h' h2 h3
theorem zfy(hp:PL h B l [q])(hB:B<=1000000000000)(H:∀h',h.le h'->Kb true h'):zc (F.z0n l 1) Kb h:=by
 refine zd (λb h'=>b=true) (λK' hk=>?_) λb h' hl hb=>by subst hb;exact H h' hl
 unfold F.z0n;have hll:l.len=1:=hp.len;refine zu (λ_=>?_) (λhh=>absurd (by rw[hll];rfl) hh);refine zd (λb h'=>b=false) (λK2 hk2=>?_) λb h' hl hb=>by subst hb;exact hk _ _ hl rfl
 unfold F.yx;refine zd (λr h'=>r=-1) (λK3 hk3=>?_) λr h' hl hr=>by subst hr;exact hk2 _ _ hl rfl
 unfold F.Yg;refine yg (n:=1) (by omega) (λi h'=>h.le h') (Hp.le_refl _) ?_;intro i h1 hi hl1 k hk4;refine ze (λh2=>?_) (λ_=>hk3 _ _ hl1 rfl);have hi0:i=0:=by simp only at h2;omega
 subst hi0;refine(hp.le hl1).get 0 rfl (by simp) λx hx bx=>?_
 simp only[Ua]at hx bx;refine zd (λb h'=>b=false) (λK5 hk5=>?_) λb h' hl hb=>by subst hb;exact zr rfl (hk4 _ (by omega) (Hp.le_trans hl1 hl))
 unfold F.z6j;have hlens:=hx.lens bx;exact zcn (x:=x) hx.ar (by omega) (by omega) (λ_ h' hl _=>hk5 _ _ hl rfl) (λh' hl hn=>absurd ⟨q,hx⟩ hn)
theorem zcq(ht:t.len=0)(H:Kb true h):zc (F.z0j t) Kb h:=by
 refine zx _ (λK' hk=>?_) H;unfold F.z0j;refine yg (n:=0) (by omega) (λi h'=>h'=h) rfl ?_;rintro i h1 _ hh k _;rw[hh];refine ze (λh2=>?_) (λ_=>hk);exfalso;simp only at h2;rw[ht]at h2;omega
theorem z5n(ht:t.len=0)(hp:PL h B l [q])(hB:B<=1000000000000)(H:∀h',h.le h'->Kb true h'):zc (F.Vf t l) Kb h:=by
 refine zd (λb h'=>b=true) (λK' hk=>?_) λb h' hl hb=>by subst hb;exact H h' hl
 unfold F.Vf;refine zcq ht (Z4 rfl ⟨by omega,?_⟩);rw[Zen ht];exact zfy hp hB λh' hl=>hk _ _ hl rfl
theorem zfn(ht:t.len=0)(ha:PL h B a [p])(hb:PL h C b [q])(hB:B<=1000000000000)(hC:C<=1000000000000)(H:∀h',h.le h'->Kb true h'):zc (F.z1v t a b) Kb h:=by
 refine zd (λb h'=>b=true) (λK' hk=>?_) λb h' hl hb=>by subst hb;exact H h' hl
 unfold F.z1v;refine z5n ht ha hB λh1 hl1=>Z4 rfl ⟨by omega,?_⟩
 rw[Zen ht];exact zfy (hb.le hl1) hC λh' hl=>hk _ _ (Hp.le_trans hl1 hl) rfl
end
end Den
end

section
namespace Den
open Go Iv Lx
abbrev zQ:List Value:=[.bool false,.slice zf.a zf.len zf.cap,.bool false,.slice zf.a zf.len zf.cap]
theorem zhk(z:TRat):Zc (yn 1 zQ) (0*4) (qc z)=[z].flatMap qc:=rfl
section
variable {D h : Hp} {f : BM} {B C k : Nat} {t u a b l : Sl} {x y z : TRat} {p q : Rat} {X Y : TNumber} {Kb : Bool → Hp → Prop} {Ks : Sl → Hp → Prop} {KR : TRat → Hp → Prop} {KN : TNumber → Hp → Prop} {KE : TNumber × Int → Hp → Prop} {Ki : Int → Hp → Prop}
theorem PL.one(hx:NR h z q)(hq:BR B q)(hr:Rd h 4 l ([z].flatMap qc))(hc:l.len<=l.cap):PL h B l [q]:=by
 refine⟨[z],hr,⟨rfl,λk k1 k2=>?_⟩,hc⟩;have:k=0:=by simp at k1;omega
 subst this;exact⟨hx,hq⟩
theorem PL.hd(hp:PL h B l [q]):∃xs,RdQ h l xs/\∃hx:0<xs.length,NR h xs[0] q/\BR B q:=by
 obtain⟨xs,g1,g2,g3⟩:=hp;have hx0:0<xs.length:=by rw[g2.1];simp
 have:=g2.2 0 hx0 (by simp);exact⟨xs,g1,hx0,this.1,this.2⟩
theorem Z2j(ha:PL h B a [p])(hb:PL h C b [q])(hB:B<=400000000000)(hC:C<=400000000000)(H:∀y h',h.le h'->PL h' (B+C+1) y [p+q]->Ks y h'):zc (F.z3f a b) Ks h:=by
 refine zd (λy h'=>PL h' (B+C+1) y [p+q]) (λK' hk=>?_) λy h' hl hy=>H y h' hl hy
 unfold F.z3f;have h1l:a.len=1:=ha.len;obtain⟨xs,gx,hx0,hx,bx⟩:=ha.hd;obtain⟨ys,gy,hy0,hy,bY⟩:=hb.hd;rw[h1l];refine(Bk.start (h:=h)).mkF 1 1 rfl rfl (Ja _) (by omega) (by omega) λbm h1 hbm hDm hB1=>?_
 refine yg (n:=1) (by omega) (λi h'=>(i=0/\h'=h1)\/(0<i/\h.le h'/\PL h' (B+C+1) ⟨some ⟨bm,0,none⟩,1,1⟩ [p+q])) (.inl ⟨rfl,rfl⟩) ?_;rintro i h2 hi hI k hk2;refine ze (λh3=>?_) (λh3=>?_)
 . have hi0:i=0:=by have:(i:Int)<((1:Nat):Int):=h3;omega
   subst hi0;rcases hI with ⟨_,hh⟩ | ⟨hh,_⟩
   . rw[hh];refine zlg 0 (gx.le hB1.le) rfl hx0 (zlg 0 (gy.le hB1.le) rfl hy0 ?_);refine hB1.call (K1:=λz D'=>NR D' z (p+q)) (Z1u (x:=xs[0]) (y:=ys[0]) hx hy bx bY hB hC λz h' _ hz=>hz) λz D3 h3' hl3 hB3 hz=>?_
     have ho:OS (z1b zcg bm (yn 1 zQ)) 4 ⟨some ⟨bm,0,none⟩,1,1⟩ (yn 1 zQ):=OS.mk rfl (Ja _);refine ho.st (vs:=qc z) 0 hB3 rfl (by show 0<1;omega) rfl (by decide) rfl λf4 h4 hB4 ho4 _=>hk2 _ (by omega) (.inr ⟨by omega,Hp.le_trans hl3 hB4.le,?_⟩)
     rw[zhk]at ho4;exact PL.one (hz.le hB4.le) (bx.add bY) (ho4.rd hB4) (Ja _)
   . omega
 . rcases hI with ⟨rfl,_⟩ | ⟨_,g1,g2⟩
   . have:¬((0:Nat):Int)<((1:Nat):Int):=h3;omega
   . exact hk _ _ g1 g2
theorem zo5(ha:PL h B a [p])(hB:B<=400000000000)(H:∀y h',h.le h'->PL h' B y [-p]->Ks y h'):zc (F.z4y a) Ks h:=by
 refine zd (λy h'=>PL h' B y [-p]) (λK' hk=>?_) λy h' hl hy=>H y h' hl hy
 unfold F.z4y;have h1l:a.len=1:=ha.len;obtain⟨xs,gx,hx0,hx,bx⟩:=ha.hd;rw[h1l];refine(Bk.start (h:=h)).mkF 1 1 rfl rfl (Ja _) (by omega) (by omega) λbm h1 hbm hDm hB1=>?_
 refine yg (n:=1) (by omega) (λi h'=>(i=0/\h'=h1)\/(0<i/\h.le h'/\PL h' B ⟨some ⟨bm,0,none⟩,1,1⟩ [-p])) (.inl ⟨rfl,rfl⟩) ?_;rintro i h2 hi hI k hk2;refine ze (λh3=>?_) (λh3=>?_)
 . have hi0:i=0:=by have:(i:Int)<((1:Nat):Int):=h3;omega
   subst hi0;rcases hI with ⟨_,hh⟩ | ⟨hh,_⟩
   . rw[hh];refine zlg 0 (gx.le hB1.le) rfl hx0 ?_;refine hB1.call (K1:=λz D'=>NR D' z (-p)) (Z1w (x:=xs[0]) hx bx (by omega) λz h' _ hz=>hz) λz D3 h3' hl3 hB3 hz=>?_
     have ho:OS (z1b zcg bm (yn 1 zQ)) 4 ⟨some ⟨bm,0,none⟩,1,1⟩ (yn 1 zQ):=OS.mk rfl (Ja _);refine ho.st (vs:=qc z) 0 hB3 rfl (by show 0<1;omega) rfl (by decide) rfl λf4 h4 hB4 ho4 _=>hk2 _ (by omega) (.inr ⟨by omega,Hp.le_trans hl3 hB4.le,?_⟩)
     rw[zhk]at ho4;exact PL.one (hz.le hB4.le) bx.neg (ho4.rd hB4) (Ja _)
   . omega
 . rcases hI with ⟨rfl,_⟩ | ⟨_,g1,g2⟩
   . have:¬((0:Nat):Int)<((1:Nat):Int):=h3;omega
   . exact hk _ _ g1 g2
theorem Z2g(ht:t.len=0)(ha:PL h B a [p])(hb:PL h C b [q])(hB:B<=400000000000)(hC:C<=400000000000)(H:∀y h',h.le h'->PL h' (B+C) y [p*q]->Ks y h'):zc (F.z3e t a b) Ks h:=by
 refine zd (λy h'=>PL h' (B+C) y [p*q]) (λK' hk=>?_) λy h' hl hy=>H y h' hl hy
 unfold F.z3e;refine zfn ht ha hb (by omega) (by omega) λh1 hl1=>zr rfl ?_
 refine zd (λy h'=>PL h' (B+C) y [p*q]) (λK2 hk2=>?_) λy h' hl hy=>hk _ _ (Hp.le_trans hl1 hl) hy
 unfold F.z3g;refine⟨1,?_⟩;unfold F.Vr;refine zh (λ_ _=>False) (λ_ _ hh=>hh.elim) ?_;refine zu (λ_=>?_) (λhh=>absurd (by rw[ht];rfl) hh);refine(ha.le hl1).get 0 rfl (by simp) λx hx bx=>(hb.le hl1).get 0 rfl (by simp) λy hy bY=>?_
 simp only[Ua]at hx bx hy bY;refine znu (x:=x) (y:=y) hx hy bx bY hB hC λz h2 hl2 hz=>?_
 exact zzh hz (bx.mul bY) λA h3 hl3 hp=>hk2 _ _ (Hp.le_trans hl2 hl3) hp
theorem Z2i(ht:t.len=0)(ha:PL h B a [p])(hb:PL h C b [q])(hB:B<=400000000000)(hC:C<=400000000000)(H:∀y h',h.le h'->PL h' (B+C+1) y [p-q]->Ks y h'):zc (F.z9z t a b) Ks h:=by
 refine zd (λy h'=>PL h' (B+C+1) y [p-q]) (λK' hk=>?_) λy h' hl hy=>H y h' hl hy
 unfold F.z9z;refine zfn ht ha hb (by omega) (by omega) λh1 hl1=>zr rfl ?_
 refine zo5 (hb.le hl1) hC λy h2 hl2 hy=>?_
 refine Z2j (ha.le (Hp.le_trans hl1 hl2)) hy hB hC λw h3 hl3 hw=>hk _ _ (Hp.le_trans hl1 (Hp.le_trans hl2 hl3)) ?_
 rw[Rat.sub_eq_add_neg];exact hw
theorem zfe(hx:NQ h B X p)(hy:NQ h B Y q)(hB:B<=400000000000)(H:∀z h',h.le h'->NQ h' (B+B) z (p*q)->KE (z,0) h'):zc (F.z7t X Y) KE h:=by
 refine zd (λz h'=>z.2=0/\NQ h' (B+B) z.1 (p*q)) (λK' hk=>?_) λz h' hl hz=>?_
 . unfold F.z7t;refine zd (λz h'=>z.2=0/\NQ h' (B+B) z.1 (p*q)) (λK2 hk2=>?_) λz h' hl hz=>hk _ _ hl hz
   unfold F.Vl;refine zce (cells:=[X,Y].flatMap nc) 2 2 rfl λA h1 hl1 hr=>?_
   have hlr:LR nc 2 (NQP B) h1 ⟨some A,2,2⟩ [p,q]:=by
    refine⟨[X,Y],hr,Ja _,rfl,λk k1 k2=>?_⟩;have:k<2:=k1;rcases(by omega:k=0\/k=1)with rfl | rfl
    . exact hx.le hl1
    . exact hy.le hl1
   refine zgm hlr (by simp) (by omega) λy D h2 hD hlo=>?_
   have hle2:=Hp.le_trans hl1 (Hp.le_trans hD hlo.dle);have hy2:=hlo.lr (Xq B);refine Z2 (λhh=>absurd rfl hh) (λ_=>?_);refine hy2.get (Xq B) 0 rfl (by simp) λa3 U hU c3=>⟨U.radicands,c3 0 _ rfl,?_⟩
   refine hy2.get (Xq B) 0 rfl (by simp) λa5 V hV c5=>⟨V.coefs,c5 1 _ rfl,?_⟩
   refine hy2.get (Xq B) 1 rfl (by simp) λa7 Z hZ c7=>⟨Z.coefs,c7 1 _ rfl,?_⟩
   have hU:NQ h2 B U p:=hU;have hV:NQ h2 B V p:=hV;have hZ:NQ h2 B Z q:=hZ;exact Z2g hU.1 hV.2 hZ.2 hB hB λw h3 hl3 hw=>hk2 _ _ (Hp.le_trans hle2 hl3) ⟨rfl,hU.1,hw⟩
 . obtain⟨z,e⟩:=z;obtain⟨h1,h2⟩:=hz;simp only at h1;subst h1;exact H z h' hl h2
theorem zoo(hx:NQ h B X p)(hy:NQ h B Y q)(hB:B<=400000000000)(H:∀z h',h.le h'->NQ h' (B+B+1) z (p-q)->KE (z,0) h'):zc (F.zai X Y) KE h:=by
 refine zd (λz h'=>z.2=0/\NQ h' (B+B+1) z.1 (p-q)) (λK' hk=>?_) λz h' hl hz=>?_
 . unfold F.zai;refine zd (λz h'=>z.2=0/\NQ h' (B+B+1) z.1 (p-q)) (λK2 hk2=>?_) λz h' hl hz=>hk _ _ hl hz
   unfold F.Vm;refine zce (cells:=[X,Y].flatMap nc) 2 2 rfl λA h1 hl1 hr=>?_
   have hlr:LR nc 2 (NQP B) h1 ⟨some A,2,2⟩ [p,q]:=by
    refine⟨[X,Y],hr,Ja _,rfl,λk k1 k2=>?_⟩;have:k<2:=k1;rcases(by omega:k=0\/k=1)with rfl | rfl
    . exact hx.le hl1
    . exact hy.le hl1
   refine zgm hlr (by simp) (by omega) λy D h2 hD hlo=>?_
   have hle2:=Hp.le_trans hl1 (Hp.le_trans hD hlo.dle);have hy2:=hlo.lr (Xq B);refine Z2 (λhh=>absurd rfl hh) (λ_=>?_);refine hy2.get (Xq B) 0 rfl (by simp) λa3 U hU c3=>⟨U.radicands,c3 0 _ rfl,?_⟩
   refine hy2.get (Xq B) 0 rfl (by simp) λa5 V hV c5=>⟨V.coefs,c5 1 _ rfl,?_⟩
   refine hy2.get (Xq B) 1 rfl (by simp) λa7 Z hZ c7=>⟨Z.coefs,c7 1 _ rfl,?_⟩
   have hU:NQ h2 B U p:=hU;have hV:NQ h2 B V p:=hV;have hZ:NQ h2 B Z q:=hZ;exact Z2i hU.1 hV.2 hZ.2 hB hB λw h3 hl3 hw=>hk2 _ _ (Hp.le_trans hle2 hl3) ⟨rfl,hU.1,hw⟩
 . obtain⟨z,e⟩:=z;obtain⟨h1,h2⟩:=hz;simp only at h1;subst h1;exact H z h' hl h2
theorem zqk{c:Option Addr}(H:KN X h):zc (F.y_matrix_calc_take c X 0) KN h:=by
 refine zx _ (λK' hk=>?_) H;unfold F.y_matrix_calc_take;exact zh (λ_ h'=>h'=h) (λ_ h' hh=>Z2 (λhn=>absurd rfl hn) (λ_=>by rw[hh];exact hk)) (Z2 (λhn=>absurd rfl hn) (λ_=>rfl))
theorem zmx{c:Option Addr}(hx:NQ h B X p)(hy:NQ h B Y q)(hB:B<=400000000000)(H:∀z h',h.le h'->NQ h' (B+B) z (p*q)->KN z h'):zc (F.y_matrix_calc_mul c X Y) KN h:=by
 refine zd (λz h'=>NQ h' (B+B) z (p*q)) (λK' hk=>?_) λz h' hl hz=>H z h' hl hz
 unfold F.y_matrix_calc_mul;exact zfe hx hy hB λz h1 hl1 hz=>zqk (hk _ _ hl1 hz)
theorem Z0e{c:Option Addr}(hx:NQ h B X p)(hy:NQ h B Y q)(hB:B<=400000000000)(H:∀z h',h.le h'->NQ h' (B+B+1) z (p-q)->KN z h'):zc (F.y_matrix_calc_sub c X Y) KN h:=by
 refine zd (λz h'=>NQ h' (B+B+1) z (p-q)) (λK' hk=>?_) λz h' hl hz=>H z h' hl hz
 unfold F.y_matrix_calc_sub;exact zoo hx hy hB λz h1 hl1 hz=>zqk (hk _ _ hl1 hz)
theorem Ze7(q:Rat):((1:Int):Rat)/q=q⁻¹:=by rw[Rat.div_def];exact Rat.one_mul _
theorem Z0d{c:Option Addr}(hx:NQ h B X p)(hy:NQ h B Y q)(hB0:1<=B)(hB:B<=400000000000)(h0:q≠0)(H:∀z h',h.le h'->NQ h' (B+B) z (p/q)->KN z h'):zc (F.y_matrix_calc_div c X Y) KN h:=by
 refine zd (λz h'=>NQ h' (B+B) z (p/q)) (λK' hk=>?_) λz h' hl hz=>H z h' hl hz
 have hn0:q.num≠0:=λhh=>h0 (Rat.num_eq_zero.1 hh)
 unfold F.y_matrix_calc_div;refine zd (λz h'=>z.2=0/\NQ h' (B+B) z.1 (p/q)) (λK2 hk2=>?_) λz h' hl hz=>?_
 . unfold F.zeu;refine zd (λr h'=>r.2=0/\PL h' B r.1 [q⁻¹]) (λK3 hk3=>?_) λr h1 hl1 hr=>?_
   . unfold F.zhm;refine z5n hy.1 hy.2 (by omega) λh1 hl1=>zr rfl ?_
     refine zd (λr h'=>r.2=true/\PL h' B r.1 [q⁻¹]) (λK4 hk4=>?_) λr h2 hl2 hr=>?_
     . unfold F.z9d;refine⟨1,?_⟩;unfold F.V4;refine zu (λ_=>?_) (λhh=>absurd (by rw[hy.1];rfl) hh);refine(hy.2.le hl1).get 0 rfl (by simp) λx hx bx=>?_
       simp only[Ua]at hx bx;refine z2l (by decide) (by decide) λo h2 hl2 ho=>?_
       refine Z1v (y:=x) ho (hx.le hl2) Zhx bx (by decide) hB hn0 λz h3 hl3 hz=>?_
       rw[Ze7]at hz;exact zzh hz (bx.inv hn0) λA h4 hl4 hp=>hk4 _ _ (Hp.le_trans hl2 (Hp.le_trans hl3 hl4)) ⟨rfl,hp⟩
     . rw[hr.1];exact zr rfl (hk3 _ _ (Hp.le_trans hl1 hl2) ⟨rfl,hr.2⟩)
   . obtain⟨r,e⟩:=r;obtain⟨e1,e2⟩:=hr;simp only at e1 e2;subst e1;refine Z2 (λhh=>absurd rfl hh) (λ_=>?_);have:p/q=p*q⁻¹:=Rat.div_def p q;refine zfe (Y:=⟨Y.radicands,r⟩) (q:=q⁻¹) (hx.le hl1) ⟨hy.1,e2⟩ hB λz h2 hl2 hz=>hk2 _ _ (Hp.le_trans hl1 hl2) ⟨rfl,by rw[this];exact hz⟩
 . obtain⟨z,e⟩:=z;obtain⟨e1,e2⟩:=hz;simp only at e1 e2;subst e1;exact zqk (hk _ _ hl e2)
theorem Z2h(hx:NQ h B X p)(hB:B<=400000000000)(H:∀z h',h.le h'->NQ h' B z (-p)->KN z h'):zc (F.zah X) KN h:=by
 refine zd (λz h'=>NQ h' B z (-p)) (λK' hk=>?_) λz h' hl hz=>H z h' hl hz
 unfold F.zah;refine zi1 hx (by omega) λz h1 hl1 hz=>?_
 refine zd (λy h'=>PL h' B y [-p]) (λK2 hk2=>?_) λy h2 hl2 hy=>hk _ _ (Hp.le_trans hl1 hl2) ⟨hz.1,hy⟩
 unfold F.zhn;refine z5n hz.1 hz.2 (by omega) λh2 hl2=>zr rfl ?_
 exact zo5 (hz.2.le hl2) hB λy h3 hl3 hy=>hk2 _ _ (Hp.le_trans hl2 hl3) hy
theorem zu0(H:∀y h',Own h h' 4 y (yn 1 zQ)\/(∃z,Own h h' 4 y ([z].flatMap qc))->Ks y h'):zc (F.z3h 1) Ks h:=by
 refine zd (λy h'=>∃z,Own h h' 4 y ([z].flatMap qc)) (λK' hk=>?_) λy h' _ hy=>H y h' (.inr hy)
 unfold F.z3h;refine(Bk.start (h:=h)).mkF 1 1 rfl rfl (Ja _) (by omega) (by omega) λbm h1 hbm hDm hB1=>?_
 refine yg (n:=1) (by omega) (λi h'=>(i=0/\h'=h1)\/(0<i/\∃z,Own h h' 4 ⟨some ⟨bm,0,none⟩,1,1⟩ ([z].flatMap qc))) (.inl ⟨rfl,rfl⟩) ?_;rintro i h2 hi hI k hk2;refine ze (λh3=>?_) (λh3=>?_)
 . have hi0:i=0:=by have:(i:Int)<((1:Nat):Int):=h3;omega
   subst hi0;rcases hI with ⟨_,hh⟩ | ⟨hh,_⟩
   . rw[hh];refine z2l (by decide) (by decide) λz h3' hl3 hz=>?_
     have hB3:=hB1.mono hl3;have ho:OS (z1b zcg bm (yn 1 zQ)) 4 ⟨some ⟨bm,0,none⟩,1,1⟩ (yn 1 zQ):=OS.mk rfl (Ja _);refine ho.st (vs:=qc z) 0 hB3 rfl (by show 0<1;omega) rfl (by decide) rfl λf4 h4 hB4 ho4 _=>hk2 _ (by omega) (.inr ⟨by omega,z,?_⟩)
     rw[zhk]at ho4;exact ho4.own hB4
   . omega
 . rcases hI with ⟨rfl,_⟩ | ⟨_,z,g2⟩
   . have:¬((0:Nat):Int)<((1:Nat):Int):=h3;omega
   . exact hk _ _ g2.1 ⟨z,g2⟩
theorem Z09(ht:t.len=0)(H:∀h',h.le h'->Kb true h'):zc (F.zdw t) Kb h:=by
 refine zd (λb h'=>b=true) (λK' hk=>?_) λb h' hl hb=>by subst hb;exact H h' hl
 unfold F.zdw;refine z2l (by decide) (by decide) λo h1 hl1 ho=>?_
 have bo:=zob (n:=0) (by decide) (by decide);refine zd (λy h'=>PL h' 2 y [((0:Int):Rat)]) (λK2 hk2=>?_) λy h2 hl2 hy=>?_
 . unfold F.z5l;refine zh (λ_ h'=>h1.le h') ?_ ?_
   . rintro _ h2 hl2;rw[Zen ht];refine⟨by omega,zu0 λy h3 hy=>?_⟩;have fin:∀cs,cs.length=4->Own h2 h3 4 y cs->zg y 0 4 λa4=>stP a4 (qc o) (λh3=>K2 y h3) h3:=λcs hcs hO=>by
      obtain⟨f3,hB3,hos⟩:=hO.bk;have hyl:y.len=1:=by have:=hO.2.1;rw[hcs]at this;omega
      refine hos.st (vs:=qc o) 0 hB3 rfl (by omega) rfl (by decide) rfl λf4 h4 hB4 ho4 _=>hk2 _ _ (Hp.le_trans hl2 hB4.le) ?_
      have e:Zc cs (0*4) (qc o)=[o].flatMap qc:=by
       unfold Zc;rw[Pn,List.take_zero,Tf,Gi,zx0,List.drop_of_length_le (by omega)];rfl
      rw[e]at ho4;exact PL.one ((ho.le hl2).le hB4.le) bo (ho4.rd hB4) ho4.2.1
     rcases hy with hy | ⟨z,hy⟩
     . exact fin _ rfl hy
     . exact fin _ rfl hy
   . refine zcq ht (zr rfl ?_);have hlens:=ho.lens bo;exact zcn ho.ar (by omega) (by omega) (λ_ h' hl _=>zr rfl hl) (λh' hl hn=>absurd ⟨_,ho⟩ hn)
 . refine z5n ht hy (by decide) λh3 hl3=>zr rfl ?_
   have hle:=Hp.le_trans hl1 (Hp.le_trans hl2 hl3);refine yg (n:=0) (by omega) (λi h'=>h'=h3) rfl ?_;rintro i h4 _ hh k _;rw[hh];refine ze (λh5=>?_) (λ_=>hk _ _ hle rfl);exfalso;simp only at h5;rw[ht]at h5;omega
theorem zer(hx:NQ h B X p)(hB:B<=400000000000)(H:∀h',h.le h'->Ki p.num.sign h'):zc (F.z38 X) Ki h:=by
 refine zd (λr h'=>r=p.num.sign) (λK' hk=>?_) λr h' hl hr=>by subst hr;exact H h' hl
 unfold F.z38;refine zd (λr h'=>r=p.num.sign) (λK2 hk2=>?_) λr h' hl hr=>hk _ _ hl hr
 unfold F.zhh;refine Ww λp1 h1 hl1 c1=>?_
 refine zd (λb h'=>b=true) (λK3 hk3=>?_) λb h2 hl2 hb=>?_
 . unfold F.zhi;refine yg (n:=1) (by omega) (λi h'=>h1.le h') (Hp.le_refl _) ?_;intro i h2 hi hl2 k hk4;refine ze (λh3=>?_) (λ_=>?_)
   . have hi0:i=0:=by have:(i:Int)<((1:Nat):Int):=h3;omega
     subst hi0;refine⟨by omega,h3,?_⟩;show Ye (some p1) _;simp only[Ye];have e0:(((0:Nat):Int).toNat*1)=0:=rfl;rw[e0,Zw];refine⟨X.coefs,Hp.cell_le hl2 c1,?_⟩;refine z5n hx.1 (hx.2.le (Hp.le_trans hl1 hl2)) (by omega) λh4 hl4=>zr rfl (hk4 _ (by omega) (Hp.le_trans hl2 hl4))
   . exact Z09 hx.1 λh' hl=>hk3 _ _ (Hp.le_trans hl2 hl) rfl
 . subst hb;refine zr rfl ?_;have hle:=Hp.le_trans hl1 hl2;refine zd (λr h'=>r=p.num.sign) (λK3 hk3=>?_) λr h' hl hr=>hk2 _ _ (Hp.le_trans hle hl) hr
   unfold F.zb0;refine⟨1,?_⟩;unfold F.V6;refine zu (λ_=>?_) (λhh=>absurd (by rw[hx.1];rfl) hh);refine(hx.2.le hle).get 0 rfl (by simp) λx hx bx=>?_
   simp only[Ua]at hx bx;exact zla (x:=x) hx bx (by omega) (hk3 _ _ (Hp.le_refl _) rfl)
end
end Den
end

section
namespace Den
open Go Iv Lx
def zbl(bl o c:Nat):Sl:=⟨some ⟨bl,o,none⟩,c,c⟩
structure MX(D:Hp)(f:BM)(B:Nat->Nat->Nat)(m:Sl)(r c bo bl:Nat)(σ:Nat->Nat)(M:Nat->Nat->Rat):Prop where
 em:m=⟨some ⟨bo,0,none⟩,r,r⟩
 ne:bo≠bl
 out:f bo=some ((Jp r).map λi=>slV (zbl bl (σ i*c*2) c))
 lt:∀i,i<r->σ i<r
 inj:∀i j,i<r->j<r->σ i=σ j->i=j
 cells:∃cs,f bl=some cs/\r*c*2<=cs.length/\∀i j,i<r->j<c->∃x,NQ D (B i j) x (M i j)/\cs[σ i*c*2+j*2]?=some (.slice x.radicands.a x.radicands.len x.radicands.cap)/\cs[σ i*c*2+j*2+1]?=some (.slice x.coefs.a x.coefs.len x.coefs.cap)
theorem z89{cs vs:List Value}{o i:Nat}(h:o+vs.length<=cs.length):(Zc cs o vs)[i]?=if o<=i/\i<o+vs.length then vs[i-o]? else cs[i]?:=by
 unfold Zc;by_cases h1:i<o
 . rw[if_neg (by omega),Uq,Uh (by simp;omega),List.getElem?_take,if_pos h1]
 . by_cases h2:i<o+vs.length
   . rw[if_pos ⟨by omega,h2⟩,Uq,Uz (by simp;omega),Uh (by simp;omega)];congr 1;simp;omega
   . rw[if_neg (by omega),Uz (by simp;omega),Gy];congr 1;simp;omega
theorem Zk3{r c a j:Nat}(ha:a<r)(hj:j<c):a*c*2+j*2+2<=r*c*2:=by
 have h1:(a+1)*c<=r*c:=Jj _ ha;rw[Js]at h1;omega
theorem Zej{a b c j l:Nat}(hj:j<c)(hl:l<c)(h:a*c*2+j*2=b*c*2+l*2):a=b/\j=l:=by
 have h1:a*c+j=b*c+l:=by omega
 rcases Nat.lt_trichotomy a b with h2 | h2 | h2
 . have:(a+1)*c<=b*c:=Jj _ h2;rw[Js]at this;omega
 . subst h2;exact⟨rfl,by omega⟩
 . have:(b+1)*c<=a*c:=Jj _ h2;rw[Js]at this;omega
section
variable {D h D' : Hp} {f f' : BM} {B B' : Nat → Nat → Nat} {m : Sl} {r c bo bl : Nat} {σ : Nat → Nat} {M M' : Nat → Nat → Rat}
theorem MX.weak(mx:MX D f B m r c bo bl σ M)(hB:∀i j,i<r->j<c->B i j<=B' i j)(hM:∀i j,i<r->j<c->M i j=M' i j):MX D f B' m r c bo bl σ M':=by
 obtain⟨h1,h2,h3,h4,h5,cs,h6,h7,h8⟩:=mx;refine⟨h1,h2,h3,h4,h5,cs,h6,h7,λi j hi hj=>?_⟩;obtain⟨x,g1,g2⟩:=h8 i j hi hj;exact⟨x,by rw[<-hM i j hi hj];exact g1.mono (hB i j hi hj),g2⟩
theorem MX.mono(mx:MX D f B m r c bo bl σ M)(hl:D.le D'):MX D' f B m r c bo bl σ M:=by
 obtain⟨h1,h2,h3,h4,h5,cs,h6,h7,h8⟩:=mx;refine⟨h1,h2,h3,h4,h5,cs,h6,h7,λi j hi hj=>?_⟩;obtain⟨x,g1,g2⟩:=h8 i j hi hj;exact⟨x,g1.le hl,g2⟩
theorem MX.other(mx:MX D f B m r c bo bl σ M)(h1:f' bo=f bo)(h2:f' bl=f bl):MX D f' B m r c bo bl σ M:=by
 obtain⟨k1,k2,k3,k4,k5,cs,k6,k7,k8⟩:=mx;exact⟨k1,k2,by rw[h1];exact k3,k4,k5,cs,by rw[h2];exact k6,k7,k8⟩
theorem MX.ino(mx:MX D f B m r c bo bl σ M):f bo≠none:=by rw[mx.out];simp
theorem MX.inl(mx:MX D f B m r c bo bl σ M):f bl≠none:=by obtain⟨cs,h,_⟩:=mx.cells;rw[h];simp
theorem MX.row(mx:MX D f B m r c bo bl σ M)(hB:Bk D h f){z:Int}(i:Nat)(hz:z=i)(hi:i<r){K:Sl->Prop}(H:K (zbl bl (σ i*c*2) c)):zg m z 1 λa=>ldL (.sl) a K h:=by
 subst hz;rw[mx.em];refine zh6 hi ?_;refine hB.ld (l:=.sl) (x:=zbl bl (σ i*c*2) c) mx.out ?_ H;rw[Uw,P8 hi];rfl
theorem MX.get(mx:MX D f B m r c bo bl σ M)(hB:Bk D h f){z:Int}(i j:Nat)(hz:z=j)(hi:i<r)(hj:j<c){K:Addr->Prop}
 (H:∀a (x:TNumber),NQ D (B i j) x (M i j)->h.cell (a.add 0)=some (.slice x.radicands.a x.radicands.len x.radicands.cap)->h.cell (a.add 1)=some (.slice x.coefs.a x.coefs.len x.coefs.cap)->K a):zg (zbl bl (σ i*c*2) c) z 2 K:=by
 subst hz;obtain⟨cs,h6,h7,h8⟩:=mx.cells;obtain⟨x,g1,g2,g3⟩:=h8 i j hi hj;refine zkg hj (H _ x g1 ?_ ?_)
 . rw[z2p,Uy];exact hB.cell h6 g2
 . rw[z2p];exact hB.cell h6 g3
def zyf{α:Type}(M:Nat->Nat->α)(i j:Nat)(v:α):Nat->Nat->α:=λa b=>if a=i/\b=j then v else M a b
theorem MX.set(mx:MX D f B m r c bo bl σ M)(hB:Bk D h f){z:Int}(i j:Nat)(hz:z=j)(hi:i<r)(hj:j<c){K:Hp->Prop}{y:TNumber}{b:Nat}{q:Rat}(hy:NQ D b y q)
 (H:∀f' h',Bk D h' f'->MX D f' (zyf B i j b) m r c bo bl σ (zyf M i j q)->(∀k,k≠bl->f' k=f k)->K h'):zg (zbl bl (σ i*c*2) c) z 2 λa=>stP a (nc y) K h:=by
 subst hz;obtain⟨k1,k2,k3,k4,k5,cs,h6,h7,h8⟩:=mx;have hlt:=Zk3 (k4 i hi) hj;have hlen:σ i*c*2+j*2+(nc y).length<=cs.length:=by show _+2<=_;omega
 refine zkg hj (hB.st h6 hlen rfl λh' hB'=>H _ h' hB' ⟨k1,k2,by rw[Q7 k2];exact k3,k4,k5,_,Z9,by rw[Yj hlen];exact h7,λa l ha hl=>?_⟩ λk hk=>Q7 hk);unfold zyf;rw[z89 hlen,z89 hlen];by_cases hal:a=i/\l=j
 . obtain⟨rfl,rfl⟩:=hal;rw[if_pos ⟨rfl,rfl⟩,if_pos ⟨rfl,rfl⟩];refine⟨y,hy,?_,?_⟩
   . rw[if_pos ⟨Ja _,by show _<_+2;omega⟩,Nat.sub_self];rfl
   . rw[if_pos ⟨by omega,by show _<_+2;omega⟩,To];rfl
 . rw[if_neg hal,if_neg hal];have hne:σ a*c*2+l*2≠σ i*c*2+j*2:=λhh=>by
    obtain⟨e1,e2⟩:=Zej hl hj hh;exact hal ⟨k5 a i ha hi e1,e2⟩
   obtain⟨x,g1,g2,g3⟩:=h8 a l ha hl;refine⟨x,g1,?_,?_⟩
   . rw[if_neg (by show ¬(_/\_<_+2);omega)];exact g2
   . rw[if_neg (by show ¬(_/\_<_+2);omega)];exact g3
def zd0(a b i:Nat):Nat:=if i=a then b else if i=b then a else i
theorem zgc{a b i r:Nat}(ha:a<r)(hb:b<r)(hi:i<r):zd0 a b i<r:=by
 unfold zd0;split
 . exact hb
 . split
   . exact ha
   . exact hi
theorem Z2d{a b i j:Nat}(h:zd0 a b i=zd0 a b j):i=j:=by
 unfold zd0 at h;split at h<;>split at h<;>(try split at h)<;>(try split at h)<;>omega
theorem MX.swap(mx:MX D f B m r c bo bl σ M)(hB:Bk D h f){z w:Int}(k i:Nat)(hz:z=k)(hw:w=i)(hk:k<r)(hi:i<r){K:Hp->Prop}
 (H:∀f' h',Bk D h' f'->MX D f' (λa j=>B (zd0 k i a) j) m r c bo bl (λa=>σ (zd0 k i a)) (Tq.swapM M k i)->(∀b,b≠bo->f' b=f b)->K h') :
 zg m z 1 λa=>stP a [slV (zbl bl (σ i*c*2) c)] (λh1=>zg m w 1 λa=>stP a [slV (zbl bl (σ k*c*2) c)] K h1) h:=by
 subst hz hw;obtain⟨k1,k2,k3,k4,k5,cs,h6,h7,h8⟩:=mx;rw[k1];have hl1:((Jp r).map λi=>slV (zbl bl (σ i*c*2) c)).length=r:=by simp
 refine zh6 hk (hB.st k3 (by rw[hl1];exact hk) rfl λh1 hB1=>zh6 hi (hB1.st Z9 (by rw[Yj (by rw[hl1];exact hk),hl1];exact hi) rfl λh2 hB2=>?_));rw[zhp]at hB2;refine H _ h2 hB2 ⟨k1,k2,?_,λa ha=>k4 _ (zgc hk hi ha),λa b ha hb hh=>Z2d (k5 _ _ (zgc hk hi ha) (zgc hk hi hb) hh),cs,by rw[Q7 (λhh=>k2 hh.symm)];exact h6,h7,λa j ha hj=>?_⟩ λb hb=>Q7 hb
 . rw[Z9];congr 1;refine List.ext_getElem? λa=>?_
   have hs:∀{o:Nat} {vs:List Value},o+1<=r->vs.length=1->(Zc ((Jp r).map λi=>slV (zbl bl (σ i*c*2) c)) o vs).length=r:=λho hv=>by rw[Yj (by rw[hl1,hv];exact ho),hl1]
   rw[z89 (by rw[hs hk rfl];exact hi),z89 (by rw[hl1];exact hk)];simp only[Uw,Gr];rcases Jo a r with ha | ha
   . rw[P8 ha,U0,U0];unfold zd0;by_cases e1:a=i
     . subst e1;rw[if_pos ⟨Ja _,by omega⟩,Nat.sub_self];by_cases e2:a=k
       . subst e2;rw[if_pos rfl];rfl
       . rw[if_neg e2,if_pos rfl];rfl
     . rw[if_neg (by omega)];by_cases e2:a=k
       . subst e2;rw[if_pos ⟨Ja _,by omega⟩,Nat.sub_self,if_pos rfl];rfl
       . rw[if_neg (by omega),if_neg e2,if_neg e1]
   . rw[if_neg (by omega),if_neg (by omega),J5 (by simpa using ha)];rfl
 . obtain⟨x,g1,g2⟩:=h8 (zd0 k i a) j (zgc hk hi ha) hj;have e:Tq.swapM M k i a j=M (zd0 k i a) j:=by
    unfold Tq.swapM zd0;split
    . rfl
    . split<;>rfl
   exact⟨x,by rw[e];exact g1,g2⟩
end
end Den
end

section
namespace Den
open Go Iv Lx
theorem Za9{q:Rat}:(q.num.sign≠0)↔q≠0:=by
 constructor
 . intro h hh;subst hh;exact h rfl
 . intro h hh;exact h (Rat.num_eq_zero.1 (Int.sign_eq_zero_iff_zero.1 hh))
section
variable {D h : Hp} {f : BM} {B : Nat → Nat → Nat} {m : Sl} {r c bo bl : Nat} {σ : Nat → Nat} {M : Nat → Nat → Rat} {L : Nat}
theorem zwd(mx:MX D f B m r c bo bl σ M)(hB:Bk D h f){p9:Addr}{k i:Nat}(hp:h.cell p9=some (.int .i64 (k:Int)))(hi:i<r)(hk:k<c)(hb:B i k<=400000000000){Kb:Bool->Hp->Prop}
 (H:∀h',h.le h'->Kb (decide (M i k≠0)) h'):zc (F.z05 (zbl bl (σ i*c*2) c) (some p9)) Kb h:=by
 refine zd (λb h'=>b=decide (M i k≠0)) (λK' hk'=>?_) λb h' hl hb=>by rw[hb];exact H h' hl
 unfold F.z05;show Ye (some p9) _;simp only[Ye];refine⟨(k:Int),hp,mx.get hB i k rfl hi hk λa x hx c0 c1=>⟨x.radicands,c0,x.coefs,c1,?_⟩⟩;refine zer (X:=⟨x.radicands,x.coefs⟩) (hx.le hB.le) hb λh1 hl1=>hk' _ _ hl1 ?_
 by_cases h0:M i k=0
 . rw[h0];rfl
 . have:=(Za9 (q:=M i k)).2 h0;simp only[ne_eq,h0,not_false_iff,decide_true,bne_iff_ne,this]
theorem Z17(mx:MX D f B m r c bo bl σ M)(hB:Bk D h f){p9:Addr}{k:Nat}(hp:h.cell p9=some (.int .i64 (k:Int)))(hkr:k<r)(hk:k<c)(hr:r<=1000000)(hb:∀i,i<r->B i k<=400000000000)(hex:∃i,k<=i/\i<r/\M i k≠0){Ki:Int->Hp->Prop}
 (H:∀t h',h.le h'->k+t<r->M (k+t) k≠0->Ki (t:Int) h'):zc (F.Zn (m.cut k r 1) ((some p9),())) Ki h:=by
 refine zd (λz h'=>∃t:Nat,z=(t:Int)/\k+t<r/\M (k+t) k≠0) (λK' hk'=>?_) λz h' hl hz=>by obtain⟨t,rfl,h1,h2⟩:=hz;exact H t h' hl h1 h2
 unfold F.Zn;have hlen:(m.cut k r 1).len=r-k:=rfl;have hcut:m.cut k r 1=⟨some ⟨bo,k*1,none⟩,r-k,r-k⟩:=by
  rw[mx.em];unfold Sl.cut;rw[if_neg (by show ¬r=k;omega)];show(⟨some ((⟨bo,0,none⟩:Addr).add (k*1)),r-k,r-k⟩:Sl)=_;rw[z2p,Gi]
 refine yg (n:=r-k) (by omega) (λi h'=>h.le h'/\∀j,j<i->M (k+j) k=0) ⟨Hp.le_refl _,λj hj=>by omega⟩ ?_;rintro i h1 hi ⟨hl1,hz⟩ kk hkk;refine ze (λh2=>?_) (λh2=>?_)
 . have hi':i<r-k:=by rw[hlen]at h2;simp only at h2;omega
   have hB1:=hB.mono hl1;rw[hcut];refine zkg hi' ?_;refine hB1.ld (l:=.sl) (x:=zbl bl (σ (k+i)*c*2) c) mx.out ?_ ?_
   . rw[Uw,P8 (by omega),J7,J7];rfl
   . refine zwd mx hB1 (Hp.cell_le hl1 hp) (by omega) hk (hb _ (by omega)) λh3 hl3=>?_
     refine ze (λh4=>hk' _ _ (Hp.le_trans hl1 hl3) ⟨i,rfl,by omega,h4⟩) (λh4=>hkk _ hi' ⟨Hp.le_trans hl1 hl3,λj hj=>?_⟩);by_cases hji:j=i
     . subst hji;exact Jy h4
     . exact hz j (by omega)
 . exfalso;obtain⟨i',g1,g2,g3⟩:=hex;have:i=r-k:=by rw[hlen]at h2;simp only at h2;omega
   have:=hz (i'-k) (by omega);rw[show k+(i'-k)=i' by omega]at this;exact g3 this
theorem zqg(mx:MX D f B m r c bo bl σ M)(hB:Bk D h f){cc:Option Addr}{X:TNumber}{p:Rat}{k i:Nat}(hX:NQ D L X p)(hi:i<r)(hkr:k<r)(hik:i≠k)(hkc:k<=c)(hcc:c<=1000000)(hL1:1<=L)(hL:L<=100000000000)
 (hbi:∀j,j<c->B i j<=L) (hbk:∀j,j<c->B k j<=L) {K:Unit->Hp->Prop}
 (H:∀D' f' h',D.le D'->Bk D' h' f'->MX D' f' (λa j=>if a=i/\k<=j then 5*L else B a j) m r c bo bl σ (λa j=>if a=i/\k<=j then M i j-p*M k j else M a j)->(∀b,b≠bl->f' b=f b)->K () h'):F.y_matrix_calc_subtract cc (zbl bl (σ i*c*2) c) (zbl bl (σ k*c*2) c) X (k:Int) K h:=by
 unfold F.y_matrix_calc_subtract;have hlen:(zbl bl (σ k*c*2) c).len=c:=rfl;refine zdk (n:=c) (m:=k) rfl (by omega) (λs h'=>∃D' f',D.le D'/\Bk D' h' f'/\MX D' f' (λa j=>if a=i/\k<=j/\j<s then 5*L else B a j) m r c bo bl σ (λa j=>if a=i/\k<=j/\j<s then M i j-p*M k j else M a j)/\∀b,b≠bl->f' b=f b)
  ⟨D,f,Hp.le_refl _,hB,mx.weak (λa j _ _=>by rw[if_neg (by omega)];exact Ja _) (λa j _ _=>by rw[if_neg (by omega)]),λ_ _=>rfl⟩ ?_
 rintro s h1 hs ⟨D1,f1,hD1,hB1,mx1,hf1⟩ kk hkk;refine ze (λh2=>?_) (λh2=>?_)
 . have hs':s<c:=by rw[hlen]at h2;simp only at h2;omega
   obtain⟨J,hJ⟩:∃J:Unit->Hp->Prop,∀u h',J u h'↔∃D' f',D.le D'/\Bk D' h' f'/\MX D' f' (λa j=>if a=i/\k<=j/\j<s+1 then 5*L else B a j) m r c bo bl σ (λa j=>if a=i/\k<=j/\j<s+1 then M i j-p*M k j else M a j)/\∀b,b≠bl->f' b=f b:=⟨_,λ_ _=>Pc⟩;refine zh J (λu h' hu=>hkk _ hs' ((hJ u h').1 hu)) ?_;refine mx1.get hB1 k s rfl hkr hs' λa5 x hx c0 c1=>⟨x.radicands,c0,x.coefs,c1,?_⟩
   simp only[if_neg (show ¬(k=i/\k<=s/\s<s)by omega)]at hx;have hx2:=hx.mono (hbk s hs');refine hB1.call (K1:=λz D'=>z=(M k s).num.sign) (zer (X:=⟨x.radicands,x.coefs⟩) hx2 (by omega) λ_ _=>rfl) λz D3 h3 hl3 hB3 hz=>?_
   subst hz;have mx3:=mx1.mono hl3;refine Z2 (λhn=>?_) (λh0=>?_)
   . refine mx3.get hB3 i s rfl hi hs' λa8 y hy d0 d1=>⟨y.radicands,d0,y.coefs,d1,?_⟩
     have hy:NQ D3 (if i=i/\k<=s/\s<s then 5*L else B i s) y (if i=i/\k<=s/\s<s then M i s-p*M k s else M i s):=hy;rw[if_neg (show ¬(i=i/\k<=s/\s<s)by omega),if_neg (show ¬(i=i/\k<=s/\s<s)by omega)]at hy;have hy2:=hy.mono (show B i s<=L+L by have:=hbi s hs';omega);refine mx3.get hB3 k s rfl hkr hs' λa10 w hw e0 e1=>⟨w.radicands,e0,w.coefs,e1,?_⟩
     simp only[if_neg (show ¬(k=i/\k<=s/\s<s)by omega)]at hw;refine hB3.call (K1:=λz D'=>NQ D' (L+L) z (p*M k s)) (zmx (Y:=⟨w.radicands,w.coefs⟩) (hX.le (Hp.le_trans hD1 hl3)) (hw.mono (hbk s hs')) (by omega) λz h' _ hz=>hz) λz D4 h4 hl4 hB4 hz=>?_
     refine hB4.call (K1:=λz D'=>NQ D' (L+L+(L+L)+1) z (M i s-p*M k s)) (Z0e (X:=⟨y.radicands,y.coefs⟩) (hy2.le hl4) hz (by omega) λz h' _ hz=>hz) λv D5 h5 hl5 hB5 hv=>?_
     refine(mx3.mono (Hp.le_trans hl4 hl5)).set hB5 i s rfl hi hs' (hv.mono (show _<=5*L by omega)) λf6 h6 hB6 mx6 hf6=>(hJ _ _).2 ⟨D5,f6,Hp.le_trans hD1 (Hp.le_trans hl3 (Hp.le_trans hl4 hl5)),hB6,mx6.weak (λa j _ _=>?_) (λa j _ _=>?_),λb hb=>(hf6 b hb).trans (hf1 b hb)⟩
     . unfold zyf;by_cases e:a=i/\j=s
       . rw[if_pos e,if_pos (by omega)];exact Ja _
       . rw[if_neg e];show(if a=i/\k<=j/\j<s then 5*L else B a j)<=(if a=i/\k<=j/\j<s+1 then 5*L else B a j);by_cases e2:a=i/\k<=j/\j<s
         . rw[if_pos e2,if_pos (by omega)];exact Ja _
         . rw[if_neg e2,if_neg (by omega)];exact Ja _
     . unfold zyf;by_cases e:a=i/\j=s
       . rw[if_pos e,if_pos (by omega),e.2]
       . rw[if_neg e];show(if a=i/\k<=j/\j<s then M i j-p*M k j else M a j)=(if a=i/\k<=j/\j<s+1 then M i j-p*M k j else M a j);by_cases e2:a=i/\k<=j/\j<s
         . rw[if_pos e2,if_pos (by omega)]
         . rw[if_neg e2,if_neg (by omega)]
   . have h00:M k s=0:=Rat.num_eq_zero.1 (Int.sign_eq_zero_iff_zero.1 h0);refine(hJ _ _).2 ⟨D3,f1,Hp.le_trans hD1 hl3,hB3,mx3.weak (λa j _ _=>?_) (λa j _ _=>?_),hf1⟩
     . show(if a=i/\k<=j/\j<s then 5*L else B a j)<=(if a=i/\k<=j/\j<s+1 then 5*L else B a j);by_cases e2:a=i/\k<=j/\j<s
       . rw[if_pos e2,if_pos (by omega)];exact Ja _
       . rw[if_neg e2];by_cases e3:a=i/\k<=j/\j<s+1
         . rw[if_pos e3,e3.1];rename_i hj;have:=hbi j hj;omega
         . rw[if_neg e3];exact Ja _
     . show(if a=i/\k<=j/\j<s then M i j-p*M k j else M a j)=(if a=i/\k<=j/\j<s+1 then M i j-p*M k j else M a j);by_cases e2:a=i/\k<=j/\j<s
       . rw[if_pos e2,if_pos (by omega)]
       . rw[if_neg e2];by_cases e3:a=i/\k<=j/\j<s+1
         . have:j=s:=by omega
           rw[if_pos e3,e3.1,this,h00,Rat.mul_zero]
           grind
         . rw[if_neg e3]
 . have hsc:c<=s:=by rw[hlen]at h2;simp only at h2;omega
   exact H D1 f1 h1 hD1 hB1 (mx1.weak (λa j _ hj=>by
    show(if a=i/\k<=j/\j<s then 5*L else B a j)<=(if a=i/\k<=j then 5*L else B a j);by_cases e:a=i/\k<=j
    . rw[if_pos ⟨e.1,e.2,by omega⟩,if_pos e];exact Ja _
    . rw[if_neg (λhh=>e ⟨hh.1,hh.2.1⟩),if_neg e];exact Ja _) (λa j _ hj=>by
    show(if a=i/\k<=j/\j<s then M i j-p*M k j else M a j)=(if a=i/\k<=j then M i j-p*M k j else M a j);by_cases e:a=i/\k<=j
    . rw[if_pos ⟨e.1,e.2,by omega⟩,if_pos e]
    . rw[if_neg (λhh=>e ⟨hh.1,hh.2.1⟩),if_neg e])) hf1
end
end Den
end

section
namespace Den
open Go Iv Lx
def Bq(k:Nat):Nat:=2*10 ^ k
theorem zyi(k:Nat):Bq (k+1)=10*Bq k:=by unfold Bq;rw[Nat.pow_succ];omega
theorem Zpf{k:Nat}(h:k<=10):1<=Bq k/\Bq k<=20000000000:=by
 unfold Bq;have h1:10 ^ k<=10 ^ 10:=Nat.pow_le_pow_right (by decide) h;have h2:0<10 ^ k:=Nat.pow_pos (by decide);have h3:(10:Nat) ^ 10=10000000000:=by decide
 omega
section
variable {h : Hp} {m m0 : Sl} {r c bo bl : Nat} {A : Nat → Nat → Rat}
def StE(D0:Hp)(m:Sl)(r c bo bl:Nat)(A:Nat->Nat->Rat)(k:Nat)(st:Sl×Sl×Sl×Sl×Unit)(h:Hp):Prop:=
 st.1=m/\∃D f σ M d cs,D0.le D/\Bk D h f/\MX D f (λ_ _=>Bq k) m r c bo bl σ M/\Tq.EI A r c k M/\OS f 1 st.2.1 cs/\cs.length=k/\¬inB st.2.1 bo/\¬inB st.2.1 bl/\NQ D (Bq k) ⟨st.2.2.1,st.2.2.2.1⟩ d
theorem zk6{Kr:Tmatrix_reduced×Int->Hp->Prop}(hA:Tq.Indep A r c)(hr:r<=1000)(hc:c<=11)
 (Hj:∀K':Sl×Int->Hp->Prop,(∀y D f bo bl h',h.le D->Bk D h' f->MX D f (λ_ _=>2) y r c bo bl (λi=>i) A->K' (y,0) h')->zc (F.z2j m0) K' h)
 (Hc:∀(h1:Hp) (K':Int->Hp->Prop),h.le h1->(∀h',h1.le h'->K' (c:Int) h')->zc (F.Wm m0) K' h1)
 (H:∀x h',h.le h'->x.pivots.len=c->Kr (x,0) h'):zc (F.z1m m0) Kr h:=by
 refine zd (λx h'=>x.2=0/\x.1.pivots.len=c) (λK' hk=>?_) λx h' hl hx=>by obtain⟨x,e⟩:=x;obtain⟨h1,h2⟩:=hx;simp only at h1 h2;subst h1;exact H x h' hl h2
 unfold F.z1m;refine Hj _ λm D1 f1 bo bl h1 hD1 hB1 mx1=>?_
 refine Z2 (λhh=>absurd rfl hh) (λ_=>?_);refine hB1.newD λb2 D2 h2 _ hD2 hc2 hB2=>?_
 refine hB2.call (K1:=λz D'=>NQ D' 2 z ((1:Int):Rat)) (z99 (by decide) (by decide) λz h' _ hz=>hz) λz D3 h3 hD3 hB3 hz=>?_
 refine hB3.call (K1:=λz D'=>z=(c:Int)) (Hc _ _ (Hp.le_trans hD1 (Hp.le_trans hD2 hD3)) λ_ _=>rfl) λcz D4 h4 hD4 hB4 hcz=>?_
 subst hcz;have hp2:D4.cell ⟨b2,0,none⟩=some (.int .i64 0):=Hp.cell_le (Hp.le_trans hD3 hD4) (hc2 0 _ rfl);have hrl:m.len=r:=by rw[mx1.em]
 have hhD4:h.le D4:=Hp.le_trans hD1 (Hp.le_trans hD2 (Hp.le_trans hD3 hD4));have nin:∀b,¬inB zf b:=λb hh=>by obtain⟨_,h5,_⟩:=hh;cases h5
 refine Yq (n:=c) (by omega) (StE D4 m r c bo bl A) ⟨rfl,D4,f1,_,A,_,[],Hp.le_refl _,hB4,mx1.mono (Hp.le_trans hD2 (Hp.le_trans hD3 hD4)),Tq.EI.start,OS.nil,rfl,nin _,nin _,hz.le hD4⟩ ?_;rintro k ⟨m,piv,dr,dc,_⟩ h5 hkc ⟨rfl,D5,f5,σ,M,d,cs,hD5,hB5,mx5,ei,ho5,hcs,no,nl,hd⟩ kk hkk;simp only at mx5 ho5 no nl hd hrl;have hpl:piv.len=k:=by have:=ho5.1;rw[hcs,J7]at this;exact this
 refine ze (λh6=>?_) (λh6=>?_)
 . have hk:k<c:=by simp only at h6;omega
   obtain⟨hb1,hb2⟩:=Zpf (k:=k) (by omega);refine zh (λs h'=>StE D4 m r c bo bl A (k+1) s.1 h') (λs h' hs=>hkk _ _ hk hs) ?_;refine hB5.newF λb9 h7 hf9 hd9 hB7=>?_
   refine hB7.st Z9 (by show 1<=1;omega) rfl λh8 hB8=>?_
   rw[zhp]at hB8;have e9:Zc [Ge .i64 0] 0 [Ge .i64 (k:Int)]=[Ge .i64 (k:Int)]:=rfl;rw[e9]at hB8;have n1:bo≠b9:=λhh=>mx5.ino (by rw[hh];exact hf9)
   have n2:bl≠b9:=λhh=>mx5.inl (by rw[hh];exact hf9)
   obtain⟨f8,hf8⟩:∃f8,f8=z1b f5 b9 [Ge .i64 (k:Int)]:=⟨_,rfl⟩;rw[<-hf8]at hB8;have h98:f8 b9=some [Ge .i64 (k:Int)]:=by rw[hf8];exact Z9
   have mx8:MX D5 f8 (λ_ _=>Bq k) m r c bo bl σ M:=mx5.other (by rw[hf8,Q7 n1]) (by rw[hf8,Q7 n2]);have ho8:OS f8 1 piv cs:=ho5.congr λb hb=>by rw[hf8,Q7 λhh=>ho5.there hb (by rw[hh];exact hf9)]
   obtain⟨i0,hi0,hi0r,hi0n⟩:=ei.pivot hA hk;have hkr:k<r:=by omega
   simp only[hpl,hrl];refine⟨by omega,by omega,?_,?_⟩
   . rw[mx8.em];exact Int.le_refl _
   have er:((r:Int)).toNat=r:=rfl;have ek:((k:Int)).toNat=k:=rfl;rw[er,ek];refine Z17 mx8 hB8 (hB8.cell h98 rfl) hkr hk (by omega) (λ_ _=>by omega) ⟨i0,hi0,hi0r,hi0n⟩ λt h9 hl9 htr htn=>?_
   have hB9:=hB8.mono hl9;refine ze (λhh=>absurd hh (by omega)) (λ_=>?_);obtain⟨J,hJ⟩:∃J:(Sl×Sl×Sl×Sl×Unit)×Unit->Hp->Prop,∀s h',J s h'↔s.1.1=m/\s.1.2.1=piv/\∃D' f' σ' d',D4.le D'/\Bk D' h' f'/\MX D' f' (λ_ _=>Bq k) m r c bo bl σ' (Tq.swapM M k (k+t))/\(∀b,b≠bo->b≠bl->f' b=f8 b)/\NQ D' (Bq k) ⟨s.1.2.2.1,s.1.2.2.2.1⟩ d':=⟨_,λ_ _=>Pc⟩;refine zh J (λs h' hs=>?_) ?_
   . obtain⟨⟨m',pv',dr',dc',_⟩,_⟩:=s;obtain⟨hm',hpv',D11,f11,σ',d',hD11,hB11,mx11,hf11,hd11⟩:=(hJ _ _).1 hs;have hm':m'=m:=hm';have hpv':pv'=piv:=hpv';subst hm' hpv';have hd11:NQ D11 (Bq k) ⟨dr',dc'⟩ d':=hd11;obtain⟨N,hN⟩:∃N,N=Tq.swapM M k (k+t):=⟨_,rfl⟩;rw[<-hN]at mx11;have eiN:Tq.EI A r c k N:=by rw[hN];exact ei.swap (by omega) htr
     have hNk:N k k=M (k+t) k:=by rw[hN];simp only[Tq.swapM,if_true]
     have hN0:N k k≠0:=by rw[hNk];exact htn
     have h119:f11 b9=some [Ge .i64 (k:Int)]:=by rw[hf11 b9 (λhh=>n1 hh.symm) (λhh=>n2 hh.symm)];exact h98
     have kz:∀j,j<k->N k j=0:=λj hj=>by rw[eiN.unit k hkr j hj,if_neg (by omega)]
     refine mx11.row hB11 k rfl hkr ⟨(k:Int),hB11.cell h119 rfl,?_⟩;refine mx11.get hB11 k k rfl hkr hk λa17 x18 hx18 c0 c1=>⟨x18.radicands,c0,x18.coefs,c1,?_⟩
     have hx18:NQ D11 (Bq k) x18 (N k k):=hx18;refine hB11.call (K1:=λz D'=>NQ D' (Bq k+Bq k) z (d'*N k k)) (zmx (Y:=⟨x18.radicands,x18.coefs⟩) hd11 hx18 (by omega) λz h' _ hz=>hz) λr19 D12 h12 hD12 hB12 h19=>?_
     refine⟨(k:Int),hB12.cell h119 rfl,?_⟩;have mx12:=mx11.mono hD12;refine zdk (n:=c) (m:=k) rfl (by omega) (λs h'=>k<=s/\∃D' f',D12.le D'/\Bk D' h' f'/\MX D' f' (λa j=>if a=k/\k<=j/\j<s then Bq k+Bq k else Bq k) m' r c bo bl σ' (λa j=>if a=k/\k<=j/\j<s then N a j/N k k else N a j)/\∀b,b≠bl->f' b=f11 b)
      ⟨Ja _,D12,f11,Hp.le_refl _,hB12,mx12.weak (λa j _ _=>by rw[if_neg (by omega)];exact Ja _) (λa j _ _=>by rw[if_neg (by omega)]),λ_ _=>rfl⟩ ?_
     rintro s h13 hks ⟨_,D13,f13,hD13,hB13,mx13,hf13⟩ k22 hk22;refine mx13.row hB13 k rfl hkr ?_;have hrl2:(zbl bl (σ' k*c*2) c).len=c:=rfl;refine ze (λh14=>?_) (λh14=>?_)
     . have hs':s<c:=by rw[hrl2]at h14;simp only at h14;omega
       refine mx13.row hB13 k rfl hkr ?_;refine mx13.row hB13 k rfl hkr ?_;refine mx13.get hB13 k s rfl hkr hs' λa29 x hx e0 e1=>⟨x.radicands,e0,x.coefs,e1,?_⟩
       have hx:NQ D13 (if k=k/\k<=s/\s<s then Bq k+Bq k else Bq k) x (if k=k/\k<=s/\s<s then N k s/N k k else N k s):=hx;rw[if_neg (by omega),if_neg (by omega)]at hx;refine hB13.call (K1:=λz D'=>NQ D' (Bq k+Bq k) z (N k s/N k k)) (Z0d (X:=⟨x.radicands,x.coefs⟩) (Y:=⟨x18.radicands,x18.coefs⟩) hx (hx18.le (Hp.le_trans hD12 hD13)) hb1 (by omega) hN0 λz h' _ hz=>hz) λz D14 h15 hD14 hB14 hz=>?_
       refine(mx13.mono hD14).set hB14 k s rfl hkr hs' hz λf15 h16 hB15 mx15 hf15=>hk22 _ hs' ⟨by omega,D14,f15,Hp.le_trans hD13 hD14,hB15,mx15.weak (λa j _ _=>?_) (λa j _ _=>?_),λb hb=>(hf15 b hb).trans (hf13 b hb)⟩
       . unfold zyf;by_cases e:a=k/\j=s
         . rw[if_pos e,if_pos (by omega)];exact Ja _
         . rw[if_neg e];show(if a=k/\k<=j/\j<s then Bq k+Bq k else Bq k)<=(if a=k/\k<=j/\j<s+1 then Bq k+Bq k else Bq k);by_cases e2:a=k/\k<=j/\j<s
           . rw[if_pos e2,if_pos (by omega)];exact Ja _
           . rw[if_neg e2,if_neg (by omega)];exact Ja _
       . unfold zyf;by_cases e:a=k/\j=s
         . rw[if_pos e,if_pos (by omega),e.1,e.2]
         . rw[if_neg e];show(if a=k/\k<=j/\j<s then N a j/N k k else N a j)=(if a=k/\k<=j/\j<s+1 then N a j/N k k else N a j);by_cases e2:a=k/\k<=j/\j<s
           . rw[if_pos e2,if_pos (by omega)]
           . rw[if_neg e2,if_neg (by omega)]
     . have hsc:c<=s:=by rw[hrl2]at h14;simp only at h14;omega
       obtain⟨Q,hQ⟩:∃Q,Q=Tq.scaleM N k (N k k):=⟨_,rfl⟩;have mx14:MX D13 f13 (λ_ _=>Bq k+Bq k) m' r c bo bl σ' Q:=mx13.weak (λa j _ _=>by
        show(if a=k/\k<=j/\j<s then Bq k+Bq k else Bq k)<=_;split<;>omega) (λa j _ hj=>by
        show(if a=k/\k<=j/\j<s then N a j/N k k else N a j)=_;rw[hQ];unfold Tq.scaleM;by_cases e:a=k
        . subst e;rw[if_pos rfl];by_cases e2:a<=j
          . rw[if_pos ⟨rfl,e2,by omega⟩]
          . rw[if_neg (λhh=>e2 hh.2.1),kz j (by omega),Rat.div_def,Rat.zero_mul]
        . rw[if_neg (λhh=>e hh.1),if_neg e])
       have kq:∀j,j<k->Q k j=0:=λj hj=>by
        rw[hQ];unfold Tq.scaleM;rw[if_pos rfl,kz j hj,Rat.div_def,Rat.zero_mul]
       have eiE:Tq.EI A r c (k+1) (Tq.elimM Q k k):=by
        rw[hQ,hNk,hN];exact ei.step (by omega) htr htn
       obtain⟨P,hP⟩:∃P,P=Tq.elimM Q k k:=⟨_,rfl⟩;rw[<-hP]at eiE;refine yg (n:=r) (by omega) (λi h'=>∃D' f',D13.le D'/\Bk D' h' f'/\MX D' f' (λa j=>if a<i/\a≠k then 5*(Bq k+Bq k)else Bq k+Bq k) m' r c bo bl σ' (λa j=>if a<i then P a j else Q a j)/\∀b,b≠bl->f' b=f11 b)
        ⟨D13,f13,Hp.le_refl _,hB13,mx14.weak (λa j _ _=>by rw[if_neg (by omega)];exact Ja _) (λa j _ _=>by rw[if_neg (by omega)]),hf13⟩ ?_
       rintro i h15 hir ⟨D15,f15,hD15,hB15,mx15,hf15⟩ k34 hk34;have h159:f15 b9=some [Ge .i64 (k:Int)]:=by rw[hf15 b9 (λhh=>n2 hh.symm)];exact h119
       refine ze (λh16=>?_) (λh16=>?_)
       . have hir':i<r:=by simp only at h16;omega
         obtain⟨J2,hJ2⟩:∃J2:Unit->Hp->Prop,∀u h',J2 u h'↔∃D' f',D13.le D'/\Bk D' h' f'/\MX D' f' (λa j=>if a<i+1/\a≠k then 5*(Bq k+Bq k)else Bq k+Bq k) m' r c bo bl σ' (λa j=>if a<i+1 then P a j else Q a j)/\∀b,b≠bl->f' b=f11 b:=⟨_,λ_ _=>Pc⟩;refine zh J2 (λu h' hu=>hk34 _ hir' ((hJ2 u h').1 hu)) ?_;have same:∀{D' h'},Bk D' h' f15->D15.le D'->(∀j,j<c->P i j=Q i j)->J2 () h':=λhB' hD' hPQ=>(hJ2 _ _).2 ⟨_,f15,Hp.le_trans hD15 hD',hB',(mx15.mono hD').weak (λa j _ _=>by
          show(if a<i/\a≠k then 5*(Bq k+Bq k)else Bq k+Bq k)<=(if a<i+1/\a≠k then 5*(Bq k+Bq k)else Bq k+Bq k);by_cases e:a<i/\a≠k
          . rw[if_pos e,if_pos ⟨by omega,e.2⟩];exact Ja _
          . rw[if_neg e];split<;>omega) (λa j _ hj=>by
          show(if a<i then P a j else Q a j)=(if a<i+1 then P a j else Q a j);by_cases e:a<i
          . rw[if_pos e,if_pos (by omega)]
          . rw[if_neg e];by_cases e2:a=i
            . subst e2;rw[if_pos (by omega),hPQ j hj]
            . rw[if_neg (by omega)]),hf15⟩
         refine mx15.row hB15 i rfl hir' ⟨(k:Int),hB15.cell h159 rfl,?_⟩;refine mx15.get hB15 i k rfl hir' hk λa40 x41 hx41 e0 e1=>⟨x41.radicands,e0,x41.coefs,e1,?_⟩
         have hx41:NQ D15 (if i<i/\i≠k then 5*(Bq k+Bq k)else Bq k+Bq k) x41 (if i<i then P i k else Q i k):=hx41;rw[if_neg (by omega),if_neg (by omega)]at hx41;refine Z2 (λhik=>?_) (λhik=>same hB15 (Hp.le_refl _) λj _=>?_)
         . have hik':i≠k:=λhh=>hik (by simp only;rw[hh])
           refine hB15.call (K1:=λz D'=>z=(Q i k).num.sign) (zer (X:=⟨x41.radicands,x41.coefs⟩) hx41 (by omega) λ_ _=>rfl) λz D16 h17 hD16 hB16 hz=>?_
           subst hz;refine Z2 (λhn=>?_) (λh0=>same hB16 hD16 λj _=>?_)
           . have mx16:=mx15.mono hD16;refine mx16.row hB16 k rfl hkr ⟨(k:Int),hB16.cell h159 rfl,Xm ?_⟩;refine zqg (X:=⟨x41.radicands,x41.coefs⟩) (L:=Bq k+Bq k) mx16 hB16 (hx41.le hD16) hir' hkr hik' (by omega) (by omega) (by omega) (by omega) (λj _=>?_) (λj _=>?_) λD17 f17 h18 hD17 hB17 mx17 hf17=>(hJ2 _ _).2 ⟨D17,f17,Hp.le_trans hD15 (Hp.le_trans hD16 hD17),hB17,mx17.weak (λa j _ _=>?_) (λa j _ hj=>?_),λb hb=>(hf17 b hb).trans (hf15 b hb)⟩
             . rw[if_neg (by omega)];exact Ja _
             . rw[if_neg (by omega)];exact Ja _
             . show(if a=i/\k<=j then 5*(Bq k+Bq k)else if a<i/\a≠k then 5*(Bq k+Bq k)else Bq k+Bq k)<=(if a<i+1/\a≠k then 5*(Bq k+Bq k)else Bq k+Bq k);by_cases e:a=i/\k<=j
               . rw[if_pos e,if_pos ⟨by omega,by rw[e.1];exact hik'⟩];exact Ja _
               . rw[if_neg e];by_cases e2:a<i/\a≠k
                 . rw[if_pos e2,if_pos ⟨by omega,e2.2⟩];exact Ja _
                 . rw[if_neg e2];split<;>omega
             . show(if a=i/\k<=j then (if i<i then P i j else Q i j)-Q i k*(if k<i then P k j else Q k j)else if a<i then P a j else Q a j)=(if a<i+1 then P a j else Q a j);have pk:(if k<i then P k j else Q k j)=Q k j:=by
                split
                . rw[hP];unfold Tq.elimM;rw[if_pos rfl]
                . rfl
               rw[pk,if_neg (show ¬i<i by omega)];have pij:P i j=Q i j-Q i k*Q k j:=by rw[hP];unfold Tq.elimM;rw[if_neg hik']
               by_cases e:a=i
               . subst e;rw[if_pos (show a<a+1 by omega),pij];by_cases e2:k<=j
                 . rw[if_pos ⟨rfl,e2⟩]
                 . rw[if_neg (λhh=>e2 hh.2),if_neg (by omega),kq j (by omega),Rat.mul_zero];grind
               . rw[if_neg (λhh=>e hh.1)];by_cases e2:a<i
                 . rw[if_pos e2,if_pos (by omega)]
                 . rw[if_neg e2,if_neg (by omega)]
           . have h00:Q i k=0:=Rat.num_eq_zero.1 (Int.sign_eq_zero_iff_zero.1 h0);rw[hP];unfold Tq.elimM;rw[if_neg hik',h00,Rat.zero_mul];grind
         . have hik':i=k:=by simp only at hik;omega
           rw[hP];unfold Tq.elimM;rw[if_pos hik',hik']
       . have hri:i=r:=by simp only at h16;omega
         subst hri;refine⟨(k:Int),hB15.cell h159 rfl,?_⟩;have ho15:OS f15 1 pv' cs:=ho8.congr λb hb=>by
          have e1:b≠bl:=λhh=>nl (hh▸hb)
          have e2:b≠bo:=λhh=>no (hh▸hb)
          rw[hf15 b e1,hf11 b e2 e1]
         refine ho15.app hB15 (n:=1) rfl rfl rfl (by rw[hpl];omega) (by rw[hpl];omega) λy f16 h17 hB16 ho16 hfr hin=>?_
         have hob:=mx15.ino;have hlb:=mx15.inl;refine⟨rfl,D15,f16,σ',P,_,_,Hp.le_trans hD11 (Hp.le_trans hD12 (Hp.le_trans hD13 hD15)),hB16,(mx15.other (hfr bo no hob) (hfr bl nl hlb)).weak (λa j _ _=>?_) (λa j ha _=>if_pos ha),eiE,ho16,by rw[Je,hcs];rfl,λhh=>?_,λhh=>?_,(h19.le (Hp.le_trans hD13 hD15)).mono (by rw[zyi];omega)⟩
         . show(if a<i/\a≠k then 5*(Bq k+Bq k)else Bq k+Bq k)<=Bq (k+1);rw[zyi];split<;>omega
         . rcases hin bo hh with h18 | h18
           . exact no h18
           . exact hob h18.1
         . rcases hin bl hh with h18 | h18
           . exact nl h18
           . exact hlb h18.1
   . refine ze (λh10=>?_) (λh10=>?_)
     . have ew:i64.wrap ((k:Int)+(t:Int))=((k+t:Nat):Int):=by rw[w64 (by omega)];omega
       rw[ew];refine mx8.row hB9 (k+t) rfl htr ?_;refine mx8.row hB9 k rfl hkr ?_;refine mx8.swap hB9 k (k+t) rfl rfl hkr htr λf10 h11 hB11 mx11 hf11=>?_
       refine hB11.call (K1:=λz D'=>NQ D' (Bq k) z (-d)) (Z2h hd (by omega) λz h' _ hz=>hz) λz D12 h12 hD12 hB12 hz=>?_
       exact(hJ _ _).2 ⟨rfl,rfl,D12,f10,_,-d,Hp.le_trans hD5 hD12,hB12,mx11.mono hD12,λb hb _=>hf11 b hb,hz⟩
     . have ht0:t=0:=by omega
       subst ht0;refine(hJ _ _).2 ⟨rfl,rfl,D5,f8,σ,d,hD5,hB9,mx8.weak (λ_ _ _ _=>Ja _) (λi j _ _=>?_),λ_ _ _=>rfl,hd⟩;unfold Tq.swapM;rw[Uy];by_cases e:i=k
       . rw[if_pos e,e]
       . rw[if_neg e,if_neg e]
 . have:k=c:=by simp only at h6;omega
   subst this;have hle:=Hp.le_trans hD5 hB5.le;have e0:(⟨b2,0,none⟩:Addr).add 0=⟨b2,0,none⟩:=Zw _;rw[e0];refine⟨0,Hp.cell_le hle hp2,Z2 (λhh=>absurd rfl hh) λ_=>hk _ _ (Hp.le_trans hhD4 hle) ⟨rfl,hpl⟩⟩
end
end Den
end

section
namespace Den
open Go Iv Lx
def sc(s:Sl):List Value:=[slV s]
def RwF(B c:Nat)(M:Nat->Nat->Rat)(h:Hp)(s:Sl)(i:Nat):Prop:=LR nc 2 (NQP B) h s ((Jp c).map (M i))
theorem zxe(B c:Nat)(M:Nat->Nat->Rat):Rec sc 1 (RwF B c M):=⟨λ_=>rfl,by decide,λ_=>rfl,λhx hl=>hx.le (Xq B) hl⟩
def MF(h:Hp)(m:Sl)(r c B:Nat)(M:Nat->Nat->Rat):Prop:=LR sc 1 (RwF B c M) h m (Jp r)
theorem z7g{n i:Nat}(h:i<(Jp n).length):(Jp n)[i]=i:=List.getElem_range h
section
variable {h D : Hp} {m : Sl} {r c B : Nat} {M : Nat → Nat → Rat} {Ki : Int → Hp → Prop} {Kb : Bool → Hp → Prop} {Ks : Sl → Hp → Prop}
theorem MF.le{h':Hp}(hm:MF h m r c B M)(hl:h.le h'):MF h' m r c B M:=LR.le (zxe B c M) hm hl
theorem MF.len(hm:MF h m r c B M):m.len=r:=by have:=LR.len (zxe B c M) hm;rwa [Ti]at this
theorem RwF.len{s:Sl}{i:Nat}(hs:RwF B c M h s i):s.len=c:=by have:=LR.len (Xq B) hs;simpa using this
theorem MF.row(hm:MF D m r c B M)(hl:D.le h){z:Int}(i:Nat)(hz:z=i)(hi:i<r){K:Sl->Prop}(H:∀s,RwF B c M D s i->K s):zg m z 1 λa=>ldL (.sl) a K h:=by
 have hi':i<(Jp r).length:=by rw[Ti];exact hi
 refine LR.get2 (zxe B c M) hm hl i hz hi' λa s hs ha=>⟨s,?_,H s ?_⟩
 . have:=ha 0 _ rfl;rw[Zw]at this;exact this
 . rw[z7g]at hs;exact hs
theorem RwF.get{s:Sl}{i:Nat}(hs:RwF B c M D s i)(hl:D.le h){z:Int}(j:Nat)(hz:z=j)(hj:j<c){K:Sl->Sl->Prop}(H:∀x:TNumber,NQ D B x (M i j)->K x.radicands x.coefs) :
 zg s z 2 λa=>ldL (.sl) (a.add 0) (λx=>ldL (.sl) (a.add 1) (λy=>K x y) h) h:=by
 have hj':j<((Jp c).map (M i)).length:=by simp;exact hj
 refine LR.get2 (Xq B) hs hl j hz hj' λa x hx ha=>⟨x.radicands,ha 0 _ rfl,x.coefs,ha 1 _ rfl,H x ?_⟩
 have:NQ D B x ((Jp c).map (M i))[j]:=hx;rw[Ts,z7g]at this;exact this
theorem za6(hm:MF D m r c B M)(hl:D.le h)(hr:0<r)(H:Ki (c:Int) h):zc (F.Wm m) Ki h:=by
 refine zx _ (λK' hk=>?_) H;unfold F.Wm;refine zu (λhh=>absurd hh (by rw[hm.len];omega)) (λ_=>?_);refine hm.row hl 0 rfl hr λs hs=>?_
 rw[hs.len];exact hk
theorem zic(hm:MF h m r c B M)(hr:0<r)(hrr:r<=1000000)(H:∀h',h.le h'->Kb true h'):zc (F.z3q m) Kb h:=by
 refine zd (λb h'=>b=true) (λK' hk=>?_) λb h' hl hb=>by subst hb;exact H h' hl
 unfold F.z3q;refine Ww λp1 h1 hl1 c1=>⟨m,c1,?_⟩
 have hm1:=hm.le hl1;refine zd (λb h'=>b=false) (λK2 hk2=>?_) λb h' hl hb=>by subst hb;exact hk _ _ (Hp.le_trans hl1 hl) rfl
 unfold F.yd;refine zd (λz h'=>z=-1) (λK3 hk3=>?_) λz h' hl hz=>by subst hz;exact hk2 _ _ hl rfl
 unfold F.yp;have hml:=hm.len;refine yg (n:=r) (by omega) (λi h'=>h1.le h') (Hp.le_refl _) ?_;intro i h2 hi hl2 kk hkk;refine ze (λh3=>?_) (λ_=>hk3 _ _ hl2 rfl);have hi':i<r:=by rw[hml]at h3;simp only at h3;omega
 refine hm1.row hl2 i rfl hi' λs hs=>?_
 refine zd (λb h'=>b=false) (λK5 hk5=>?_) λb h' hl hb=>by subst hb;exact zr rfl (hkk _ hi' (Hp.le_trans hl2 hl))
 unfold F.z7r;show Ye (some p1) _;simp only[Ye];refine⟨m,Hp.cell_le hl2 c1,za6 hm1 hl2 hr ?_⟩;rw[hs.len];exact hk5 _ _ (Hp.le_refl _) (by simp)
structure GR(f:BM)(n bo:Nat)(ss:List Sl)(C:Nat->List Value):Prop where
 slen:ss.length=n
 out:f bo=some (ss.map slV)
 row:∀v,v<n->OS f 2 (ss.getD v zf) (C v)
 apt:∀v,v<n->¬inB (ss.getD v zf) bo
 apt2:∀u v,u<n->v<n->u≠v->∀b,inB (ss.getD u zf) b->¬inB (ss.getD v zf) b
theorem GR.setRow{f f2:BM}{n bo v:Nat}{ss:List Sl}{C:Nat->List Value}{y:Sl}{l:List Value}(pg:GR f n bo ss C)(hv:v<n)(hfr:∀b,f b≠none->¬inB (ss.getD v zf) b->f2 b=f b)(hy:OS f2 2 y l)(hin:∀b,inB y b->inB (ss.getD v zf) b\/f b=none) :
 GR (z1b f2 bo ((ss.set v y).map slV)) n bo (ss.set v y) (λu=>if u=v then l else C u):=by
 have hsl:=pg.slen;have ho:f bo≠none:=by rw[pg.out];simp
 have ya:¬inB y bo:=λhh=>by
  rcases hin bo hh with h1 | h1
  . exact pg.apt v hv h1
  . exact ho h1
 have gs:∀u,u≠v->(ss.set v y).getD u zf=ss.getD u zf:=λu hu=>Qv (λhh=>hu hh.symm)
 have gv:(ss.set v y).getD v zf=y:=Wb (by omega);refine⟨by rw[Gl];exact hsl,Z9,λu hu=>?_,λu hu=>?_,λu w hu hw huw b=>?_⟩
 . by_cases huv:u=v
   . subst huv;rw[gv,if_pos rfl];exact hy.upd ya
   . rw[gs u huv,if_neg huv];refine OS.upd ((pg.row u hu).congr λb hb=>hfr b ((pg.row u hu).there hb) (pg.apt2 u v hu hv huv b hb)) (pg.apt u hu)
 . by_cases huv:u=v
   . subst huv;rw[gv];exact ya
   . rw[gs u huv];exact pg.apt u hu
 . by_cases h1:u=v
   . subst h1;rw[gv,gs w (λhh=>huw hh.symm)];intro hb hw2;rcases hin b hb with h2 | h2
     . exact pg.apt2 u w hu hw huw b h2 hw2
     . exact(pg.row w hw).there hw2 h2
   . by_cases h2:w=v
     . subst h2;rw[gs u huw,gv];intro hb hw2;rcases hin b hw2 with h3 | h3
       . exact pg.apt2 u w hu hw huw b hb h3
       . exact(pg.row u hu).there hb h3
     . rw[gs u h1,gs w h2];exact pg.apt2 u w hu hw huw b
theorem zz5(l:List Sl):l.flatMap sc=l.map slV:=by
 induction l with
 | nil=>rfl
 | cons a l ih=>rw[Ur,U3,ih];rfl
theorem GR.mf{f:BM}{n bo:Nat}{ss:List Sl}{X:Nat->List TNumber}(pg:GR f n bo ss λv=>(X v).flatMap nc)(hB:Bk D h f)(hX:∀v,v<n->(X v).length=c/\∀j (hj:j<(X v).length),NQ D B (X v)[j] (M v j)):MF h ⟨some ⟨bo,0,none⟩,n,n⟩ n c B M:=by
 have hsl:=pg.slen;have hos:OS f 1 ⟨some ⟨bo,0,none⟩,n,n⟩ (ss.map slV):=⟨by rw[J1,hsl,J7],Ja _,rfl,rfl,_,pg.out,by rw[J1,hsl,J7],Jw⟩;refine⟨ss,by rw[zz5];exact hos.rd hB,Ja _,by rw[Ti,hsl],λk k1 k2=>?_⟩;rw[z7g];have hk:k<n:=by omega
 have e:ss.getD k zf=ss[k]:=by rw[Jf,Jc k1];rfl
 have hr:=pg.row k hk;rw[e]at hr;obtain⟨x1,x2⟩:=hX k hk;refine⟨X k,hr.rd hB,hr.2.1,by simp[x1],λj j1 j2=>?_⟩;rw[Ts,z7g];exact(x2 j j1).le hB.le
def TrI(D:Hp)(r c B bo:Nat)(M:Nat->Nat->Rat)(k i:Nat)(h:Hp):Prop:=
 ∃(f:BM) (ss:List Sl) (X:Nat->List TNumber),Bk D h f/\GR f c bo ss (λv=>(X v).flatMap nc)/\∀v,v<c->(X v).length=(if v<k then r else if v=k then i else 0)/\∀j (hj:j<(X v).length),NQ D B (X v)[j] (M j v)
theorem zm2(hm:MF h m r c B M)(hr:0<r)(hrr:r<=1000)(hc:c<=1000)(H:∀y h',h.le h'->MF h' y c r B (λi j=>M j i)->Ks y h'):zc (F.z1l m) Ks h:=by
 refine zd (λy h'=>MF h' y c r B (λi j=>M j i)) (λK' hk=>?_) λy h' hl hy=>H y h' hl hy
 unfold F.z1l;refine zic hm hr (by omega) λh1 hl1=>zr rfl ?_
 have hm1:=hm.le hl1;have hml:=hm.len;refine za6 hm1 (Hp.le_refl _) hr ?_;refine(Bk.start (h:=h1)).mkF c c rfl rfl (Ja _) (by omega) (by omega) λbo h2 hbo hDo hB2=>?_
 have gn:∀v,(Jr c zf).getD v zf=zf:=λv=>by
  rw[Jf,List.getElem?_replicate];split<;>rfl
 have nin:∀b,¬inB zf b:=λb hh=>by obtain⟨_,h5,_⟩:=hh;cases h5
 have r2:yn c [Value.slice zf.a zf.len zf.cap]=(Jr c zf).map slV:=by unfold yn slV;simp
 have gr2:GR (z1b zcg bo (yn c [Value.slice zf.a zf.len zf.cap])) c bo (Jr c zf) (λv=>(([]:List TNumber)).flatMap nc):=
  ⟨by simp,by rw[Z9,r2],λv hv=>by rw[gn];exact OS.nil,λv hv=>by rw[gn];exact nin _,λu v hu hv huv b hb=>by rw[gn]at hb;exact absurd hb (nin _)⟩
 refine yg (n:=c) (by omega) (λk h'=>TrI h1 r c B bo M k 0 h') ⟨_,_,λ_=>[],hB2,gr2,λv _=>⟨by rw[if_neg (by omega)];split<;>rfl,λj hj=>by simp at hj⟩⟩ ?_;intro k h3 hkc hI3 kk hkk;refine ze (λh4=>?_) (λh4=>?_)
 . have hk':k<c:=by simp only at h4;omega
   refine yg (n:=r) (by omega) (λi h'=>TrI h1 r c B bo M k i h') hI3 ?_;intro i h5 hir hI5 k7 hk7;obtain⟨f5,ss5,X5,hB5,gr5,hX5⟩:=hI5;rw[hml];refine ze (λh6=>?_) (λh6=>?_)
   . have hi':i<r:=by simp only at h6;omega
     refine hm1.row hB5.le i rfl hi' λx9 hx9=>?_
     have hsl:=gr5.slen;refine zh6 hk' (hB5.ld (l:=.sl) (x:=ss5.getD k zf) gr5.out (zz7 (by omega)) ?_);refine hx9.get hB5.le k rfl hk' λx hx=>?_
     obtain⟨l1,l2⟩:=hX5 k hk';rw[if_neg (by omega),if_pos rfl]at l1;have hrow:=gr5.row k hk';have hrl:(ss5.getD k zf).len=i:=by
      have:=hrow.1;rw[Xc (c:=nc) (n:=2) (λ_=>rfl),l1]at this;exact Gn (by decide) this
     refine hrow.app hB5 (n:=1) (new:=nc x) rfl rfl rfl (by rw[hrl];omega) (by rw[hrl];omega) λy f6 h7 hB6 hy hfr hin=>?_
     have ho6:f6 bo=some (ss5.map slV):=by rw[hfr bo (gr5.apt k hk') (by rw[gr5.out];simp)];exact gr5.out
     refine zh6 hk' (hB6.st ho6 (by show k+1<=_;rw[J1];omega) rfl λh8 hB8=>hk7 _ hi' ?_);have es:Zc (ss5.map slV) k [.slice y.a y.len y.cap]=(ss5.set k y).map slV:=z32 (c:=slV) (by omega);rw[es]at hB8;have fin:∀X:Nat->List TNumber,X=(λv=>if v=k then X5 k++[x]else X5 v)->GR (z1b f6 bo ((ss5.set k y).map slV)) c bo (ss5.set k y) (λv=>(X v).flatMap nc)->(∀v,v<c->(X v).length=(if v<k then r else if v=k then i+1 else 0)/\∀j (hj:j<(X v).length),NQ h1 B (X v)[j] (M j v))->TrI h1 r c B bo M k (i+1) h8:=λX _ g1 g2=>⟨_,_,X,hB8,g1,g2⟩
     refine fin _ rfl ?_ λv hv=>?_
     . have:=gr5.setRow hk' (λb g1 g2=>hfr b g2 g1) hy λb hb=>(hin b hb).imp id And.left
       refine⟨this.slen,this.out,λv hv=>?_,this.apt,this.apt2⟩;have h9:=this.row v hv;by_cases e:v=k
       . subst e;simp only[if_true]at h9 |-
         rw[G5];simpa using h9
       . simp only[if_neg e]at h9 |-;exact h9
     . by_cases e:v=k
       . subst e;simp only[if_true,if_neg (Pz _)];refine⟨by rw[Je,l1];rfl,λj hj=>?_⟩;rcases Jo j (X5 v).length with h10 | h10
         . rw[Tk h10];exact l2 j h10
         . have:j=(X5 v).length:=by simp at hj;omega
           subst this;rw[Te (Ja _)];simp only[Nat.sub_self,Ua];rw[l1];exact hx
       . simp only[if_neg e];have:=hX5 v hv;rw[if_neg e]at this;exact this
   . have:i=r:=by simp only at h6;omega
     subst this;refine hkk _ hk' ⟨f5,ss5,X5,hB5,gr5,λv hv=>⟨?_,(hX5 v hv).2⟩⟩;rw[(hX5 v hv).1];by_cases e:v<k
     . rw[if_pos e,if_pos (by omega)]
     . rw[if_neg e];by_cases e2:v=k
       . rw[if_pos e2,if_pos (by omega)]
       . rw[if_neg e2,if_neg (by omega)];split<;>rfl
 . have:k=c:=by simp only at h4;omega
   subst this;obtain⟨f5,ss5,X5,hB5,gr5,hX5⟩:=hI3;refine hk _ _ (Hp.le_trans hl1 hB5.le) (gr5.mf (M:=λi j=>M j i) hB5 λv hv=>⟨?_,(hX5 v hv).2⟩);rw[(hX5 v hv).1,if_pos hv]
end
end Den
end

section
namespace Den
open Go Iv Lx
def zjk(r c:Nat)(M:Nat->Nat->Rat):List Rat:=(Jp r).flatMap λi=>(Jp c).map (M i)
theorem zgt{r c:Nat}{M:Nat->Nat->Rat}:zjk (r+1) c M=zjk r c M++(Jp c).map (M r):=by
 unfold zjk;rw[Gp,G5];simp
theorem z26{r c:Nat}{M:Nat->Nat->Rat}:(zjk r c M).length=r*c:=by
 induction r with
 | zero=>simp[zjk]
 | succ r ih=>rw[zgt,Je,ih,J1,Ti,Js,Pr]
theorem zd7{r c i j:Nat}(hi:i<r)(hj:j<c):i*c+j<r*c:=by
 have h1:(i+1)*c<=r*c:=Jj _ hi;rw[Js]at h1;omega
theorem Z2z{r c:Nat}{M:Nat->Nat->Rat}{i j:Nat}(hi:i<r)(hj:j<c):(zjk r c M)[i*c+j]?=some (M i j):=by
 induction r with
 | zero=>omega
 | succ r ih=>
   rw[zgt];by_cases h:i<r
   . rw[Uh (by rw[z26];exact zd7 h hj)];exact ih h
   . have:i=r:=by omega
     subst this;rw[Uz (by rw[z26];omega),z26,To,Uw,P8 hj];rfl
section
variable {h D : Hp} {m : Sl} {r c B : Nat} {M : Nat → Nat → Rat} {Ki : Int → Hp → Prop} {Kb : Bool → Hp → Prop} {Ks : Sl → Hp → Prop}
theorem Z13{n:Nat}(hn:0<n)(hn2:n<=1000000)(H:∀y h',LO nc 2 (NQP B) h h' y []->Ks y h'):zc (F.Y9 zf (n:Int)) Ks h:=by
 refine zd (λy h'=>LO nc 2 (NQP B) h h' y []) (λK' hk=>?_) λy h' _ hy=>H y h' hy
 unfold F.Y9;refine zh (λ_ h'=>h'=h) (λ_ h1 hh=>?_) (ze (λhh=>absurd hh (by omega)) λ_=>rfl);subst hh;have e1:i64.wrap ((zf.cap:Int)-(zf.len:Int))=0:=rfl;rw[e1];have e2:i64.wrap ((n:Int)-0)=n:=by rw[w64 (by omega)];omega
 rw[e2];refine ze (λ_=>?_) (λhh=>absurd hh (by omega));refine⟨Int.le_refl _,Int.le_refl _,Int.le_refl _,by omega,?_⟩;have e3:zf.cut ((0:Int)).toNat ((zf.cap:Int)).toNat 2=zf:=rfl;rw[e3];have e4:((n:Int)).toNat=n:=rfl;rw[e4];have hz:(yn n [Value.slice zf.a zf.len zf.cap,.slice zf.a zf.len zf.cap]).length=n*2:=by rw[z40];rfl
 refine(OS.nil (f:=zcg) (size:=2)).app Bk.start (n:=n) hz rfl ?_ ?_ ?_ λy f1 h2 hB2 ho2 _ _=>?_
 . unfold yn;rw[List.all_flatten,List.all_replicate];simp[Value.leaf]
 . show(0+n)*48<=_;omega
 . show 0+n<=_;omega
 . have h3:=ho2.2.1;refine⟨by omega,by show(0:Int)<=((zf.len:Nat):Int);omega,by show((zf.len:Nat):Int)<=(y.cap:Int);show((0:Nat):Int)<=_;omega,hk _ _ hB2.le ⟨[],?_,rfl,λk k1 _=>by simp at k1⟩⟩;have:=(ho2.cut (n:=0) (Nat.zero_le _)).own hB2;rw[Pn,List.take_zero]at this;exact this
theorem zri(hm:MF h m r c B M)(hr:0<r)(hrr:r<=1000)(hc0:0<c)(hc:c<=1000)(H:∀y h',LO nc 2 (NQP B) h h' y (zjk r c M)->Ks y h'):zc (F.Y0 m) Ks h:=by
 refine zd (λy h'=>LO nc 2 (NQP B) h h' y (zjk r c M)) (λK' hk=>?_) λy h' _ hy=>H y h' hy
 unfold F.Y0;have hml:=hm.len;have hrc:r*c<=1000*1000:=Nat.mul_le_mul hrr hc;refine Yq (n:=r) (by omega) (λi s h'=>s=((i*c:Nat):Int)/\h'=h) ⟨by rw[Pn];rfl,rfl⟩ ?_;rintro i s h1 hir ⟨rfl,hh⟩ kk hkk;rw[hh,hml];refine ze (λh2=>?_) (λh2=>?_)
 . have hi':i<r:=by simp only at h2;omega
   refine zh (λs h'=>s.1=(((i+1)*c:Nat):Int)/\h'=h) (λs h' hs=>hkk _ _ hi' hs) ?_;refine hm.row (Hp.le_refl _) i rfl hi' λx hx=>?_
   rw[hx.len];have h3:(i+1)*c<=r*c:=Jj _ hi';rw[Js,Pr]at h3 |-
   have e:i64.wrap (((i*c:Nat):Int)+(c:Int))=((i*c+c:Nat):Int):=by rw[w64 (by omega)];omega
   simp only[e];exact ze (λhh=>absurd hh (by omega)) λ_=>⟨trivial,trivial⟩
 . have:i=r:=by simp only at h2;omega
   subst this;have hpos:0<i*c:=Nat.mul_pos hr hc0;refine Z13 (B:=B) hpos (by omega) λy h3 hy=>?_
   refine Yq (n:=i) (by omega) (λj s h'=>LO nc 2 (NQP B) h h' s (zjk j c M)) (by simpa [zjk] using hy) ?_;intro j s h4 hj ho4 k9 hk9;refine ze (λh5=>?_) (λh5=>?_)
   . have hj':j<i:=by simp only at h5;omega
     refine hm.row ho4.dle j rfl hj' λx hx=>?_
     have h6:j*c<=i*c:=Jj _ hj;refine ho4.appAll (Xq B) hx rfl ?_ ?_ λw h7 hw=>hk9 _ _ hj' (by rw[zgt];exact hw)
     . rw[z26,J1,Ti];omega
     . rw[z26,J1,Ti];omega
   . have:j=i:=by simp only at h5;omega
     subst this;exact hk _ _ ho4.dle ho4
theorem zsa(hm:MF h m r c 2 M)(hr:0<r)(hrr:r<=1000)(hc0:0<c)(hc:c<=1000){K:Sl×Int->Hp->Prop}
 (H:∀y D f bo bl h',h.le D->Bk D h' f->MX D f (λ_ _=>2) y r c bo bl (λi=>i) M->K (y,0) h'):zc (F.z2j m) K h:=by
 refine zd (λy h'=>y.2=0/\∃D f bo bl,h.le D/\Bk D h' f/\MX D f (λ_ _=>2) y.1 r c bo bl (λi=>i) M) (λK' hk=>?_) λy h' _ hy=>by
  obtain⟨y,e⟩:=y;obtain⟨h1,D,f,bo,bl,h2,h3,h4⟩:=hy;simp only at h1 h4;subst h1;exact H y D f bo bl h' h2 h3 h4
 unfold F.z2j;have hml:=hm.len;have hrc:r*c<=1000*1000:=Nat.mul_le_mul hrr hc;have hpos:0<r*c:=Nat.mul_pos hr hc0;refine zri hm hr hrr hc0 hc λl h1 hl=>?_
 refine zgm (B:=2) (hl.lr (Xq 2)) (by rw[z26];omega) (by omega) λy D h2 hD ho=>?_
 refine Z2 (λhh=>absurd rfl hh) (λ_=>?_);obtain⟨xs,ho1,hxl,hxs⟩:=ho;have hhD:=Hp.le_trans hl.dle hD;rw[z26]at hxl;obtain⟨f2,hB2,hos⟩:=ho1.bk;obtain⟨s1,s2,s3⟩:=hos;have hfl:(xs.flatMap nc).length=r*c*2:=by rw[Xc (c:=nc) (n:=2) (λ_=>rfl),hxl]
 have hyl:y.len=r*c:=by rw[hfl]at s1;exact Gn (by decide) s1
 cases hya:y.a with
 | none=>rw[hya]at s3;simp only at s3;omega
 | some a=>
   rw[hya]at s3;obtain⟨g1,g2,bs,g3,g4,g5⟩:=s3;obtain⟨bl,hbl⟩:∃bl,bl=a.block:=⟨_,rfl⟩;have ea:a=⟨bl,0,none⟩:=by cases a;simp only at g1 g2 hbl;rw[g1,g2,hbl]
   rw[<-hbl]at g3;rw[hml];refine hB2.mkF r r rfl rfl (Ja _) (by omega) (by omega) λbo h3 hbo hDo hB3=>?_
   have hne:bo≠bl:=λhh=>by rw[hh,g3]at hbo;cases hbo
   have r2:yn r [Value.slice zf.a zf.len zf.cap]=(Jp r).map λi=>slV (if i<0 then zbl bl (i*c*2) c else zf):=by
    unfold yn;simp only[Nat.not_lt_zero,if_false,slV];rw[List.map_const',Ti];simp
   have hcs:bs.length=y.cap*2:=g4;obtain⟨I,hI⟩:∃I:Nat->Sl->Hp->Prop,∀i s h',I i s h'↔s.len=(r-i)*c/\(i<r->s=⟨some ⟨bl,i*c*2,none⟩,(r-i)*c,y.cap-i*c⟩)/\∃f',Bk D h' f'/\f' bo=some ((Jp r).map λj=>slV (if j<i then zbl bl (j*c*2) c else zf))/\f' bl=some bs:=⟨_,λ_ _ _=>Pc⟩;refine Yq (n:=r) (by omega) I ((hI _ _ _).2 ⟨hyl,λ_=>?_,_,hB3,by rw[Z9,r2],by rw[Q7 (λhh=>hne hh.symm)];exact g3⟩) ?_
   . have:y=⟨y.a,y.len,y.cap⟩:=rfl;rw[this,hya,ea,hyl,Pn,Nat.sub_zero,Nat.sub_zero]
   . intro i s h4 hir hI4 kk hkk;obtain⟨t1,t2,f4,hB4,t3,t4⟩:=(hI _ _ _).1 hI4;refine ze (λh5=>?_) (λh5=>?_)
     . have hi':i<r:=by simp only at h5;omega
       have es:=t2 hi';have hic:(i+1)*c<=r*c:=Jj _ hi';rw[Js,Pr]at hic;have hri:(r-i)*c=(r-(i+1))*c+c:=by
        have:r-i=(r-(i+1))+1:=by omega
        rw[this,Js,Pr]
       refine hm.row (Hp.le_trans hhD hB4.le) i rfl hi' λx hx=>?_
       simp only[hx.len,es];refine⟨by omega,by omega,by omega,by show(c:Int)<=((y.cap-i*c:Nat):Int);omega,?_⟩;refine⟨by omega,by show(c:Int)<=(((r-i)*c:Nat):Int);omega,by show(((r-i)*c:Nat):Int)<=((y.cap-i*c:Nat):Int);have:i*c+(r-i)*c=r*c:=by { rw[<-Js];congr 1;omega };omega,?_⟩;refine zh6 hi' (hB4.st t3 (by show i+1<=_;simp;omega) rfl λh6 hB6=>hkk _ _ hi' ((hI _ _ _).2 ⟨?_,λhi2=>?_,_,hB6,?_,by rw[Q7 (λhh=>hne hh.symm)];exact t4⟩))
       . show(r-i)*c-c=_;omega
       . show(⟨if y.cap-i*c=c then _ else (some (⟨bl,i*c*2,none⟩:Addr)).map (·.add (c*2)),(r-i)*c-c,y.cap-i*c-c⟩:Sl)=_;have hic2:(i+2)*c<=r*c:=Jj _ hi2;rw[Js]at hic2;rw[if_neg (by omega)];show(⟨some ((⟨bl,i*c*2,none⟩:Addr).add (c*2)),_,_⟩:Sl)=_;rw[z2p];have e1:i*c*2+c*2=(i+1)*c*2:=by rw[Js i,Pr,Js]
         have e2:(r-i)*c-c=(r-(i+1))*c:=by omega
         have e3:y.cap-i*c-c=y.cap-(i+1)*c:=by rw[Js,Pr];omega
         rw[e1,e2,e3]
       . rw[Z9];congr 1;have ecut:((Sl.cut ⟨some ⟨bl,i*c*2,none⟩,(r-i)*c,((c:Int)).toNat⟩ ((0:Int)).toNat ((c:Int)).toNat 2):Sl)=zbl bl (i*c*2) c:=by
          show(⟨if c=0 then _ else (some (⟨bl,i*c*2,none⟩:Addr)).map (·.add (0*2)),c-0,c-0⟩:Sl)=_;rw[if_neg (by omega)];show(⟨some ((⟨bl,i*c*2,none⟩:Addr).add (0*2)),_,_⟩:Sl)=_;rw[z2p];rfl
         rw[ecut];refine List.ext_getElem? λa=>?_
         rw[z89 (by show i+1<=_;simp;omega)];simp only[Uw];rcases Jo a r with ha | ha
         . rw[P8 ha,U0,U0];by_cases e:a=i
           . subst e;rw[if_pos ⟨Ja _,by show a<a+1;omega⟩,if_pos (by omega),Nat.sub_self];rfl
           . rw[if_neg (by show ¬(i<=a/\a<i+1);omega)];by_cases e2:a<i
             . rw[if_pos e2,if_pos (by omega)]
             . rw[if_neg e2,if_neg (by omega)]
         . rw[if_neg (by show ¬(i<=a/\a<i+1);omega),J5 (by simpa using ha)];rfl
     . have:i=r:=by simp only at h5;omega
       subst this;refine hk _ _ (Hp.le_trans hhD hB4.le) ⟨rfl,D,f4,bo,bl,hhD,hB4,rfl,hne,?_,λ_ h=>h,λ_ _ _ _ hh=>hh,bs,t4,?_,λa j ha hj=>?_⟩
       . rw[t3];congr 1;refine List.map_congr_left λa ha=>?_
         rw[if_pos (List.mem_range.1 ha)]
       . rw[hcs];omega
       . have hk1:a*c+j<xs.length:=by rw[hxl];exact zd7 ha hj
         have e0:∀t,t<2->bs[a*c*2+j*2+t]?=(nc xs[a*c+j])[t]?:=λt ht=>by
          rw[<-zc3 (c:=nc) (n:=2) (λ_=>rfl) hk1 ht,<-g5,List.getElem?_take,if_pos (by rw[hfl];have:=zd7 ha hj;omega)];congr 1;rw[Js]
         refine⟨xs[a*c+j],?_,e0 0 (by decide),e0 1 (by decide)⟩;have h6:=hxs (a*c+j) hk1 (by rw[z26];exact zd7 ha hj);have h7:(zjk i c M)[a*c+j]'(by rw[z26];exact zd7 ha hj)=M a j:=by
          have:=Z2z (M:=M) ha hj;rw[Jc (by rw[z26];exact zd7 ha hj)]at this;exact J9 this
         rw[h7]at h6;exact h6
theorem Z28(hm:MF h m c r 2 (λj i=>M i j))(hA:Tq.Indep M r c)(hr:0<r)(hrr:r<=1000)(hc0:0<c)(hc:c<=11){K:Sl×Int->Hp->Prop}(H:∀y h',h.le h'->y.len=c->K (y,0) h'):zc (F.z8o m) K h:=by
 refine zd (λy h'=>y.2=0/\y.1.len=c) (λK' hk=>?_) λy h' hl hy=>by
  obtain⟨y,e⟩:=y;obtain⟨h1,h2⟩:=hy;simp only at h1 h2;subst h1;exact H y h' hl h2
 unfold F.z8o;refine zic hm hc0 (by omega) λh1 hl1=>zr rfl ?_
 refine zm2 (hm.le hl1) hc0 (by omega) (by omega) λy h2 hl2 hy=>?_
 refine zk6 hA hrr hc (λK2 hK2=>zsa hy hr hrr hc0 (by omega) hK2) (λh3 K2 hl3 hK2=>za6 hy hl3 hr (hK2 _ (Hp.le_refl _))) λx h3 hl3 hx=>hk _ _ (Hp.le_trans hl1 (Hp.le_trans hl2 hl3)) ⟨rfl,hx⟩
end
end Den
end

section
namespace Den
open Go Iv Lx
section
variable {D h E : Hp} {f : BM} {size : Nat} {x y : Sl} {cs : List Value}
theorem Bk.take(hB:Bk D h f)(hE:E.le D)(ho:Own E D size y cs):∃D' f',E.le D'/\Bk D' h f'/\OS f' size y cs/\∀b,f b≠none->f' b=f b/\¬inB y b:=by
 obtain⟨h1,h2,h3,h4⟩:=ho;cases ha:y.a with
 | none=>
   rw[ha]at h4;refine⟨D,f,hE,hB,⟨h2,h3,by rw[ha];exact h4⟩,λb _=>⟨rfl,λhh=>?_⟩⟩;obtain⟨_,h5,_⟩:=hh;rw[ha]at h5;cases h5
 | some a=>
   rw[ha]at h4;obtain⟨g1,g2,g3,b,g4,g5,g6,g7⟩:=h4;have hfb:f a.block=none:=by
    cases hf:f a.block with
    | none=>rfl
    | some ds=>have:=(hB.own _ _ hf).1;rw[g4]at this;cases this
   refine⟨D.del a.block,z1b f a.block b.cells,λk B hk=>?_,⟨λk B hk=>?_,λk ds hk=>?_⟩,⟨h2,h3,?_⟩,λk hk=>⟨Q7 λhh=>hk (hh▸hfb),λhh=>?_⟩⟩
   . unfold Hp.del;rw[if_neg (λhh=>by rw[hh,g3]at hk;cases hk)];exact hE k B hk
   . unfold Hp.del at hk;split at hk
     . cases hk
     . exact hB.le k B hk
   . by_cases hka:k=a.block
     . subst hka;rw[Z9]at hk;cases hk;refine⟨by unfold Hp.del;rw[if_pos rfl],b.elem,?_⟩;rw[hB.le _ _ g4,<-g5]
     . rw[Q7 hka]at hk;obtain⟨k1,e,k2⟩:=hB.own k ds hk;exact⟨by unfold Hp.del;rw[if_neg hka];exact k1,e,k2⟩
   . rw[ha];exact⟨g1,g2,b.cells,Z9,g6,g7⟩
   . obtain⟨x,h5,h6⟩:=hh;rw[ha]at h5;cases h5;exact hk (h6▸hfb)
theorem Bk.give(hB:Bk D h f)(ho:OS f size y cs):∃D' f',D.le D'/\Bk D' h f'/\Rd D' size y cs/\∀b,¬inB y b->f' b=f b:=by
 have how:=ho.own hB;obtain⟨h1,h2,h3,h4⟩:=how;cases ha:y.a with
 | none=>
   rw[ha]at h4;have:cs=[]:=by
    have:y.len=0:=by omega
    rw[this,Pn]at h2;exact List.length_eq_zero_iff.1 h2.symm
   subst this;refine⟨D,f,Hp.le_refl _,hB,⟨h2,by rw[ha];rfl⟩,λ_ _=>rfl⟩
 | some a=>
   rw[ha]at h4;obtain⟨g1,g2,g3,b,g4,g5,g6,g7⟩:=h4;have hle:D.le (D.ins a.block b):=Hp.le_ins g3;have how2:Own D (D.ins a.block b) size y cs:=⟨hle,h2,h3,by rw[ha];exact⟨g1,g2,g3,b,Hp.ins_same _ _ _,g5,g6,g7⟩⟩;refine⟨D.ins a.block b,λk=>if k=a.block then none else f k,hle,⟨λk B hk=>?_,λk ds hk=>?_⟩,how2.rd,λk hk=>if_neg λhh=>hk ⟨a,ha,hh.symm⟩⟩
   . by_cases hka:k=a.block
     . subst hka;rw[Hp.ins_same]at hk;cases hk;exact g4
     . rw[Hp.ins_ne hka]at hk;exact hB.le k B hk
   . by_cases hka:k=a.block
     . simp only[if_pos hka]at hk;cases hk
     . simp only[if_neg hka]at hk;rw[Hp.ins_ne hka];exact hB.own k ds hk
end
theorem zil{α:Type}{c:α->List Value}{n k:Nat}(hc:∀x,(c x).length=n){xs:List α}{x:α}(hk:k<xs.length):Zc (xs.flatMap c) (k*n) (c x)=(xs.set k x).flatMap c:=by
 unfold Zc;have e:k*n+(c x).length=(k+1)*n:=by rw[hc,Js,Pr]
 rw[e,zwj hc,znd hc,List.set_eq_take_append_cons_drop,if_pos hk,G5,Ur,Uq]
section
variable {h D : Hp} {Ks : Sl → Hp → Prop}
theorem zye{n:Nat}(hn:n<=1000000)(H:∀y D h',h.le D->LO nc 2 (NQP 2) D h' y (Jr n ((0:Int):Rat))->Ks y h'):zc (F.zap (n:Int) (-1)) Ks h:=by
 refine zd (λy h'=>∃D,h.le D/\LO nc 2 (NQP 2) D h' y (Jr n ((0:Int):Rat))) (λK' hk=>?_) λy h' _ hy=>by obtain⟨D,h1,h2⟩:=hy;exact H y D h' h1 h2
 unfold F.zap;refine Yq (n:=n) (by omega) (λi s h'=>∃D,h.le D/\LO nc 2 (NQP 2) D h' s (Jr i ((0:Int):Rat))) ⟨h,Hp.le_refl _,LO.nil⟩ ?_;rintro i s h1 hi ⟨D,hD,ho⟩ kk hkk;refine ze (λh2=>?_) (λh2=>?_)
 . have hi':i<n:=by simp only at h2;omega
   refine ho.call (Xq 2) (K1:=λz D'=>NQ D' 2 z ((0:Int):Rat)) (zlp (by decide) (by decide) λz h' _ hz=>hz) λz D3 h3 hD3 ho3 hz=>?_
   obtain⟨J,hJ⟩:∃J:(Sl×Sl×Unit)×Unit->Hp->Prop,∀s' h',J s' h'↔s'=((z.radicands,z.coefs,()),())/\h'=h3:=⟨_,λ_ _=>Pc⟩;refine zh J (λs' h' hs=>?_) ?_
   . obtain⟨rfl,rfl⟩:=(hJ _ _).1 hs;refine ho3.app (Xq 2) (bytes:=48) (zero:=[.slice zf.a zf.len zf.cap,.slice zf.a zf.len zf.cap]) (x:=z) (b:=((0:Int):Rat)) rfl (by rw[List.length_replicate];omega) (by rw[List.length_replicate];omega) hz λw h5 hw=>hkk _ _ hi' ⟨D3,Hp.le_trans hD hD3,?_⟩
     rw[List.replicate_succ'];exact hw
   . exact zu (λhh=>absurd hh (by simp only;omega)) λ_=>(hJ _ _).2 ⟨rfl,rfl⟩
 . have:i=n:=by simp only at h2;omega
   subst this;exact hk _ _ (Hp.le_trans hD ho.dle) ⟨D,hD,ho⟩
def zwe(p:Int×Int):List Value:=[.int .i8 p.1,.int .i8 p.2]
def AT(h:Hp)(l:Sl)(ps:List (Int×Int)):Prop:=Rd h 2 l (ps.flatMap zwe)/\∀p∈ps,-128<=p.1/\p.1<=127/\-128<=p.2/\p.2<=127
theorem AT.le{h':Hp}{l:Sl}{ps:List (Int×Int)}(ha:AT h l ps)(hl:h.le h'):AT h' l ps:=⟨ha.1.le hl,ha.2⟩
def cp(t:Nat)(p:Int×Int):Int:=if t=0 then p.1 else p.2
def Zjy(t:Nat)(ps:List (Int×Int))(v:Int):Rat:=((cp t (ps.getD v.toNat (0,0)):Int):Rat)
theorem Z10{E ps:List (Int×Int)}{i j:Nat}:Tq.frameM E (zci ps) (ze2 ps) i j=Tq.coef (Zjy (i % 2) ps) (E.getD j (0,0)) ((i/2:Nat):Int):=by
 unfold Tq.frameM;rcases(by omega:i % 2=0\/i % 2=1)with h | h
 . rw[if_pos h,h];rfl
 . rw[if_neg (by omega),h];rfl
theorem Zik{t:Nat}{p:Int×Int}(h:-128<=p.1/\p.1<=127/\-128<=p.2/\p.2<=127):-128<=cp t p/\cp t p<=127:=by unfold cp;split<;>omega
theorem AT.get{l:Sl}{ps:List (Int×Int)}(ha:AT h l ps){z w:Int}(v t:Nat)(hz:z=v)(hw:w=t)(hv:v<ps.length)(ht:t<2){K:Int->Prop}(H:-128<=cp t (ps.getD v (0,0))->cp t (ps.getD v (0,0))<=127->K (cp t (ps.getD v (0,0)))) :
 zg l z 2 λa=>ze0 w 2 (ldL (.int .i8) (a.add (w.toNat*1)) K h):=by
 subst hz hw;have e:ps.getD v (0,0)=ps[v]:=by rw[Jf,Jc hv];rfl
 have hr:=Zik (t:=t) (ha.2 _ (Jh hv));rw[e]at H;refine zle (c:=zwe) (n:=2) (λ_=>rfl) (by decide) ha.1 v rfl hv λa hc=>?_
 unfold ze0;rw[decide_eq_true (show 0<=(t:Int)/\(t:Int)<(2:Nat)by omega)];refine⟨cp t ps[v],?_,H hr.1 hr.2⟩;rw[show((t:Int)).toNat*1=t from J7 t];refine hc t _ ht ?_;rcases(by omega:t=0\/t=1)with rfl | rfl<;>rfl
def Z26(n:Nat)(E ps:List (Int×Int))(j t i:Nat):Rat:=if i % 2<t then Tq.frameM E (zci ps) (ze2 ps) i j else ((0:Int):Rat)
theorem Z27{n a b j t i:Nat}{E ps:List (Int×Int)}(hj:j<E.length)(ha:E[j].1=(a:Int))(hb:E[j].2=(b:Int))(hab:a≠b)(ht:t<2) :
 Z26 n E ps j (t+1) i=if i=2*b+t then ((-(cp t (ps.getD a (0,0))-cp t (ps.getD b (0,0))):Int):Rat)else if i=2*a+t then ((cp t (ps.getD a (0,0))-cp t (ps.getD b (0,0)):Int):Rat)else Z26 n E ps j t i:=by
 have eE:E.getD j (0,0)=E[j]:=by rw[Jf,Jc hj];rfl
 have pa:Zjy t ps (a:Int)=((cp t (ps.getD a (0,0)):Int):Rat):=rfl;have pb:Zjy t ps (b:Int)=((cp t (ps.getD b (0,0)):Int):Rat):=rfl;unfold Z26;rw[Z10,eE];unfold Tq.coef;rw[ha,hb];by_cases h1:i=2*b+t
 . rw[if_pos h1,if_pos (by omega)];have e1:i % 2=t:=by omega
   have e2:i/2=b:=by omega
   rw[e1,e2,if_neg (by omega),if_pos rfl,pa,pb,<-Ld];congr 1;omega
 . rw[if_neg h1];by_cases h2:i=2*a+t
   . rw[if_pos h2,if_pos (by omega)];have e1:i % 2=t:=by omega
     have e2:i/2=a:=by omega
     rw[e1,e2,if_pos rfl,pa,pb,<-Ld]
   . rw[if_neg h2];by_cases h3:i % 2=t
     . rw[if_pos (by omega),if_neg (by omega),if_neg (by omega),if_neg (by omega)];rfl
     . by_cases h4:i % 2<t
       . rw[if_pos (by omega),if_pos h4]
       . rw[if_neg (by omega),if_neg h4]
theorem zkb{G:TGraph}{es ps:List (Int×Int)}{at_:Sl}{n:Nat}(hl:LR a2c 2 A2P h G.edges es)(hn:G.n=(n:Int))(hn2:n<=60)(hlen:es.length<=3600)(hE:∀e∈es,0<=e.1/\e.1<n/\0<=e.2/\e.2<n/\e.1≠e.2)(hat:AT h at_ ps)(hps:ps.length=n)
 (H:∀y h',h.le h'->MF h' y es.length (2*n) 2 (λj i=>Tq.frameM es (zci ps) (ze2 ps) i j)->Ks y h'):zc (F.z5k G at_) Ks h:=by
 refine zd (λy h'=>MF h' y es.length (2*n) 2 (λj i=>Tq.frameM es (zci ps) (ze2 ps) i j)) (λK' hk=>?_) λy h' hl hy=>H y h' hl hy
 unfold F.z5k;have hll:=hl.len yb;obtain⟨Mt,hMt⟩:∃Mt:Nat->Nat->Rat,Mt=λj i=>Tq.frameM es (zci ps) (ze2 ps) i j:=⟨_,rfl⟩
 rw[<-hMt]at hk;refine Yq (n:=es.length) (by omega) (λj s h'=>∃D f,h.le D/\Bk D h' f/\∃ss:List Sl,OS f 1 s (ss.map slV)/\ss.length=j/\∀k (hk:k<ss.length),RwF 2 (2*n) Mt D ss[k] k) ⟨h,zcg,Hp.le_refl _,Bk.start,[],OS.nil,rfl,λk hk=>by simp at hk⟩ ?_;rintro j s h1 hj ⟨D1,f1,hD1,hB1,ss,hos,hss,hrw⟩ kk hkk;refine ze (λh2=>?_) (λh2=>?_)
 . have hj':j<es.length:=by simp only at h2;omega
   refine(hl.le yb (Hp.le_trans hD1 hB1.le)).get yb j rfl hj' λa3 e he hc=>⟨_,hc 0 _ rfl,_,hc 1 _ rfl,?_⟩
   obtain⟨q1,q2,q3,q4,q5⟩:=hE _ (Jh hj');obtain⟨x1,x2⟩:=he;rw[x1,x2];obtain⟨a,ha⟩:∃a:Nat,es[j].1=(a:Int):=⟨es[j].1.toNat,by omega⟩;obtain⟨b,hb⟩:∃b:Nat,es[j].2=(b:Int):=⟨es[j].2.toNat,by omega⟩;have han:a<n:=by omega
   have hbn:b<n:=by omega
   have hab:a≠b:=by omega
   simp only[ha,hb];have e2n:i64.wrap (2*G.n)=((2*n:Nat):Int):=by rw[hn,w64 (by omega)];omega
   rw[e2n];refine hB1.call (K1:=λy D'=>∃E,D1.le E/\LO nc 2 (NQP 2) E D' y (Jr (2*n) ((0:Int):Rat))) (zye (by omega) λy E h' hE hy=>⟨E,hE,hy⟩) λy D2 h3 hD2 hB2 hy=>?_
   obtain⟨E,hE1,X0,hX0,hX0l,hX0q⟩:=hy;obtain⟨D3,f3,hD3,hB3,hy3,hf3⟩:=hB2.take hX0.1 hX0;have hos3:OS f3 1 s (ss.map slV):=hos.congr λb hb=>(hf3 b (hos.there hb)).1
   have apt3:∀b,inB s b->¬inB y b:=λb hb=>(hf3 b (hos.there hb)).2
   have hX0l2:X0.length=2*n:=by rw[hX0l,List.length_replicate]
   refine yg (n:=2) (by omega) (λt h'=>∃D f,D3.le D/\Bk D h' f/\∃X:List TNumber,OS f 2 y (X.flatMap nc)/\X.length=2*n/\(∀i (hi:i<X.length),NQ D 2 X[i] (Z26 n es ps j t i))/\∀b,¬inB y b->f b=f3 b) ⟨D3,f3,Hp.le_refl _,hB3,X0,hy3,hX0l2,λi hi=>?_,λ_ _=>rfl⟩ ?_
   . have h4:=hX0q i hi (by rw[List.length_replicate];omega);rw[List.getElem_replicate]at h4;unfold Z26;rw[if_neg (by omega)];have h5:NQ E 2 X0[i] ((0:Int):Rat):=h4;exact h5.le hD3
   . rintro t h4 ht2 ⟨D4,f4,hD4,hB4,X,hyX,hXl,hXq,hf4⟩ k7 hk7;have hle4:h.le h4:=Hp.le_trans hD1 (Hp.le_trans hE1 (Hp.le_trans hD3 (Hp.le_trans hD4 hB4.le)));refine ze (λh5=>?_) (λh5=>?_)
     . have ht:t<2:=by simp only at h5;omega
       refine(hat.le hle4).get a t rfl rfl (by omega) ht λra1 ra2=>?_
       refine(hat.le hle4).get b t rfl rfl (by omega) ht λrb1 rb2=>?_
       obtain⟨za,hza⟩:∃za,za=cp t (ps.getD a (0,0)):=⟨_,rfl⟩;obtain⟨zb,hzb⟩:∃zb,zb=cp t (ps.getD b (0,0)):=⟨_,rfl⟩;rw[<-hza]at ra1 ra2;rw[<-hzb]at rb1 rb2;rw[<-hza,<-hzb];have w1:i64.wrap za=za:=w64 (by omega);have w2:i64.wrap zb=zb:=w64 (by omega);have w3:i64.wrap (za-zb)=za-zb:=w64 (by omega);have w4:i64.wrap (0-(za-zb))=-(za-zb):=by rw[w64 (by omega)];omega
       have wa:i64.wrap (2*(a:Int))=2*(a:Int):=w64 (by omega);have wb:i64.wrap (2*(b:Int))=2*(b:Int):=w64 (by omega);have wc:i64.wrap (2*(a:Int)+(t:Int))=((2*a+t:Nat):Int):=by rw[w64 (by omega)];omega
       have wd:i64.wrap (2*(b:Int)+(t:Int))=((2*b+t:Nat):Int):=by rw[w64 (by omega)];omega
       simp only[w1,w2,w3,w4,wa,wb,wc,wd];refine hB4.call (K1:=λz D'=>NQ D' 2 z (((za-zb):Int):Rat)) (z99 (by omega) (by omega) λz h' _ hz=>hz) λr12 D5 h6 hD5 hB5 h12=>?_
       refine hB5.call (K1:=λz D'=>NQ D' 2 z (((-(za-zb)):Int):Rat)) (z99 (by omega) (by omega) λz h' _ hz=>hz) λr13 D6 h7 hD6 hB6 h13=>?_
       have hyl:y.len=2*n:=by
        have:=hyX.1;rw[Xc (c:=nc) (n:=2) (λ_=>rfl),hXl]at this;exact Gn (by decide) this
       refine hyX.st (vs:=nc r12) (2*a+t) hB6 rfl (by omega) rfl (by decide) rfl λf7 h8 hB7 ho7 hf7=>?_
       rw[zil (c:=nc) (n:=2) (λ_=>rfl) (by omega)]at ho7;refine ho7.st (vs:=nc r13) (2*b+t) hB7 rfl (by omega) rfl (by decide) rfl λf8 h9 hB8 ho8 hf8=>hk7 _ ht ⟨D6,f8,Hp.le_trans hD4 (Hp.le_trans hD5 hD6),hB8,(X.set (2*a+t) r12).set (2*b+t) r13,?_,by simp[hXl],λi hi=>?_,λb hb=>by rw[hf8 b hb,hf7 b hb,hf4 b hb]⟩
       . rw[zil (c:=nc) (n:=2) (λ_=>rfl) (by simp;omega)]at ho8;exact ho8
       . rw[Z27 hj' ha hb hab ht,<-hza,<-hzb,List.getElem_set];by_cases e1:i=2*b+t
         . rw[if_pos e1,if_pos e1.symm];exact h13
         . rw[if_neg e1,if_neg (λhh=>e1 hh.symm),List.getElem_set];by_cases e2:i=2*a+t
           . rw[if_pos e2,if_pos e2.symm];exact h12.le hD6
           . rw[if_neg e2,if_neg (λhh=>e2 hh.symm)];exact(hXq i (by simpa using hi)).le (Hp.le_trans hD5 hD6)
     . have ht:t=2:=by simp only at h5;omega
       subst ht;obtain⟨D5,f5,hD5,hB5,hr5,hf5⟩:=hB4.give hyX;have hos5:OS f5 1 s (ss.map slV):=hos3.congr λb hb=>by rw[hf5 b (apt3 b hb),hf4 b (apt3 b hb)]
       have hsl:s.len=j:=by have:=hos5.1;rw[J1,hss,J7]at this;exact this
       have hcap:=hyX.2.1;have hDD:D1.le D5:=Hp.le_trans hE1 (Hp.le_trans hD3 (Hp.le_trans hD4 hD5));refine hos5.app hB5 (n:=1) (new:=[slV y]) rfl rfl rfl (by omega) (by omega) λw f6 h6 hB6 ho6 _ _=>hkk _ _ hj' ⟨D5,f6,Hp.le_trans hD1 hDD,hB6,ss++[y],by rw[Uf];exact ho6,by rw[Je,hss];rfl,λk k1=>?_⟩
       rcases Jo k ss.length with h8 | h8
       . rw[Tk h8];exact(hrw k h8).le (Xq 2) hDD
       . have:k=ss.length:=by simp at k1;omega
         subst this;rw[Te (Ja _)];simp only[Nat.sub_self,Ua];refine⟨X,hr5,hcap,by simp[hXl],λi i1 i2=>?_⟩;rw[Ts,z7g];have h9:=(hXq i i1).le hD5;unfold Z26 at h9;rw[if_pos (by omega)]at h9;rw[hss,hMt];exact h9
 . have:j=es.length:=by simp only at h2;omega
   subst this;have hsl:s.len=ss.length:=by have:=hos.1;rw[J1,J7]at this;exact this
   refine hk _ _ (Hp.le_trans hD1 hB1.le) ⟨ss,by rw[zz5];exact hos.rd hB1,hos.2.1,by rw[Ti];exact hss,λk k1 k2=>?_⟩;rw[z7g];exact(hrw k k1).le (Xq 2) hB1.le
end
end Den
end

section
namespace Den
open Go Iv Lx
section
variable {h : Hp} {es : List (Int × Int)} {Kb : Bool → Hp → Prop} {Ks : Sl → Hp → Prop}
end
end Den
end

section
namespace Den
open Go Iv Lx
def z27(e:Int×Int)(x:TRat):PCon:=⟨2,[e.1,e.2],[],[.mk 1 x (some ((5:Int):Rat)) Y3 []],0⟩
def ptF(p:Int×Int):Option Rat×Option Rat:=(some ((p.1:Int):Rat),some ((p.2:Int):Rat))
def FSk(es ps:List (Int×Int))(S:PSk):Prop:=S.pts=ps.map ptF/\S.cir=[]/\S.seg=[]/\S.arc=[]/\S.chn=[]/\∃xs:List TRat,xs.length=es.length/\(∀x∈xs,x.num.mag.len<=2/\x.den.mag.len<=2)/\S.con=(Jp es.length).map λi=>z27 (es.getD i (0,0)) (xs.getD i ⟨⟨false,zf⟩,⟨false,zf⟩⟩)
section
variable {h : Hp}
theorem zue{x:TRat}{n:Int}(h1:-9223372036854775808<=n)(h2:n<=9223372036854775807)(hx:NR h x (n:Rat)):OR h x (some (n:Rat))/\x.num.mag.len<=2/\x.den.mag.len<=2:=by
 have hl:=hx.lens (zob h1 h2);exact⟨⟨hx.ar,by omega,by omega,λq=>⟨λhq=>by rw[hx.inj hq],λhq=>by cases hq;exact hx⟩⟩,hl⟩
theorem z9k{G:TGraph}{es ps:List (Int×Int)}{at_:Sl}{n:Nat}{K:TSketch->Hp->Prop}(hl:LR a2c 2 A2P h G.edges es)(hn:G.n=(n:Int))(hn2:n<=60)(hlen:es.length<=3600)(hat:AT h at_ ps)(hps:ps.length=n)
 (H:∀s S h',h.le h'->SK h' s S->FSk es ps S->K s h'):zc (F.z0i G at_) K h:=by
 refine zd (λs h'=>∃S,SK h' s S/\FSk es ps S) (λK' hk=>?_) λs h' hl hs=>by obtain⟨S,h1,h2⟩:=hs;exact H s S h' hl h1 h2
 unfold F.z0i;have hll:=hl.len yb;refine Yq (n:=n) (by omega) (λi s h'=>s.2=(zf,zf,zf,zf,zf,())/\∃D,h.le D/\LO ptc 8 PTT D h' s.1 ((ps.take i).map ptF)) ⟨rfl,h,Hp.le_refl _,LO.nil⟩ ?_;rintro i ⟨s,sr⟩ h1 hi ⟨rfl,D,hD,ho⟩ kk hkk;simp only[hn];refine ze (λh2=>?_) (λh2=>?_)
 . have hi':i<n:=by have h2:(i:Int)<(n:Int):=h2;omega
   have hip:i<ps.length:=by omega
   have hr:=hat.2 _ (Jh hip);have hal:=hat.le (Hp.le_trans hD ho.dle);refine zle (c:=zwe) (n:=2) (λ_=>rfl) (by decide) hal.1 i rfl hip λa3 hc3=>⟨ps[i].1,hc3 0 _ (by decide) rfl,?_⟩
   refine zle (c:=zwe) (n:=2) (λ_=>rfl) (by decide) hal.1 i rfl hip λa5 hc5=>⟨ps[i].2,hc5 1 _ (by decide) rfl,?_⟩
   have w1:i64.wrap ps[i].1=ps[i].1:=w64 (by omega);have w2:i64.wrap ps[i].2=ps[i].2:=w64 (by omega);simp only[w1,w2];refine ho.call z13 (K1:=λz D'=>NR D' z ((ps[i].1:Int):Rat)) (Wr (by omega) (by omega) λz h' _ hz=>hz) λz D3 h3 hD3 ho3 hz=>?_
   refine ho3.call z13 (K1:=λz D'=>NR D' z ((ps[i].2:Int):Rat)) (Wr (by omega) (by omega) λz h' _ hz=>hz) λw D4 h4 hD4 ho4 hw=>?_
   have hlt:((ps.take i).map ptF).length=i:=by rw[J1,Jl,Gk (by omega)]
   refine ho4.app z13 (bytes:=128) (zero:=[.bool false,.slice zf.a zf.len zf.cap,.bool false,.slice zf.a zf.len zf.cap,.bool false,.slice zf.a zf.len zf.cap,.bool false,.slice zf.a zf.len zf.cap]) (x:=⟨z,w⟩) (b:=ptF ps[i]) rfl (by rw[hlt];omega) (by rw[hlt];omega) ⟨(zue (by omega) (by omega) (hz.le hD4)).1,(zue (by omega) (by omega) hw).1⟩ λy h5 hy=>hkk (y,zf,zf,zf,zf,zf,()) _ hi' ⟨rfl,D4,Hp.le_trans hD (Hp.le_trans hD3 hD4),?_⟩
   rw[<-Jk hip,Uf];exact hy
 . have:i=n:=by have h2:¬(i:Int)<(n:Int):=h2;omega
   subst this;rw[Jd (by omega)]at ho;have hp1:=ho.lr z13;have hhl:=Hp.le_trans hD ho.dle;obtain⟨cf,hcf⟩:∃cf:List TRat->Nat->PCon,cf=λxs k=>z27 (es.getD k (0,0)) (xs.getD k ⟨⟨false,zf⟩,⟨false,zf⟩⟩):=⟨_,rfl⟩
   refine Yq (n:=es.length) (by omega) (λj t h'=>(t.1=s/\t.2.1=zf/\t.2.2.1=zf/\t.2.2.2.1=zf/\t.2.2.2.2.1=zf)/\∃D xs,h1.le D/\xs.length=j/\(∀x∈xs,x.num.mag.len<=2/\x.den.mag.len<=2)/\LO cc 5 CO D h' t.2.2.2.2.2.1 ((Jp j).map (cf xs))) ⟨⟨rfl,rfl,rfl,rfl,rfl⟩,h1,[],Hp.le_refl _,rfl,λx hx=>by simp at hx,LO.nil⟩ ?_;rintro j ⟨s,t1,t2,t3,t4,t,_⟩ h3 hj ⟨⟨rfl,rfl,rfl,rfl,rfl⟩,D2,xs,hD2,hxl,hxs,ho2⟩ k11 hk11;simp only at ho2;have hle3:=Hp.le_trans hhl (Hp.le_trans hD2 ho2.dle);refine ze (λh4=>?_) (λh4=>?_)
   . have hj':j<es.length:=by simp only at h4;omega
     refine(hl.le yb hle3).get yb j rfl hj' λa12 e he hc=>⟨_,hc 0 _ rfl,_,hc 1 _ rfl,?_⟩
     rw[he.1,he.2];refine ho2.call yw (K1:=λz D'=>NR D' z ((5:Int):Rat)) (Wr (by decide) (by decide) λz h' _ hz=>hz) λz D5 h5 hD5 ho5 hz=>?_
     refine ho5.newb yw λa6 D6 h6 hD6 _ ho6 hc6=>?_
     refine ho6.newb yw λa7 D7 h7 hD7 _ ho7 hc7=>?_
     obtain⟨hor,hzl⟩:=zue (by decide) (by decide) (hz.le (Hp.le_trans hD6 hD7));have hIL:IL D7 ⟨some a6,2,2⟩ [es[j].1,es[j].2]:=⟨(z3w hc6 rfl).le hD7,Ja _⟩;have hEX:LR ec 7 EX D7 ⟨some a7,1,1⟩ [PEx.mk 1 z (some ((5:Int):Rat)) Y3 []]:=by
      refine⟨[⟨1,z,Y3,zf⟩],z3w hc7 rfl,Ja _,rfl,λk k1 k2=>?_⟩;have:k=0:=by simp at k1;omega
      subst this;exact EX.mk (⟨1,z,Y3,zf⟩:TExpr) (some ((5:Int):Rat)) [] [] hor Rd.nil (Ja _) rfl λk k1 _=>by simp at k1
     have hgj:es.getD j (0,0)=es[j]:=by rw[Jf,Jc hj'];rfl
     refine ho7.app yw (bytes:=88) (zero:=[.int .i64 0,.slice zf.a zf.len zf.cap,.slice zf.a zf.len zf.cap,.slice zf.a zf.len zf.cap,.int .i64 0]) (x:=⟨2,⟨some a6,2,2⟩,zf,⟨some a7,1,1⟩,0⟩) (b:=z27 es[j] z) rfl (by rw[J1,Ti];omega) (by rw[J1,Ti];omega) ⟨rfl,hIL,IL.nil,hEX,rfl⟩ λy h8 hy=>hk11 (s,zf,zf,zf,zf,y,()) _ hj' ⟨⟨rfl,rfl,rfl,rfl,rfl⟩,D7,xs++[z],Hp.le_trans hD2 (Hp.le_trans hD5 (Hp.le_trans hD6 hD7)),by rw[Je,hxl];rfl,λx hx=>?_,?_⟩
     . rcases Ub.1 hx with hx | hx
       . exact hxs x hx
       . rw[J6.1 hx];exact hzl
     . have e1:(Jp (j+1)).map (cf (xs++[z]))=(Jp j).map (cf xs)++[z27 es[j] z]:=by
        rw[Gp,Uf];congr 1
        . refine List.map_congr_left λk hk=>?_
          have hk:=List.mem_range.1 hk;rw[hcf];simp only;rw[Jf (l:=xs++[z]),Uh (by omega),<-Jf]
        . rw[hcf];simp only[U3,Pg];rw[hgj,Jf,Uz (by omega),hxl,Nat.sub_self];rfl
       rw[e1];exact hy
   . have:j=es.length:=by simp only at h4;omega
     subst this;refine hk _ _ hle3 ⟨⟨ps.map ptF,[],[],[],[],(Jp es.length).map (cf xs)⟩,⟨(hp1.le z13 (Hp.le_trans hD2 ho2.dle)),LR.nil,LR.nil,LR.nil,LR.nil,ho2.lr yw⟩,rfl,rfl,rfl,rfl,rfl,xs,hxl,hxs,by rw[hcf]⟩
end
end Den
end
