/- Part 4 of the tools of the proof. -/
import Derived.Test.YtmmloncoopohfaaGreatDoorPartm3
set_option linter.all false
open Go.IntKind
open Den (zO zD zS zV)
open Den.Hp renaming le_trans→Ja,le_refl→Jf,cD→Uy
open List renaming take_succ_eq_append_getElem→Jc,take_of_length_le→Je,length_cons→Ji,length_take→Jk,replicate→Jl,getElem?_eq_getElem→Jp,length_append→Jq,length_eq_zero_iff→Ju,getElem_append_left→J2,getElem_append_right→J3,take_length→J5,append_assoc→J8,getElem_cons_zero→Ud,drop_eq_getElem_cons→Uf,getD_eq_getElem?_getD→Uj,length_drop→Uv,mem_singleton→Uz,eq_nil_of_length_eq_zero→U3,take_append_of_le_length→U4,length_pos_iff→Gw,replicate_append_replicate→Gy,getElem?_eq_none→G3,drop_eq_nil_of_le→G7,drop_zero→Tf,replicate_succ→Tu,flatMap_cons→T3,getElem_take→Ps,getElem_set_self→Lk,getElem?_take→Lp
open Nat renaming le_refl→Jd,mul_le_mul_right→Jm,le_trans→Jo,mul_le_mul_left→Jr,zero_le→Jt,lt_or_ge→Jx,pow_le_pow_right→Jz,mul_comm→J4,mul_assoc→J6,two_pow_pos→J7,add_mul→J9,pow_succ→Uc,mod_eq_of_lt→Ui,zero_add→Uo,gcd→Uq,mul_add→U5,mul_one→U6,lt_of_le_of_lt→U7,mod_lt→Ga,min_eq_left→Gh,pow_add→Gm,eq_zero_or_pos→Gs,mul_le_mul→Gt,gcd_dvd_right→Gu,add_sub_cancel_left→Gz,add_zero→G0,div_le_self→G6,pow_lt_pow_right→G8,div_lt_iff_lt_mul→Ta,lt_of_lt_of_le→Tc,add_assoc→Tk,eq_of_mul_eq_mul_left→Tl,mul_zero→Tv,dvd_trans→Tz,Coprime→T4,pos_of_ne_zero→T6,gcd_dvd_left→Pa,le_div_iff_mul_le→Pb,div_eq_of_lt→Pl,zero_mul→Pm,le_of_dvd→Pu,sub_self→Py,le_mul_of_pos_right→P7,le_of_not_lt→P9,one_mul→La,le_of_lt→Lg,div_mul_le_self→L6
open Int renaming natAbs_natCast→Jh,natCast_mul→Ug,sign_eq_neg_one_of_neg→Us,mul_ediv_cancel_left→Ux,natAbs_mul→Gf,sign_eq_one_of_pos→Gi,mul_assoc→Tq,natAbs_ediv_le_natAbs→Pr,mul_comm→Pw,mul_ne_zero→Px,natCast_dvd_natCast→Lb,mul_left_comm→Lh,eq_of_mul_eq_mul_left→Lj,one_mul→L5
open Option.some renaming injEq→Js,inj→Gg
open Rat renaming divInt→Jw,num_eq_zero→Td,div_mul_cancel→Tr,zero_mul→Po,num_divInt_den→P4
open Bool renaming false_eq_true→Ur
open Option renaming map_some→Gp
open Den.Value renaming leaf→Tb
open BitVec renaming ofInt_natCast→Pe,toNat_ofNat→Pf,ofInt→Ld,ofNat→L8
open Nat.Coprime renaming mul_right→Lm
open Go Den
variable {D h h' h0:Hp}{a:aE}{x y:Sl}{A C j k:Nat}{m n:Int}{K:zY Sl}{KI:zY aE}{KR:zY aC}{KV:zY aH}{Ki:zY Int}{Kb:zY Bool}{xs:List aC}{p vs:List Rat}{Kp:zY (Sl × Sl)}{KE:zY (aE × Int)}{KP:zY (aE × aE × Int)}
section
namespace Iv
def zqi{X V P w v1 v2 u num qh rh:Nat}(hX:X<(num*w+u+1)*P)(hV:(v1*w+v2)*P<=V)(LH:0<V)(oZ:qh*v1+rh=num)
 (hlt:X<V*w) (hc:w<=qh\/rh*w+u<qh*v2):X/V<qh:=by
 rw[Ta LH];rcases hc with hc | hc
 exact Tc hlt (by rw[J4];exact Jm _ hc)
 . have h1:num*w+u+1<=qh*(v1*w+v2):=by
    rw[<-oZ,U5,J9,<-J6];omega
   have h2:(num*w+u+1)*P<=qh*((v1*w+v2)*P):=by
    rw[<-J6];exact Jm _ h1
   have h3:qh*((v1*w+v2)*P)<=qh*V:=Jr _ hV;omega
def zqj{X V P w v1 v2 u num qh rh un kg:Nat}(hw:1<w)(hX:(num*w+u)*P<=X)(hV:V<(v1*w+v2+1)*P)(LH:0<V)(hP:0<P)(oZ:qh*v1+rh=num)(hn:num=un*w+kg)
 (qC:w<=2*v1) (tV:un<=v1) (tW:kg<w) (jh:v2<w) (hu:u<w)
 (hc:w<=rh\/(qh<w/\qh*v2<=rh*w+u)):qh<w/\qh<=X/V+1:=by
 have o0:0<v1:=zO;have h1:qh<w:=by
  rcases hc with hc | hc
  . have h2:un*w<=v1*w:=Jm _ tV;have h3:qh*v1<w*v1:=by rw[J4 w v1];omega
    exact Nat.lt_of_mul_lt_mul_right h3
  exact hc.1
 refine⟨h1,?_⟩;have h2:qh*v2<=rh*w+u:=by
  rcases hc with hc | hc
  . have a1:qh*v2<=w*w:=Gt zO zO;have a2:w*w<=rh*w:=Jm _ hc;omega
  exact hc.2
 have h3:qh*(v1*w+v2)<=num*w+u:=by
  rw[<-oZ,U5,J9,<-J6];omega
 rcases Gs qh with h0 | h0
 rw[h0];exact Jt _;obtain⟨q1,rfl⟩:∃q1,qh=q1+1:=⟨qh-1,zO⟩;have h4:q1*(v1*w+v2+1)<=num*w+u:=by
  rw[U5,U6];rw[J9]at h3;have:w<=v1*w:=Nat.le_mul_of_pos_left _ o0;omega
 have h5:q1*V<=X:=by
  have a1:q1*V<=q1*((v1*w+v2+1)*P):=Jr _ (Lg hV);have a2:q1*((v1*w+v2+1)*P)<=(num*w+u)*P:=by
   rw[<-J6];exact Jm _ h4
  omega
 exact Nat.succ_le_succ ((Pb LH).2 h5)
def Zxs{l:List Nat}(ok:aX l){n:Nat}(hl:l.length=n+2):∃P lo,P=W ^ n/\lo<P/\vl l=(l.getD (n+1) 0*W+l.getD n 0)*P+lo/\lo=vl (l.take n):=by
 refine⟨W ^ n,vl (l.take n),rfl,?_,?_,rfl⟩
 . have:=sI (u9 ok n);rw[Jk,Gh zO]at this;exact this
 . have e1:=Den.Dy l n;have e2:=Den.Dy l (n+1);rw[Je zO]at e2;rw[e2,e1,Uc,J9,J6 (l.getD (n+1) 0),J4 (W ^ n) W,J4 (l.getD (n+1) 0),J4 (l.getD n 0)];omega
def Y11{l:List Nat}(ok:aX l){n:Nat}(hl:l.length=n+3):∃P lo,P=W ^ n/\lo<P/\vl l=((l.getD (n+2) 0*W+l.getD (n+1) 0)*W+l.getD n 0)*P+lo:=by
 obtain⟨P,lo,h1,h2,h3,h4⟩:=Zxs ok (n:=n+1) zO;refine⟨W ^ n,vl (l.take n),rfl,?_,?_⟩
 . have:=sI (u9 ok n);rw[Jk,Gh zO]at this;exact this
 . rw[h3,h4,Den.Dy,h1,Uc];have:(l.getD (n+2) 0*W+l.getD (n+1) 0)*(W ^ n*W)=(l.getD (n+2) 0*W+l.getD (n+1) 0)*W*W ^ n:=by
    rw[J4 (W ^ n) W,J6]
   rw[this,J9 _ (l.getD n 0),J4 (l.getD n 0)];omega
def zfq{l:List Nat}(ok:aX l){a b:Nat}(h:vl (l.drop a)<W ^ b):vl (l.drop (a+b))=0:=by
 rcases Jx (l.drop a).length b with h1 | h1
 rw[G7 (by rw[Uv]at h1;omega)];rfl
 . have:=Ym (l:=l.drop a) (k:=b) h1;rw[List.drop_drop]at this;rcases Gs (vl (l.drop (a+b)))with h2 | h2
   exact h2
   . have:W ^ b<=W ^ b*vl (l.drop (a+b)):=P7 _ h2;omega
end Iv
namespace Den
open Go Iv
def jH.refl{b:Nat}{h:Hp}:jH b h h:=λ_ _ _ hk=>hk
def jH.trans{b:Nat}{h h1 h2:Hp}(x:jH b h h1)(y:jH b h1 h2):jH b h h2:=λk B cd hk=>y k B cd (x k B cd hk)
def zG{x:Sl}{j e:Nat}{i:Int}{k:Nat}{F:Addr->Prop}(hi:i=k)(hk:k<e-j)(he:e<=x.cap)(H:zi x ((j+k:Nat):Int) 1 F):zi (x.cut j e 1) i 1 F:=by
 subst hi;obtain⟨_,_,h3⟩:=H;refine⟨zO,?_,?_⟩;show(k:Int)<((e-j:Nat):Int);omega
 . have:(x.cut j e 1).a=x.a.map (·.add (j*1)):=by show(if x.cap=j then _ else _)=_;rw[if_neg zO]
   rw[this];cases ha:x.a with
   | none=>rw[ha]at h3;exact h3
   | some a=>
     rw[ha]at h3;simp only[Yv,Gp]at h3 |-
     rw[Vw];have e1:(((j+k:Nat):Int)).toNat=j+k:=rfl;have e2:((k:Int)).toNat=k:=rfl;rw[e1]at h3;rw[e2];rw[show j*1+k*1=(j+k)*1 by omega];exact h3
def zx7{x:Sl}{lo hi:Int}{K:Sl->Prop}(a b:Nat)(ha:lo=a)(hb:hi=b)(tI:a<=b)(hc:b<=x.cap)(H:K (x.cut a b 1)):ca x lo hi 1 K:=by
 subst ha hb;exact⟨zO,zO,zO,H⟩
section
variable {u:Sl}{L m:List Nat}{a0:Addr}{d:Nat}{Ku:zY Unit}
def DA{i:Int}{v:Int}{K:Hp->Prop}(k n:Nat)(ha0:u.a=some a0)(ho:Yz h0 h u L)(hi:i=k)(hk:k<L.length)(hv:v=n)
 (H:∀h',jH a0.block h h'->Yz h0 h' u (L.set k n)->K h'):zi u i 1 λa=>bD a [.int .u32 v] K h:=
 Vn k n ho hi hk hv λh' b h1 _ h3 h4=>H h' (by rw[h1 _ ha0];exact h3) h4
def Zl4{x d c z:Nat}(hx:x<W)(hd:d<W)(hc:c<=W)(hz:z<W):∃r b:Nat,r<W/\b<=W/\z+W*b=r+(x*d+c) /\
 u32.wrap (u64.wrap (u64.wrap (z:Int)-u64.wrap (u32.wrap (u64.wrap (u64.wrap (u64.wrap (x:Int)*(d:Int))+(c:Int))))))=(r:Int) /\
 u64.wrap ((u64.wrap (u64.wrap (u64.wrap (x:Int)*(d:Int))+(c:Int))).fdiv (2 ^ (min (32:Int).toNat u64.bits)) +
  (u64.wrap (u64.wrap (z:Int)-u64.wrap (u32.wrap (u64.wrap (u64.wrap (u64.wrap (x:Int)*(d:Int))+(c:Int)))))).fdiv (2 ^ (min (63:Int).toNat u64.bits)))=(b:Int):=by
 unfold W at *;have hxd:x*d<=4294967295*4294967295:=Gt zO zO;have e1:u64.wrap (u64.wrap (u64.wrap (x:Int)*(d:Int))+(c:Int))=((x*d+c:Nat):Int):=by
  rw[iy (n:=x) zO,show((x:Int)*(d:Int))=((x*d:Nat):Int)by simp,iy (n:=x*d) zO,show(((x*d:Nat):Int)+(c:Int))=((x*d+c:Nat):Int)by simp,iy zO]
 rw[e1,Zoh,Zyj];simp only[ve,LF];have ht:x*d+c<=4294967295*4294967295+4294967296:=zO;generalize x*d+c=t at *;by_cases hb:t % 4294967296<=z;exact⟨z-t % 4294967296,t/4294967296,zO,zO,zO,zO,zO⟩;exact⟨z+4294967296-t % 4294967296,t/4294967296+1,zO,zO,zO,zO,zO⟩
def UG{L:List Nat}{j k v:Nat}(hj:j<=k):(L.set k v).take j=L.take j:=by
 apply List.ext_getElem;simp
 . intro i h1 h2;simp only[Jk]at h1 h2;simp only[Ps];rw[List.getElem_set_ne zO]
def UH{L:List Nat}{k e v:Nat}(hk:k<e):(L.set k v).drop e=L.drop e:=by
 rw[List.drop_set_of_lt hk]
def zrw(ha0:u.a=some a0)(ho:Yz h0 h u L)(iN:aX L)(hy:aL h y m)(LI:aX m)(cd:∀a,y.a=some a->a.block≠a0.block)(hj:j+m.length<L.length)(hd:d<W)(hL:L.length<=35184372088800+1)
 (H:∀h' L' b,jH a0.block h h'->Yz h0 h' u L'->aX L'->L'.length=L.length->L'.take j=L.take j->L'.drop (j+m.length+1)=L.drop (j+m.length+1)->b<=1 ->
   vl L'+W ^ j*(d*vl m)=vl L+W ^ (j+m.length+1)*b->Kb ((b:Int)==1) h'):F.z43 (u.cut j (j+m.length+1) 1) y (d:Int) Kb h:=by
 unfold F.z43;have ly:=hy.len;have lu:=ho.len;have lc:=ho.2.2.1;refine Za (λst h'=>∃(c i:Nat) (L':List Nat),st=((c:Int),(i:Int),())/\i<=m.length/\c<=W/\jH a0.block h h'/\Yz h0 h' u L'/\aX L'/\L'.length=L.length/\L'.take j=L.take j/\L'.drop (j+m.length+1)=L.drop (j+m.length+1) /\
  vl L'+W ^ j*(d*vl (m.take i))=vl L+W ^ (j+i)*c) (λst=>((m.length:Int)-st.2.1).toNat) ⟨0,0,L,rfl,Jt _,zO,jH.refl,ho,iN,rfl,rfl,rfl,by simp[vl]⟩ ?_
 rintro st h1 ⟨c,i,L',rfl,hi,hc,hle,ib,kh,GS,iT,qY,hv⟩;have GU:=hy.oX hle cd;refine zg (λh3=>?_) (λh3=>?_)
 . have aA:i<m.length:=by have:(i:Int)<(y.len:Int):=h3;omega
   have hx:=Qb LI aA;have hz:=Qb kh (k:=j+i) zO;refine Zq i GU rfl aA λa ha=>⟨_,ha,?_⟩
   refine zG rfl zO zO (Zq (j+i) ib.ep rfl zO λa2 gP=>⟨_,gP,?_⟩);obtain⟨r,b,hr,hb,he,e1,e2⟩:=Zl4 hx hd hc hz;refine zG rfl zO zO (DA (j+i) r ha0 ib rfl zO e1 λh5 cj cV=>⟨zD,zD,?_⟩);refine⟨⟨b,i+1,L'.set (j+i) r,?_,zO,hb,hle.trans cj,cV,kX kh hr,by simp[GS],by rw[UG zO];exact iT,by rw[UH zO];exact qY,?_⟩,by simp only;rw[aM zO];omega⟩
   . rw[aM (by simp only;omega)];simp only[Prod.mk.injEq,and_true];exact⟨e2,rfl⟩
   . have e3:=zE (l:=L') (k:=j+i) (v:=r) zO;rw[yu aA];generalize vl (L'.set (j+i) r)=V at *;generalize L'[j+i]=z at *;generalize m[i]=x at *;generalize vl (m.take i)=T at *;generalize vl L'=V' at *;generalize vl L=V0 at *;have p1:W ^ (j+(i+1))=W ^ (j+i)*W:=by rw[<-Tk,Uc]
     have p2:W ^ (j+i)=W ^ j*W ^ i:=Gm ..;rw[p1];generalize W ^ (j+i)=P at *;subst p2;generalize W ^ j=Pj at *;generalize W ^ i=Pi at *;clear H e1 e2 qY iT GS kh iN
     grind
 . have aA:i=m.length:=by have:¬(i:Int)<(y.len:Int):=h3;omega
   subst aA;have hz:=Qb kh (k:=j+m.length) zO;rw[Je (Jd _)]at hv;refine zG (k:=m.length) zO zO zO (Zq (j+m.length) ib.ep rfl zO λa2 gP=>⟨_,gP,?_⟩);have key:∃r b:Nat,r<W/\b<=1/\L'[j+m.length]+W*b=r+c/\u32.wrap (u64.wrap (u64.wrap (L'[j+m.length]:Int)-(c:Int)))=(r:Int) /\
    (u64.wrap (u64.wrap (L'[j+m.length]:Int)-(c:Int))).fdiv (2 ^ (min (63:Int).toNat u64.bits))=(b:Int):=by
    rw[Zoh];simp only[ve,LF];unfold W at *;generalize L'[j+m.length]=z at *;clear H;by_cases hb:c<=z;exact⟨z-c,0,zO,zO,zO,zO,zO⟩;exact⟨z+4294967296-c,1,zO,zO,zO,zO,zO⟩
   obtain⟨r,b,hr,hb,he,e1,e2⟩:=key;refine zG (k:=m.length) zO zO zO (DA (j+m.length) r ha0 ib rfl zO e1 λh5 cj cV=>⟨zD,?_⟩);simp only;rw[e2];refine H h5 _ b (hle.trans cj) cV (kX kh hr) (by simp[GS]) (by rw[UG zO];exact iT) (by rw[UH zO];exact qY) hb ?_;have e3:=zE (l:=L') (k:=j+m.length) (v:=r) zO;rw[Uc];generalize vl (L'.set (j+m.length) r)=V at *;generalize L'[j+m.length]=z at *;generalize W ^ (j+m.length)=P at *;have e4:=congrArg (P*·) he;simp only[U5]at e4;rw[J6];omega
def Z67(ha0:u.a=some a0)(ho:Yz h0 h u L)(iN:aX L)(hy:aL h y m)(LI:aX m)(cd:∀a,y.a=some a->a.block≠a0.block)(hj:j+m.length<L.length)(hL:L.length<=35184372088800+1)
 (H:∀h' L' c,jH a0.block h h'->Yz h0 h' u L'->aX L'->L'.length=L.length->L'.take j=L.take j->L'.drop (j+m.length+1)=L.drop (j+m.length+1)->c<=1 ->
   vl L'+W ^ (j+m.length+1)*c=vl L+W ^ j*vl m->Ku () h'):F.z5i (u.cut j (j+m.length+1) 1) y Ku h:=by
 unfold F.z5i;have ly:=hy.len;have lu:=ho.len;have lc:=ho.2.2.1;refine Za (λst h'=>∃(c i:Nat) (L':List Nat),st=((c:Int),(i:Int),())/\i<=m.length/\c<=1/\jH a0.block h h'/\Yz h0 h' u L'/\aX L'/\L'.length=L.length/\L'.take j=L.take j/\L'.drop (j+m.length+1)=L.drop (j+m.length+1) /\
  vl L'+W ^ (j+i)*c=vl L+W ^ j*vl (m.take i)) (λst=>((m.length:Int)-st.2.1).toNat) ⟨0,0,L,rfl,Jt _,zO,jH.refl,ho,iN,rfl,rfl,rfl,by simp[vl]⟩ ?_
 rintro st h1 ⟨c,i,L',rfl,hi,hc,hle,ib,kh,GS,iT,qY,hv⟩;have GU:=hy.oX hle cd;refine zg (λh3=>?_) (λh3=>?_)
 . have aA:i<m.length:=by have:(i:Int)<(y.len:Int):=h3;omega
   have hx:=Qb LI aA;have hz:=Qb kh (k:=j+i) zO;refine Zq i GU rfl aA λa ha=>⟨_,ha,?_⟩
   refine zG rfl zO zO (Zq (j+i) ib.ep rfl zO λa2 gP=>⟨_,gP,?_⟩);have e0:u64.wrap ((c:Int)+u64.wrap (u64.wrap (L'[j+i]:Int)+u64.wrap (m[i]:Int)))=((c+(L'[j+i]+m[i]):Nat):Int):=by
    clear H;unfold W at *;simp only[ve];omega
   simp only;rw[e0];refine zG rfl zO zO (DA (j+i) _ ha0 ib rfl zO (pZ _) λh5 cj cV=>⟨zD,?_⟩);rw[Dx];refine⟨⟨_,i+1,_,by rw[aM zO];rfl,zO,?_,hle.trans cj,cV,kX kh (Ga _ Xi),by simp[GS],by rw[UG zO];exact iT,by rw[UH zO];exact qY,?_⟩,by rw[aM zO];omega⟩;clear H;unfold W at *;omega
   . have e3:=zE (l:=L') (k:=j+i) (v:=(c+(L'[j+i]+m[i])) % W) zO;have he:=Nat.mod_add_div (c+(L'[j+i]+m[i])) W;rw[yu aA];generalize vl (L'.set (j+i) ((c+(L'[j+i]+m[i])) % W))=V at *;generalize (c+(L'[j+i]+m[i])) % W=r at *;generalize (c+(L'[j+i]+m[i]))/W=q at *;generalize L'[j+i]=z at *;generalize m[i]=x at *;generalize vl (m.take i)=T at *;generalize vl L'=V' at *;generalize vl L=V0 at *;have p1:W ^ (j+(i+1))=W ^ (j+i)*W:=by rw[<-Tk,Uc]
     have p2:W ^ (j+i)=W ^ j*W ^ i:=Gm ..;rw[p1];generalize W ^ (j+i)=P at *;subst p2;generalize W ^ j=Pj at *;generalize W ^ i=Pi at *;clear H e0 qY iT GS kh iN
     grind
 . have aA:i=m.length:=by have:¬(i:Int)<(y.len:Int):=h3;omega
   subst aA;have hz:=Qb kh (k:=j+m.length) zO;rw[Je (Jd _)]at hv;refine zG (k:=m.length) zO zO zO (Zq (j+m.length) ib.ep rfl zO λa2 gP=>⟨_,gP,?_⟩);have e1:u32.wrap ((L'[j+m.length]:Int)+u32.wrap (c:Int))=(((c+L'[j+m.length]) % W:Nat):Int):=by
    clear H;unfold W at *;simp only[LF];omega
   refine zG (k:=m.length) zO zO zO (DA (j+m.length) _ ha0 ib rfl zO e1 λh5 cj cV=>?_);refine H h5 _ ((c+L'[j+m.length])/W) (hle.trans cj) cV (kX kh (Ga _ Xi)) (by simp[GS]) (by rw[UG zO];exact iT) (by rw[UH zO];exact qY) (by clear H;unfold W at *;omega) ?_;have e3:=zE (l:=L') (k:=j+m.length) (v:=(c+L'[j+m.length]) % W) zO;have he:=Nat.mod_add_div (c+L'[j+m.length]) W;rw[Uc];generalize vl (L'.set (j+m.length) ((c+L'[j+m.length]) % W))=V at *;generalize (c+L'[j+m.length]) % W=r at *;generalize (c+L'[j+m.length])/W=q at *;generalize L'[j+m.length]=z at *;generalize W ^ (j+m.length)=P at *;have e4:=congrArg (P*·) he;simp only[U5]at e4;rw[J6];omega
end
end Den
end

section
set_option maxRecDepth 4000
namespace Iv
def zkb{l:List Nat}{n:Nat}(hl:l.length=n+1):vl l=vl (l.take n)+W ^ n*l[n]:=by
 have:=yu (l:=l) (k:=n) zO;rw[Je zO]at this;exact this
def Zdt{B n:Nat}(hn:(dg B).length=n+1):(dg B)[n]≠0:=by
 intro h0;have h1:=zkb hn;rw[h0,Tv,G0,Zk]at h1;have h2:=sI (u9 (Zu B) n);rw[Jk,Gh zO]at h2;have:=yj.2 (show B<W ^ n by omega);omega
def zok{B:Nat}(h:(dg B).length=1):dg B=[B]:=by
 have h1:=Zk B
 match hd:dg B,h with
 | [x],_=>
   rw[hd]at h1;simp only[vl,Tv,G0]at h1;rw[h1]
open Den in
def Z00{B n:Nat}(hn:(dg B).length=n+1):∃s,s=32-bl (dg B)[n]/\bl (dg B)[n]<=32/\s<=31/\W ^ n*2147483648<=B*2 ^ s/\B*2 ^ s<W ^ (n+1):=by
 have h0:=Zdt hn;have h1:=Z3c h0;have h2:bl (dg B)[n]<=32:=LG (Qb (Zu B) zO);have h3:=UF (dg B)[n];have h4:=Zdb h0;have h5:=zkb hn;rw[Zk]at h5;have h6:=sI (u9 (Zu B) n);rw[Jk,Gh zO]at h6;generalize (dg B)[n]=t at *;refine⟨32-bl t,rfl,h2,zO,?_,?_⟩
 . have e1:2147483648=2 ^ (bl t-1)*2 ^ (32-bl t):=by
    rw[<-Gm,show bl t-1+(32-bl t)=31 by omega]
   rw[e1,<-J6];refine Jm _ ?_;have:=Jr (W ^ n) h4;omega
 . have e1:W ^ (n+1)=W ^ n*2 ^ bl t*2 ^ (32-bl t):=by
    rw[J6,<-Gm,show bl t+(32-bl t)=32 by omega,Uc];rfl
   rw[e1];refine Nat.mul_lt_mul_of_pos_right ?_ (J7 _);have:=Jr (W ^ n) h3;rw[Nat.mul_succ]at this;omega
def win{U U1:List Nat}{j e b Y:Nat}(hl:U1.length=U.length)(hj:j<=U.length)(ht:U1.take j=U.take j)(hv:vl U1+W ^ j*Y=vl U+W ^ (j+e)*b) :
 vl (U1.drop j)+Y=vl (U.drop j)+W ^ e*b:=by
 have h1:=Ym hj;have h2:=Ym (l:=U1) (k:=j) zO;rw[ht]at h2;rw[h1,h2,Gm,J6]at hv;have h3:W ^ j*(vl (U1.drop j)+Y)=W ^ j*(vl (U.drop j)+W ^ e*b):=by
  rw[U5,U5];omega
 exact Tl (Nat.pow_pos Xi) h3
def Znp{U U1:List Nat}{j e:Nat}(ok:aX U1)(hj:j+e<=U1.length)(hd:U1.drop (j+e)=U.drop (j+e))(h0:vl (U.drop (j+e))=0):vl (U1.drop j)<W ^ e:=by
 have h1:=Ym (l:=U1.drop j) (k:=e) (by rw[Uv];omega);rw[List.drop_drop,hd,h0,Tv,G0]at h1;rw[h1];have h2:=sI (u9 (GK ok j) e);rw[Jk,Uv,Gh zO]at h2;exact h2
def Za9{U:List Nat}{j n:Nat}(ok:aX U)(hj:j+n+3<=U.length)(h0:vl (U.drop (j+(n+3)))=0) :
 ∃lo,lo<W ^ n/\vl (U.drop j)=((U.getD (j+(n+2)) 0*W+U.getD (j+(n+1)) 0)*W+U.getD (j+n) 0)*W ^ n+lo:=by
 have h1:=Ym (l:=U.drop j) (k:=n+3) (by rw[Uv];omega);rw[List.drop_drop,h0,Tv,G0]at h1;obtain⟨P,lo,e1,e2,e3⟩:=Y11 (l:=(U.drop j).take (n+3)) (n:=n) (u9 (GK ok j) _) (by rw[Jk,Uv];omega);subst e1;have g:∀i,i<n+3->((U.drop j).take (n+3)).getD i 0=U.getD (j+i) 0:=λi hi=>by
  simp only[Uj,Lp,hi,if_true,List.getElem?_drop]
 rw[g _ zO,g _ zO,g _ zO]at e3;exact⟨lo,e2,h1.trans e3⟩
def Y0k{X V P w v1 v2 un:Nat}(hX:un*w*w*P<=X)(hV:V<=(v1*w+v2+1)*P)(hlt:X<V*w)(jh:v2<w):un<=v1:=by
 rcases Jx v1 un with h | h
 . exfalso;have h1:v1*w+v2+1<=un*w:=by
    have:(v1+1)*w<=un*w:=Jm _ h;rw[J9]at this;omega
   have h2:(v1*w+v2+1)*P<=un*w*P:=Jm _ h1;have h3:V*w<=un*w*P*w:=Jm _ (Jo hV h2);have h4:un*w*P*w=un*w*w*P:=by rw[J6 (un*w),J4 P w,<-J6]
   omega
 exact h
def zzc{U:List Nat}{A s N n V:Nat}(hU:U.length=N+1)(hv:vl U=A*2 ^ s)(hA:A<W ^ N)(hs:s<=31)(hn:n+1<=N)(hV:W ^ n*2147483648<=V):vl (U.drop (N-n))<V:=by
 have h1:=Ym (l:=U) (k:=N-n) zO;have h2:vl U<W ^ N*2147483648:=by
  rw[hv];exact Nat.mul_lt_mul_of_lt_of_le hA (Jz (n:=2) zD hs) zD
 have h3:W ^ N=W ^ (N-n)*W ^ n:=by rw[<-Gm];congr 1;omega
 rw[h3,J6]at h2;have h4:W ^ (N-n)*vl (U.drop (N-n))<W ^ (N-n)*V:=by
  have:=Jr (W ^ (N-n)) hV;omega
 exact Nat.lt_of_mul_lt_mul_left h4
def ks0{L1:List Nat}{X V qh j e:Nat}(hV:0<V)(hq:X/V<=qh)(hw:vl (L1.drop j)+qh*V=X+W ^ e*0):qh=X/V/\vl (L1.drop j)<V:=by
 rw[Tv,G0]at hw;have h1:qh*V<=X:=zO;have h2:=(Pb hV).2 h1;obtain rfl:qh=X/V:=Nat.le_antisymm h2 hq;refine⟨rfl,?_⟩;have h3:=Nat.mod_add_div' X V;have h4:=Ga X hV;omega
def ks1{L L1 L2:List Nat}{X V qh j e c:Nat}(hV:0<V)(hq:X/V<=qh)(pd:qh<=X/V+1)(hX:vl (L.drop j)=X)(aP:L1.length=L.length)(bH:L2.length=L1.length)(hj:j<=L.length)
 (LJ:L1.take j=L.take j) (ht2:L2.take j=L1.take j) (hw:vl (L1.drop j)+qh*V=X+W ^ e*1) (UI:vl (L1.drop j)<W ^ e) (tX:vl (L2.drop j)<W ^ e) (hc:c<=1)
 (hr:vl L2+W ^ (j+e)*c=vl L1+W ^ j*V):qh=X/V+1/\vl L2+W ^ j*(X/V*V)=vl L/\vl (L2.drop j)<V:=by
 rw[U6]at hw;have hmd:=L6 X V;have h1:qh=X/V+1:=by
  rcases Jx (X/V) qh with h | h
  omega
  . obtain rfl:qh=X/V:=Nat.le_antisymm h hq;omega
 subst h1;have k0:=Ym hj;have k1:=Ym (l:=L1) (k:=j) zO;have k2:=Ym (l:=L2) (k:=j) zO;rw[hX]at k0;rw[ht2]at k2;rw[LJ]at k1 k2;have h3:vl (L2.drop j)+W ^ e*c=vl (L1.drop j)+V:=by
  have e1:W ^ j*(vl (L2.drop j)+W ^ e*c)=W ^ j*(vl (L1.drop j)+V):=by
   rw[U5,U5,<-J6 (W ^ j),<-Gm];rw[k1,k2]at hr;omega
  exact Tl (Nat.pow_pos Xi) e1
 rw[J9]at hw;have AS:c=1:=by
  rcases Gs c with h | h
  subst h;rw[Tv,G0]at h3;omega;omega
 subst AS;have hf:vl (L2.drop j)+X/V*V=X:=zO;refine⟨rfl,?_,?_⟩
 . rw[k2,k0];have:=congrArg (W ^ j*·) hf;simp only[U5]at this;omega
 . have h5:=Nat.mod_add_div' X V;have h6:=Ga X hV;omega
def ztr{X V P v1 v2 un kg Bs:Nat}(hP:0<P)(qC:0<v1)(hV:(v1*W+v2)*P<=V)(hX:X<((un*W+kg)*W+Bs+1)*P)(hu:Bs<W):X/V<=(un*W+kg)/v1:=by
 rw[Pb qC];have h5:X/V*V<=X:=L6 X V;have h6:X/V*(v1*W*P)<=X/V*V:=Jr _ (Jo (Jm _ (Nat.le_add_right _ v2)) hV);have h7:X/V*v1*(W*P)<(un*W+kg+1)*(W*P):=by
  have e1:X/V*(v1*W*P)=X/V*v1*(W*P):=by rw[J6 v1,<-J6]
  have e2:((un*W+kg)*W+Bs+1)*P<=(un*W+kg+1)*(W*P):=by
   rw[<-J6];refine Jm _ ?_;rw[J9 _ 1];omega
  omega
 have:=Nat.lt_of_mul_lt_mul_right h7;omega
def Z2d{L:List Nat}{j V:Nat}(ok:aX L)(hj:j<L.length)(hlt:vl (L.drop (j+1))<V):vl (L.drop j)<V*W:=by
 rw[Uf hj];simp only[vl];have:=Qb ok hj;have h5:W*(vl (L.drop (j+1))+1)<=W*V:=Jr _ hlt;rw[U5,J4 W V]at h5;omega
def Z24{V v1 v2 lo n:Nat}(hV:W ^ (n+1)*2147483648<=V)(hV2:V=(v1*W+v2)*W ^ n+lo)(pg:lo<W ^ n)(jh:v2<W):W<=2*v1:=by
 have e1:W ^ (n+1)*2147483648<(v1+1)*W ^ (n+1):=by
  refine U7 hV ?_;rw[hV2,Uc,J9,J9];have:v2*W ^ n+W ^ n<=W ^ n*W:=by
   rw[<-Nat.succ_mul,J4];exact Jr _ jh
  rw[J6 _ W,J4 W];omega
 rw[J4]at e1;have:=Nat.lt_of_mul_lt_mul_right e1;unfold W;omega
def zyz{A V s k j q:Nat}{L L2 r:List Nat}(hk:k=j+1)(hval:A*2 ^ s=V*(W ^ k*vl (r.drop k))+vl L)(hv:vl L2+W ^ j*(q*V)=vl L)(hj:j<r.length) :
 A*2 ^ s=V*(W ^ j*vl ((r.set j q).drop j))+vl L2:=by
 subst hk;rw[Uf (l:=r.set j q) (by simpa using hj),Lk,List.drop_set_of_lt zO];simp only[vl];rw[hval,<-hv,Uc,U5,U5,J6 (W ^ j)];have e1:V*(W ^ j*q)=W ^ j*(q*V):=by
  rw[J4 V,J6]
 omega
def zzy{V n:Nat}(wE:W ^ (n+1)*2147483648<=V)(zL:V<W ^ (n+2)):(dg V).length=n+2:=by
 have e1:=yj.2 zL;have e2:W ^ (n+1)<=V:=Jo (P7 _ zD) wE;rcases Jx (dg V).length (n+2)with h3 | h3
 . exfalso;have:=(yj (n:=V) (k:=n+1)).1 zO;omega
 omega
end Iv
namespace Den
open Go Iv
def LK:ByteArray:=zL1
def Z5h:∀i:Fin 256,(BS LK)[i.val]?=some (bl i.val).toUInt8:=by decide +kernel
def bl8:∀i:Fin 256,((bl i.val).toUInt8).toNat=bl i.val:=by decide +kernel
def Z5i{c:Nat}{K:Int->Prop}{i:Int}(hc:c<256)(hi:i=c)(H:K ((bl c:Nat):Int)):Vq LK i K:=by
 have h1:=Z5h ⟨c,hc⟩;have h2:=bl8 ⟨c,hc⟩;simp only at h1 h2;have hlen:c<(BS LK).length:=by
  rcases Jx c (BS LK).length with h | h
  exact h;rw[G3 h]at h1;cases h1
 have h3:(BS LK)[c]=(bl c).toUInt8:=by
  rw[Jp hlen]at h1;exact Gg h1
 refine Z1m (k:=c) (c:=(bl c).toUInt8) (r:=(BS LK).drop (c+1)) ?_ hi ?_;rw[Uf hlen,h3];rw[h2];exact H
section
def zp0{t:Nat}(ht:t<W)(H:Ki ((bl t:Nat):Int) h):za (F.Ov (t:Int)) Ki h:=by
 refine zw _ (λK' hk=>?_) H;unfold F.Ov;have p8:∀n:Nat,((n:Int)).fdiv (2 ^ (min (8:Int).toNat u32.bits))=((n/2 ^ 8:Nat):Int):=λn=>zx5 (s:=8) zO
 have p16:∀n:Nat,((n:Int)).fdiv (2 ^ (min (16:Int).toNat u32.bits))=((n/2 ^ 16:Nat):Int):=λn=>zx5 (s:=16) zO
 refine zj (λs h'=>h'=h/\∃a b:Nat,s=((a:Int),(b:Int),())/\a<65536/\b<=16/\bl t=bl a+b) ?_ ?_
 . rintro _ h' ⟨rfl,a,b,rfl,ha,hb,he⟩;refine zj (λs h2=>h2=h'/\∃c d:Nat,s=((c:Int),(d:Int),())/\c<256/\d<=24/\bl t=bl c+d) ?_ ?_
   . rintro _ h2 ⟨rfl,c,d,rfl,hc,hd,E4⟩;have wx:bl c<=32:=LG zO;refine Z5i (c:=c) hc ?_ ?_;simp[IntKind.wrap,IntKind.signed,IntKind.bits];omega
     . simp only;rw[TK zO,show(d:Int)+((bl c:Nat):Int)=((bl t:Nat):Int)by omega,TK zO];exact hk
   . refine zg (λh1=>⟨zD,?_⟩) (λh1=>?_)
     . have h2:a>=256:=by simp only at h1;omega
       refine⟨by trivial,a/2 ^ 8,b+8,?_,zO,zO,?_⟩
       . simp only;rw[p8,aM zO];rfl
       rw[he,zp6 (n:=a) (k:=8) h2];omega
     . have h2:a<256:=by simp only at h1;omega
       exact⟨by trivial,a,b,rfl,h2,zO,he⟩
 . refine zg (λh1=>⟨zD,?_⟩) (λh1=>?_)
   . have h2:t>=65536:=zO;refine⟨rfl,t/2 ^ 16,16,?_,by unfold W at ht;omega,zO,?_⟩;rw[p16];rfl;rw[zp6 (n:=t) (k:=16) h2]
   . have h2:t<65536:=zO;exact⟨rfl,t,0,rfl,h2,zO,rfl⟩
def zik{t:Nat}(ht:t<W)(hb:bl t<=32)(H:Ki ((32-bl t:Nat):Int) h):za (F.Xj (t:Int)) Ki h:=by
 refine zw _ (λK' hk=>?_) H;unfold F.Xj;refine zp0 ht ?_;rw[aM zO,show(32:Int)-((bl t:Nat):Int)=((32-bl t:Nat):Int)by omega];exact hk
def znm{n:Nat}(hx:aL h x (dg n))(hl:(dg n).length<=35184372088800)(H:Ki (if h0:(dg n).length=0 then 0 else ((32*((dg n).length-1)+bl (dg n)[(dg n).length-1]:Nat):Int)) h):za (F.Kk x) Ki h:=by
 refine zw _ (λK' hk=>?_) H;unfold F.Kk;have lx:=hx.len;refine Zs (λh1=>?_) (λh1=>?_);rw[dif_pos zO]at hk;exact hk
 . obtain⟨N,hN⟩:∃N,(dg n).length=N+1:=⟨(dg n).length-1,zO⟩;rw[dif_neg zO]at hk;have ht:=Qb (Zu n) (k:=N) zO;have hbt:bl (dg n)[N]<=32:=LG ht;have e1:(dg n)[(dg n).length-1]'zO=(dg n)[N]'zO:=by congr 1;omega
   rw[e1]at hk;refine Zq N hx (by rw[lx,hN,aM zO];omega) zO λa ha=>⟨_,ha,?_⟩
   refine Za (λst h'=>h'=h/\∃c t:Nat,st=((c:Int),(t:Int),())/\t<W/\c+bl t=bl (dg n)[N]) (λst=>st.2.1.toNat) ⟨rfl,0,_,rfl,ht,zO⟩ ?_;rintro st h' ⟨rfl,c,t,rfl,UJ,he⟩;refine zg (λh3=>⟨zD,?_⟩) (λh3=>?_)
   . simp only at h3 |-
     have h4:t≠0:=zO;have h5:=Zo3 h4;have e2:((t:Int)).tdiv 2=((t/2:Nat):Int):=wB t 2;rw[e2,wC zO];exact⟨⟨by trivial,c+1,t/2,by rw[aM zO];rfl,zO,zO⟩,zO⟩
   . have h4:t=0:=by simp only at h3;omega
     subst h4;have h5:c=bl (dg n)[N]:=by rw[Zo4]at he;omega
     simp only[h5];clear H he h5;generalize bl (dg n)[N]=q at *;have e3:i64.wrap (i64.wrap (32*i64.wrap ((x.len:Int)-1))+((q:Nat):Int))=((32*((dg n).length-1)+q:Nat):Int):=by
      rw[lx,hN,aM (n:=((N+1:Nat):Int)-1) zO,aM (n:=32*(((N+1:Nat):Int)-1)) zO,aM zO];omega
     rw[e3];exact hk
end
end Den
end

section
set_option maxHeartbeats 4000000
namespace Den
open Go Iv
def Own.some{h0 h:Hp}{x:Sl}{l:List Nat}(ho:Yz h0 h x l)(hl:0<l.length):∃a,x.a=some a/\h0 a.block=none/\h a.block≠none:=by
 have hlen:=ho.len;obtain⟨h1,h2,h3,h4⟩:=ho;cases ha:x.a with
 | none=>rw[ha]at h4;simp only at h4;omega
 | some a=>
   rw[ha]at h4;obtain⟨_,_,g3,b,g4,_⟩:=h4;exact⟨a,rfl,g3,by rw[g4];exact λhh=>by cases hh⟩
section
variable {l:List Nat}
def Zbx(q:Nat):(((q+1:Nat):Int)-1)=(q:Int):=zO
def tY{i:Int}{Ka:Addr->Prop}(k:Nat)(hr:aL h x l)(hi:i=k)(hk:k<l.length)
 (H:∀a,h.cell a=some (.int .u32 ((l.getD k 0:Nat):Int))->Ka a):zi x i 1 Ka:=
 Zq k hr hi hk λa ha=>H a (by rw[Bo hk];exact ha)
def Zau{A B:Nat}(hx:aL h x (dg A))(hy:aL h y (dg B))(hB:B≠0)(hl:(dg A).length<=35184372088000)(bH:(dg B).length<=35184372088000)
 (H:∀q r h',h.le h'->aL h' q (dg (A/B))->aL h' r (dg (A % B))->Kp (q,r) h'):F.Xt x y Kp h:=by
 unfold F.Xt;have lx:=hx.len;have ly:=hy.len;refine TX hx hy zO zO ?_;unfold mi;by_cases wF:A<B
 . rw[if_pos wF];refine zk rfl ?_;refine ze0 hx zO λz h1 aP hz=>H _ _ _ aP ?_ ?_
   rw[Pl wF,qe];exact aL.nil;rw[Ui wF];exact hz
 rw[if_neg wF];refine zc (by split<;>rfl) ?_;have UK:=qz (P9 wF);have qD:(dg B).length≠0:=λh0=>hB (sH.1 (Ju.1 h0))
 refine zg (λh1=>?_) (λh1=>?_)
 . refine zc9 hx (Zu A) zO λh2 bH=>?_
   refine zc9 (hy.le bH) (Zu B) zO λh3 bj=>?_
   rw[Zk,Zk];have aaP:A<18446744073709551616:=by
    have:=(yj (n:=A) (k:=2)).1 zO;have e:W ^ 2=18446744073709551616:=zD;omega
   have hq:A/B<=A:=G6 A B;have hr:A % B<=A:=Nat.mod_le A B;refine⟨zO,zO,?_⟩;rw[wB,GQ,iy zO];refine TU rfl zO λz h4 cf hz=>TU rfl zO λw h5 cj hw=>?_
   exact H _ _ _ (Ja bH (Ja bj (Ja cf cj))) (hz.le cj) hw
 refine Zs (λh2=>?_) (λh2=>?_)
 . have Fo:=zok (B:=B) zO;have UL:B<W:=by
    have:=Zu B B (by rw[Fo];exact Uz.2 rfl);exact this
   refine tY 0 hy rfl zO λa ha=>⟨_,ha,?_⟩
   have e0:(dg B).getD 0 0=B:=by rw[Fo];rfl
   rw[e0];refine zog hx (Zu A) (T6 hB) UL zO λz w h3 bj hz hw=>?_
   rw[Zk]at hz hw;exact H _ _ _ bj hz hw
 obtain⟨n,hn⟩:∃n,(dg B).length=n+2:=⟨(dg B).length-2,zO⟩;obtain⟨N,hN⟩:∃N,(dg A).length=N:=⟨_,rfl⟩;obtain⟨s,hs,wx,mP,wE,zL⟩:=Z00 (B:=B) (n:=n+1) hn;refine Zq (n+1) hy (by rw[ly,hn,aM zO];omega) zO λa ha=>⟨_,ha,?_⟩
 have UJ:=Qb (Zu B) (k:=n+1) zO;refine zik UJ wx ?_;rw[<-hs];refine zrq hx (Zu A) mP zO λu h9 U qE okU hUl GV=>?_
 rw[Zk]at GV;refine zrq (hy.le qE.1) (Zu B) mP zO λv0 aZ V0 iz GW aaQ wG=>?_
 rw[Zk]at wG;refine zsa iz.ep zO λv hv dz=>?_
 rw[Yj GW,wG]at hv;generalize hV:B*2 ^ s=V at *;have eU:0<V:=Tc (Nat.mul_pos (Nat.pow_pos Xi) zD) wE;have mQ:(dg V).length=n+2:=zzy wE zL;have lu:=qE.len;have lv:=hv.len;have hN2:n+2<=N:=zO;refine rC (N-n-1) (N-n-1) (by rw[lu,lv,aM zO];omega) (by rw[lu,lv,aM zO];omega) zO zO λq cu hq jv=>?_
 obtain⟨dV,kY,GX,Bt⟩:=Own.some qE zO;obtain⟨kV,ph,wH,UM⟩:=Own.some jv (by simp;omega);have UN:h.le aZ:=Ja qE.1 iz.1;have wI:h kV.block=none:=Hp.df UN wH;have tZ:dV.block≠kV.block:=λhh=>by
  have h3:=Hp.df iz.1 wH;rw[<-hh]at h3;exact Bt h3
 have wJ:∀a,v.a=some a->a.block≠dV.block/\a.block≠kV.block:=λa ha=>by
  obtain⟨a',h3,h4⟩:=dz a ha;rw[h4];constructor;exact zkg qE iz dV a' kY h3 |>.symm
  exact zkg iz jv a' kV h3 ph
 have mj:∀a,v.a=some a->a.block≠dV.block:=λa ha=>(wJ a ha).1
 have wK:∀a,v.a=some a->a.block≠kV.block:=λa ha=>(wJ a ha).2
 have GY:∀a,u.a=some a->a.block≠kV.block:=λa ha=>by rw[kY]at ha;cases ha;exact tZ
 have GZ:∀a,q.a=some a->a.block≠dV.block:=λa ha=>by rw[ph]at ha;cases ha;exact tZ.symm
 have hou:Yz h cu u U:=(qE.le iz.1).le jv.1;have hoq:Yz h cu q (Jl (N-n-1) 0):=jv.base UN;have wL:aL cu v (dg V):=hv.le jv.1;obtain⟨P,lo2,hP,Ha,ji,_⟩:=Zxs (Zu V) (n:=n) mQ;rw[Zk]at ji;have qC:(dg V).getD (n+1) 0<W:=Vx (Zu V) _;have jh:(dg V).getD n 0<W:=Vx (Zu V) _;refine tY (n+1) wL (by rw[lv,mQ,aM zO];omega) zO λa1 rE=>⟨_,rE,?_⟩
 refine tY n wL (by rw[lv,mQ,aM zO];omega) zO λa2 gP=>⟨_,gP,?_⟩
 generalize UO:(dg V).getD (n+1) 0=v1 at *;generalize aaR:(dg V).getD n 0=v2 at *;subst hP;have wM:W<=2*v1:=Z24 wE ji Ha jh;have DB:A<W ^ N:=yj.1 zO;have ki:vl (U.drop (N-(n+1)))<V:=zzc (n:=n+1) zO GV DB mP zO wE;refine Za (λst h'=>∃(k:Nat) (L r:List Nat),st=((k:Int)-1,())/\k<=N-n-1/\Yz h h' u L/\aX L/\L.length=N+1/\Yz h h' q r/\aX r/\r.length=N-n-1/\aL h' v (dg V) /\
  vl (L.drop k)<V/\A*2 ^ s=V*(W ^ k*vl (r.drop k))+vl L) (λst=>(st.1+1).toNat)
  ⟨N-n-1,U,_,by rw[hq,aM zO],Jd _,hou,okU,zO,hoq,tU _,zS,wL,by rw[show N-n-1=N-(n+1)by omega];exact ki,by rw[G7 zS,GV];simp[vl]⟩ ?_
 rintro st h3 ⟨k,L,r,rfl,hk,rG,iN,hLl,DC,dJ,dG,Bu,hlt,hval⟩;have llu:=rG.len;have UP:=rG.2.2.1;refine zg (λh4=>?_) (λh4=>?_)
 . obtain⟨j,rfl⟩:∃j,k=j+1:=⟨k-1,by have:(k:Int)-1>=0:=h4;omega⟩;have fy:((j+1:Nat):Int)-1=(j:Int):=zO;have wj:i64.wrap ((j:Int)+(v.len:Int))=((j+(n+2):Nat):Int):=by rw[lv,mQ,aM zO];omega
   have wj1:i64.wrap (((j+(n+2):Nat):Int)-1)=((j+(n+1):Nat):Int):=by rw[aM zO];omega
   have wj2:i64.wrap (((j+(n+2):Nat):Int)-2)=((j+n:Nat):Int):=by rw[aM zO];omega
   have wj3:i64.wrap (((j+(n+2):Nat):Int)+1)=((j+(n+2)+1:Nat):Int):=by rw[aM zO];omega
   simp only[fy,wj,wj1,wj2,wj3];have tX:vl (L.drop (j+1))<W ^ (n+2):=Nat.lt_trans hlt zL;have jd:vl (L.drop (j+(n+3)))=0:=by
    have:=zfq iN tX;rw[show j+1+(n+2)=j+(n+3)by omega]at this;exact this
   obtain⟨lo,pg,hX⟩:=Za9 (n:=n) iN (j:=j) zO jd;have tV:L.getD (j+(n+2)) 0<W:=Vx iN _;have tW:L.getD (j+(n+1)) 0<W:=Vx iN _;have ua:L.getD (j+n) 0<W:=Vx iN _;have LL:vl (L.drop j)<V*W:=Z2d iN zO hlt;refine tY (j+(n+2)) rG.ep rfl zO λa3 GR=>⟨_,GR,zD,?_⟩
   refine tY (j+(n+1)) rG.ep rfl zO λa4 ha4=>⟨_,ha4,?_⟩
   generalize DD:vl (L.drop j)=X at *;generalize L.getD (j+(n+2)) 0=un at *;generalize L.getD (j+(n+1)) 0=kg at *;generalize UQ:L.getD (j+n) 0=Bs at *;have o0:0<v1:=by unfold W at wM;omega
   have abP:u64.wrap (v1:Int)≠0:=by rw[nL qC];omega
   have oZ:un*W+kg<18446744073709551616:=by unfold W at *;omega
   rw[nL tV,GN tV tW,nL qC,wB,GQ,iy (n:=(un*W+kg)/v1) (U7 (G6 _ _) oZ)];refine⟨zO,zO,?_⟩;have wN:0<W ^ n:=Nat.pow_pos Xi;have pj:(v1*W+v2)*W ^ n<=V:=by rw[ji];omega
   have Hb:V<(v1*W+v2+1)*W ^ n:=by rw[ji,J9 _ 1];omega
   have Hc:((un*W+kg)*W+Bs)*W ^ n<=X:=zO;have pk:X<((un*W+kg)*W+Bs+1)*W ^ n:=by rw[J9 _ 1];omega
   have UR:un<=v1:=by
    refine Y0k (X:=X) (V:=V) (P:=W ^ n) (w:=W) (v1:=v1) (v2:=v2) ?_ (Lg Hb) LL jh;refine Jo (Jm _ ?_) Hc;rw[J9];omega
   have wO:X/V<W:=(Ta eU).2 (by rw[J4];exact LL);refine zj (λst h'=>h'=h3/\∃qh:Nat,st=((qh:Int),())/\qh<W/\X/V<=qh/\qh<=X/V+1) ?_ ?_
   . rintro _ h' ⟨rfl,qh,rfl,hqh,qF,pd⟩;refine zj (λst h5=>st=(((X/V:Nat):Int),())/\∃L2,jH dV.block h' h5/\Yz h h5 u L2/\aX L2/\L2.length=N+1/\vl L2+W ^ j*(X/V*V)=vl L/\vl (L2.drop j)<V) ?_ ?_
     . rintro _ h5 ⟨rfl,L2,US,Hd,Bv,Bw,aaS,aaT⟩;have He:Yz h h5 q r:=DC.oX US GX GZ;refine DA j (X/V) ph He rfl zO (wC wO) λh6 db wD=>?_
       exact⟨⟨j,L2,_,by rw[aM zO],zO,Hd.oX db wI GY,Bv,Bw,wD,kX dJ wO,by simp[dG],(Bu.oX US mj).oX db wK,aaT,zyz rfl hval aaS zO⟩,by rw[aM zO];omega⟩
     . refine zx7 j (j+(n+2)+1) rfl rfl zO zO ?_;refine C1 ?_;have e0:j+(n+2)+1=j+(dg V).length+1:=zO;rw[e0];refine zrw kY rG iN Bu (Zu V) mj zO hqh zO λh6 L1 b Hf Bx Hg By iT qY hb LM=>?_
       rw[Zk,mQ]at LM;rw[mQ]at qY;have Hh:=win (e:=n+2+1) By zO iT (by rw[<-Tk];exact LM);rw[DD]at Hh;have UI:vl (L1.drop j)<W ^ (n+2+1):=Znp Hg zO (by rw[<-Tk];exact qY) jd;refine Zs (λsk=>?_) (λsk=>?_)
       . obtain rfl:b=1:=zO;refine zx7 j (j+(dg V).length+1) rfl (by rw[mQ]) zO (by have:=Bx.2.2.1;have:=Bx.len;omega) ?_;refine C1 ?_;refine Z67 kY Bx Hg (Bu.oX Hf mj) (Zu V) mj zO zO λh7 L2 c aaU Hd Bv Bw tN UT hc hrv=>?_
         rw[Zk,mQ]at hrv;rw[mQ]at UT;have rH:vl (L1.drop (j+(n+2+1)))=0:=by rw[<-Tk,qY,Tk];exact jd
         have tX:vl (L2.drop j)<W ^ (n+2+1):=Znp Bv zO (by rw[<-Tk];exact UT) rH;obtain⟨rfl,g2,g3⟩:=ks1 eU qF pd DD By Bw zO iT tN Hh UI tX hc (by rw[<-Tk];exact hrv);refine⟨?_,L2,Hf.trans aaU,Hd,Bv,by rw[Bw,By,hLl],g2,g3⟩;simp only;rw[Zbx,nL wO]
       . obtain rfl:b=0:=zO;obtain⟨rfl,g2⟩:=ks0 eU qF Hh;refine⟨rfl,L1,Hf,Bx,Hg,by rw[By,hLl],?_,g2⟩;rw[Tv,G0]at LM;exact LM
   . 
    refine Za (λst h'=>h'=h3/\∃qh rh:Nat,st=((qh:Int),(rh:Int),())/\qh*v1+rh=un*W+kg/\rh<W/\X/V<=qh/\qh<18446744073709551616) (λst=>st.1.toNat) ⟨rfl,_,_,rfl,by rw[J4];exact Nat.div_add_mod _ _,Tc (Ga _ o0) (Lg qC),?_,U7 (G6 _ _) oZ⟩ ?_;exact ztr wN o0 pj pk ua
    . rintro _ h' ⟨rfl,qh,rh,rfl,hqr,hrh,qF,hq64⟩;refine zj (λ_ h5=>h5=h'/\X/V<qh) ?_ ?_
      . rintro _ h5 ⟨rfl,UU⟩;have hqp:0<qh:=U7 (Jt _) UU;have hqm:X/V<=qh-1:=Nat.le_sub_one_of_lt UU;have e1:u64.wrap ((rh:Int)+(v1:Int))=((rh+v1:Nat):Int):=by
         rw[show(rh:Int)+(v1:Int)=((rh+v1:Nat):Int)by omega,iy (by unfold W at *;omega)]
        have e2:u64.wrap ((qh:Int)-1)=((qh-1:Nat):Int):=by
         rw[show(qh:Int)-1=((qh-1:Nat):Int)by omega,iy zO]
        have e3:(qh-1)*v1+(rh+v1)=un*W+kg:=by
         obtain⟨q1,rfl⟩:∃q1,qh=q1+1:=⟨qh-1,zO⟩;rw[J9]at hqr;simp only[Nat.add_sub_cancel];omega
        simp only;rw[e1,e2];refine zg (λh6=>?_) (λh6=>?_)
        . have h7:=zqj (w:=W) zD Hc Hb eU wN e3 rfl wM UR tW jh ua (.inl (by unfold W;omega));exact⟨by trivial,qh-1,rfl,h7.1,hqm,h7.2⟩
        exact⟨⟨by trivial,qh-1,rh+v1,rfl,e3,by unfold W;omega,hqm,zO⟩,zO⟩
      . refine zg (λh6=>?_) (λh6=>?_)
        . refine⟨by trivial,?_⟩;simp only at h6;exact zqi pk pj eU hqr LL (.inl (by unfold W;omega))
        . simp only at h6;refine⟨zD,tY (j+n) rG.ep rfl zO λa5 ha5=>⟨_,ha5,?_⟩⟩;have aaV:qh<W:=by unfold W;omega
          have e1:u64.wrap ((qh:Int)*u64.wrap (v2:Int))=((qh*v2:Nat):Int):=by
           rw[nL jh,show(qh:Int)*(v2:Int)=((qh*v2:Nat):Int)by simp];refine iy ?_;have:qh*v2<=4294967295*4294967295:=Gt (by unfold W at *;omega) (by unfold W at *;omega);omega
          rw[UQ];simp only;rw[e1,GN hrh ua];refine zg (λh7=>?_) (λh7=>?_)
          . refine⟨by trivial,?_⟩;exact zqi pk pj eU hqr LL (.inr zO)
          . have h8:=zqj (w:=W) zD Hc Hb eU wN hqr rfl wM UR tW jh ua (.inr ⟨aaV,zO⟩);exact⟨by trivial,qh,rfl,h8.1,qF,h8.2⟩
 . obtain rfl:k=0:=by have:¬(k:Int)-1>=0:=h4;omega
   simp only[Tf,Nat.pow_zero,La]at hlt hval;have hVq:A/B=vl r:=by
    have h5:A*2 ^ s/(B*2 ^ s)=A/B:=Nat.mul_div_mul_right _ _ (J7 s);rw[hV,hval,Nat.mul_add_div eU,Pl hlt,G0]at h5;exact h5.symm
   have hVr:vl L=A % B*2 ^ s:=by
    have h5:A*2 ^ s % (B*2 ^ s)=A % B*2 ^ s:=Nat.mul_mod_mul_right _ _ _;rw[hV,hval,Nat.mul_add_mod,Ui hlt]at h5;exact h5
   refine zx7 0 (n+2) rfl zO zO zO ?_;have cY:=rG.ep.cut 0 (n+2) zO zO;rw[Tf,Nat.sub_zero]at cY;have hcv:vl (L.take (n+2))=vl L:=by
    have e1:=Ym (l:=L) (k:=n+2) zO;have e2:=zfq (a:=0) (b:=n+2) iN (by rw[Tf];exact Nat.lt_trans hlt zL);rw[Uo]at e2;rw[e2]at e1;omega
   refine Vu DC.ep zO λz1 rH=>?_
   rw[Yj dJ,<-hVq]at rH;refine Vu cY (by rw[Jk];omega) λz2 fB=>?_
   rw[Yj (u9 iN _),hcv]at fB;have aaW:(dg (vl L)).length<=n+2:=yj.2 (Nat.lt_trans hlt zL);refine Z1c fB (Zu _) mP zO λz3 h5 r3 cj zM aaX hr3l UW=>?_
   rw[Zk,hVr,Nat.mul_div_cancel _ (J7 s)]at UW;refine Vu zM zO λz4 LN=>?_
   rw[Yj aaX,UW]at LN;exact H _ _ _ (Ja rG.1 cj) (rH.le cj) LN
def zg5{A B:Nat}(hx:aL h x (dg A))(hy:aL h y (dg B))(hB:B≠0)(hl:(dg A).length<=35184372088000)(bH:(dg B).length<=35184372088000)
 (H:∀q r h',h.le h'->aL h' q (dg (A/B))->aL h' r (dg (A % B))->Kp (q,r) h'):za (F.Xt x y) Kp h:=
 zb (λv h'=>aL h' v.1 (dg (A/B))/\aL h' v.2 (dg (A % B))) (λK' hk=>Zau hx hy hB hl bH λq r h' h1 h2 h3=>hk _ _ h1 ⟨h2,h3⟩) λv h' h1 ⟨h2,h3⟩=>H v.1 v.2 h' h1 h2 h3
end
end Den
end

section
set_option maxHeartbeats 4000000
namespace Iv
def Zkp{L:List Nat}{j i v:Nat}:(L.set (j+i) v).drop j=(L.drop j).set i v:=by
 rw[List.drop_set,if_neg zO];congr 1;omega
def Zn0{L L2:List Nat}{X V j:Nat}(hV:0<V)(hX:vl (L.drop j)=X)(hl:L2.length=L.length)(hj:j<=L.length)(ht:L2.take j=L.take j)(h:vl (L2.drop j)=X-X/V*V) :
 vl L2+W ^ j*(X/V*V)=vl L/\vl (L2.drop j)<V:=by
 have hmd:=L6 X V;have h5:=Nat.mod_add_div' X V;have h6:=Ga X hV;refine⟨?_,zO⟩;have k0:=Ym hj;have k2:=Ym (l:=L2) (k:=j) zO;rw[hX]at k0;rw[ht]at k2;rw[k2,k0,h];have:W ^ j*(X-X/V*V)+W ^ j*(X/V*V)=W ^ j*X:=by
  rw[<-U5];congr 1;omega
 omega
end Iv
namespace Den
open Go Iv
section
variable {l:List Nat}{Kq:zY (Int × Sl)}
def zsv{n X V v1 v2 un kg Bs:Nat}(hx:aL h x l)(ol:aX l)(mF:l.length=n+3)(hlX:vl l=X)(hy:aL h y (dg V))(mQ:(dg V).length=n+2)(hn:n<=35184372088000)
 (eun:l.getD (n+2) 0=un) (UX:l.getD (n+1) 0=kg) (ev1:(dg V).getD (n+1) 0=v1) (LH:0<V) (o0:0<v1) (pj:(v1*W+v2)*W ^ n<=V) (pk:X<((un*W+kg)*W+Bs+1)*W ^ n) (dr:Bs<W) (wO:X/V<W)
 (H:∀z h',h.le h'->aL h' z (dg (X/V*V))->nK h z->Kq (((X/V:Nat):Int),z) h'):za (F.zbw x y) Kq h:=by
 refine zb (λv h'=>v.1=((X/V:Nat):Int)/\aL h' v.2 (dg (X/V*V))/\nK h v.2) (λK' hk=>?_) λ⟨v,z⟩ h' hl ⟨h1,h2,h3⟩=>by
  simp only at h1;subst h1;exact H z h' hl h2 h3
 unfold F.zbw;have lx:=hx.len;have ly:=hy.len;have tV:un<W:=by rw[<-eun];exact Vx ol _
 have tW:kg<W:=by rw[<-UX];exact Vx ol _
 have qC:v1<W:=by rw[<-ev1];exact Vx (Zu V) _
 refine tY (n+2) hx (by rw[ly,mQ]) zO λa1 rE=>⟨_,rE,zD,?_⟩
 refine tY (n+1) hx (by rw[ly,mQ,aM zO];omega) zO λa2 gP=>⟨_,gP,?_⟩
 refine tY (n+1) hy (by rw[ly,mQ,aM zO];omega) zO λa3 GR=>⟨_,GR,?_⟩
 rw[eun,UX,ev1];have oZ:un*W+kg<18446744073709551616:=by unfold W at *;omega
 simp only;rw[nL tV,GN tV tW,nL qC,wB,iy (n:=(un*W+kg)/v1) (U7 (G6 _ _) oZ)];refine⟨zO,?_⟩;have hfe:=ztr (Nat.pow_pos Xi) o0 pj pk dr;refine zj (λst h'=>h'=h/\∃e:Nat,st=((e:Int),())/\e<W/\X/V<=e) ?_ ?_
 . rintro _ h' ⟨rfl,e,rfl,UY,hqe⟩;simp only;rw[wC UY];refine Qv (n:=1) (size:=1) rfl λb h2 hb ho=>?_
   have mh:Yz h' h2 ⟨some ⟨b,0,none⟩,1,1⟩ [e]:=ho;refine zle (hy.le ho.1) mh.ep (Zu V) (λd hd=>by rw[Uz.1 hd];exact UY) (by simp;omega) λz h3 bj hz hf=>?_
   rw[Zk]at hz;have ez:V*vl [e]=e*V:=by simp[vl,J4]
   rw[ez]at hz;refine Za (λst h4=>∃(e:Nat) (z:Sl),st=((e:Int),z,())/\e<W/\X/V<=e/\h'.le h4/\aL h4 z (dg (e*V))/\nK h' z) (λst=>st.1.toNat) ⟨e,z,rfl,UY,hqe,Ja ho.1 bj,hz,hf.le ho.1⟩ ?_;rintro _ h4 ⟨e,z,rfl,UY,hqe,cf,hz,hf⟩;refine Xe (hx.le cf) zO λw hw=>?_
   rw[Yj ol,hlX]at hw;have hXl:(dg X).length<=n+3:=yj.2 (by rw[<-hlX,<-mF];exact sI ol);have heVl:(dg (e*V)).length<=n+3:=by
    refine yj.2 ?_;have h5:V<W ^ (n+2):=by rw[<-mQ];exact yj.1 (Jd _)
    rw[Uc,J4];exact Nat.mul_lt_mul'' h5 UY
   refine z8d hw hz zO zO ?_;unfold mi;by_cases hc:X<e*V
   . rw[if_pos hc];refine zk rfl ?_;have hlt:X/V<e:=(Ta LH).2 hc;have hep:0<e:=U7 (Jt _) hlt;have hVe:V<=e*V:=Nat.le_mul_of_pos_left _ hep;refine zf4 hz (hy.le cf) (Zu _) (Zu V) zO (qz hVe) (by rw[Zk,Zk];exact hVe) λz2 h5 cj fB hf2=>?_
     rw[Zk,Zk]at fB;have e6:e*V-V=(e-1)*V:=by rw[Nat.sub_mul,La]
     rw[e6]at fB;have e7:u64.wrap ((e:Int)-1)=((e-1:Nat):Int):=by
      rw[show(e:Int)-1=((e-1:Nat):Int)by omega,nL zO]
     simp only;rw[e7];exact⟨⟨e-1,z2,rfl,zO,Nat.le_sub_one_of_lt hlt,Ja cf cj,fB,hf2.le cf⟩,zO⟩
   . rw[if_neg hc];refine zc (by split<;>rfl) ?_;have h5:e*V<=X:=P9 hc;have h6:=(Pb LH).2 h5;have h7:e=X/V:=Nat.le_antisymm h6 hqe;simp only;rw[h7]at hz |-
     exact hk _ _ cf ⟨wC wO,hz,hf⟩
 . refine zg (λh1=>?_) (λh1=>?_);exact⟨rfl,4294967295,rfl,zD,by unfold W at wO;exact Nat.le_of_lt_succ wO⟩
   . have h2:(un*W+kg)/v1<=4294967295:=by
      clear H hfe pk pj wO;generalize (un*W+kg)/v1=z at *;omega
     exact⟨rfl,_,rfl,U7 h2 zD,hfe⟩
def zku{n N:Nat}(hx:aL h x (dg n))(hN:(dg n).length=N+1)(hl:(dg n).length<=35184372088800)(H:Ki ((32*N+bl ((dg n)[N]'zO):Nat):Int) h):za (F.Kk x) Ki h:=by
 refine znm hx hl ?_;rw[dif_neg zO];have e1:(dg n)[(dg n).length-1]'zO=(dg n)[N]'zO:=by congr 1;omega
 rw[e1];have e2:(dg n).length-1=N:=zO;generalize hq:bl ((dg n)[N]'zO)=q at *;rw[e2];exact H
def Z65{A B:Nat}(hx:aL h x (dg A))(hy:aL h y (dg B))(hB:B≠0)(hl:(dg A).length<=35184372088000)(bH:(dg B).length<=35184372088000)
 (H:∀q r h',h.le h'->aL h' q (dg (A/B))->aL h' r (dg (A % B))->Kp (q,r) h'):F.Kl x y Kp h:=by
 unfold F.Kl;have lx:=hx.len;have ly:=hy.len;refine z8d hx hy zO zO ?_;unfold mi;by_cases wF:A<B
 . rw[if_pos wF];refine zk rfl ?_;refine H _ _ _ (Jf _) ?_ ?_;rw[Pl wF,qe];exact aL.nil;rw[Ui wF];exact hx
 rw[if_neg wF];refine zc (by split<;>rfl) ?_;have UK:=qz (P9 wF);have qD:(dg B).length≠0:=λh0=>hB (sH.1 (Ju.1 h0))
 refine zg (λh1=>?_) (λh1=>?_)
 . refine zrr hx (Zu A) zO (zrr hy (Zu B) zO ?_);rw[Zk,Zk];have aaP:A<18446744073709551616:=by
    have:=(yj (n:=A) (k:=2)).1 zO;have e:W ^ 2=18446744073709551616:=zD;omega
   have hq:A/B<=A:=G6 A B;have hr:A % B<=A:=Nat.mod_le A B;refine⟨zO,zO,?_⟩;rw[wB,GQ,iy zO];refine TV rfl zO λz h4 cf hz=>TV rfl zO λw h5 cj hw=>?_
   exact H _ _ _ (Ja cf cj) (hz.le cj) hw
 refine Zs (λh2=>?_) (λh2=>?_)
 . have Fo:=zok (B:=B) zO;have UL:B<W:=Zu B B (by rw[Fo];exact Uz.2 rfl);refine tY 0 hy rfl zO λa ha=>⟨_,ha,?_⟩
   have e0:(dg B).getD 0 0=B:=by rw[Fo];rfl
   rw[e0];refine Zo8 hx (Zu A) (T6 hB) UL zO λz h3 bj hz=>?_
   rw[Zk]at hz |-
   have:=Ga A (T6 hB);simp only;rw[nL (Nat.lt_trans this UL)];refine TV rfl (by unfold W at UL;omega) λw h5 cj hw=>H _ _ _ (Ja bj cj) (hz.le cj) hw
 obtain⟨n,hn⟩:∃n,(dg B).length=n+2:=⟨(dg B).length-2,zO⟩;obtain⟨N,hN⟩:∃N,(dg A).length=N:=⟨_,rfl⟩;obtain⟨s,hs,wx,mP,wE,zL⟩:=Z00 (B:=B) (n:=n+1) hn;refine zku hy hn zO ?_;have es:i64.wrap (i64.wrap (32*(y.len:Int))-((32*(n+1)+bl (dg B)[n+1]:Nat):Int))=(s:Int):=by
  rw[hs];generalize bl (dg B)[n+1]=z at *;rw[ly,hn,aM (n:=32*((n+2:Nat):Int)) zO,aM zO];omega
 rw[es];refine zu9 hx (Zu A) mP zO λu h9 U qE okU hUl GV=>?_
 rw[Zk]at GV;refine zu9 (hy.le qE.1) (Zu B) mP zO λv0 aZ V0 iz GW aaQ wG=>?_
 rw[Zk]at wG;refine zh1 iz.ep zO λv hv dz=>?_
 rw[Yj GW,wG]at hv;generalize hV:B*2 ^ s=V at *;have eU:0<V:=Tc (Nat.mul_pos (Nat.pow_pos Xi) zD) wE;have mQ:(dg V).length=n+2:=zzy wE zL;have lu:=qE.len;have lv:=hv.len;have hN2:n+2<=N:=zO;refine rC N N zO zO zO zO λq cu hq jv=>?_
 obtain⟨dV,kY,GX,Bt⟩:=Own.some qE zO;obtain⟨kV,ph,wH,UM⟩:=Own.some jv (by simp;omega);have UN:h.le aZ:=Ja qE.1 iz.1;have wI:h kV.block=none:=Hp.df UN wH;have tZ:dV.block≠kV.block:=λhh=>by
  have h3:=Hp.df iz.1 wH;rw[<-hh]at h3;exact Bt h3
 have wJ:∀a,v.a=some a->a.block≠dV.block/\a.block≠kV.block:=λa ha=>by
  obtain⟨a',h3,h4⟩:=dz a ha;rw[h4];constructor;exact zkg qE iz dV a' kY h3 |>.symm
  exact zkg iz jv a' kV h3 ph
 have mj:∀a,v.a=some a->a.block≠dV.block:=λa ha=>(wJ a ha).1
 have wK:∀a,v.a=some a->a.block≠kV.block:=λa ha=>(wJ a ha).2
 have GY:∀a,u.a=some a->a.block≠kV.block:=λa ha=>by rw[kY]at ha;cases ha;exact tZ
 have GZ:∀a,q.a=some a->a.block≠dV.block:=λa ha=>by rw[ph]at ha;cases ha;exact tZ.symm
 have hou:Yz h cu u U:=(qE.le iz.1).le jv.1;have hoq:Yz h cu q (Jl N 0):=jv.base UN;have wL:aL cu v (dg V):=hv.le jv.1;obtain⟨P,lo2,hP,Ha,ji,_⟩:=Zxs (Zu V) (n:=n) mQ;rw[Zk]at ji;have qC:(dg V).getD (n+1) 0<W:=Vx (Zu V) _;have jh:(dg V).getD n 0<W:=Vx (Zu V) _;generalize UO:(dg V).getD (n+1) 0=v1 at *;generalize aaR:(dg V).getD n 0=v2 at *;subst hP;have wM:W<=2*v1:=Z24 wE ji Ha jh;have DB:A<W ^ N:=yj.1 zO;have ki:vl (U.drop (N-(n+1)))<V:=zzc (n:=n+1) zO GV DB mP zO wE;refine Za (λst h'=>∃(k:Nat) (L r:List Nat),st=((k:Int)-1,())/\k<=N-n-1/\Yz h h' u L/\aX L/\L.length=N+1/\Yz h h' q r/\aX r/\r.length=N/\aL h' v (dg V)/\h' dV.block≠none/\h' kV.block≠none /\
  vl (L.drop k)<V/\A*2 ^ s=V*(W ^ k*vl (r.drop k))+vl L) (λst=>(st.1+1).toNat)
  ⟨N-n-1,U,_,by rw[lv,mQ,lx,hN,aM zO];congr 1;omega,Jd _,hou,okU,zO,hoq,tU _,zS,wL,?_,UM,by rw[show N-n-1=N-(n+1)by omega];exact ki,by rw[List.drop_replicate,GL,GV];simp⟩ ?_
 . have:h9.le cu:=Ja iz.1 jv.1;intro hh;exact Bt (Hp.df this hh)
 rintro st h3 ⟨k,L,r,rfl,hk,rG,iN,hLl,DC,dJ,dG,Bu,aaY,aaZ,hlt,hval⟩;have llu:=rG.len;have UP:=rG.2.2.1;refine zg (λh4=>?_) (λh4=>?_)
 . obtain⟨j,rfl⟩:∃j,k=j+1:=⟨k-1,by have:(k:Int)-1>=0:=h4;omega⟩;have fy:((j+1:Nat):Int)-1=(j:Int):=zO;have wj:i64.wrap ((j:Int)+(v.len:Int))=((j+(n+2):Nat):Int):=by rw[lv,mQ,aM zO];omega
   have wj3:i64.wrap (((j+(n+2):Nat):Int)+1)=((j+(n+3):Nat):Int):=by rw[aM zO];omega
   simp only[fy,wj,wj3];have tX:vl (L.drop (j+1))<W ^ (n+2):=Nat.lt_trans hlt zL;have jd:vl (L.drop (j+(n+3)))=0:=by
    have:=zfq iN tX;rw[show j+1+(n+2)=j+(n+3)by omega]at this;exact this
   obtain⟨lo,pg,hX⟩:=Za9 (n:=n) iN (j:=j) zO jd;have ua:L.getD (j+n) 0<W:=Vx iN _;have LL:vl (L.drop j)<V*W:=Z2d iN zO hlt;have hwX:vl ((L.drop j).take (n+3))=vl (L.drop j):=by
    have e1:=Ym (l:=L.drop j) (k:=n+3) (by rw[Uv];omega);rw[List.drop_drop,jd]at e1;omega
   have hg:∀i,i<n+3->((L.drop j).take (n+3)).getD i 0=L.getD (j+i) 0:=λi hi=>by
    simp only[Uj,Lp,hi,if_true,List.getElem?_drop]
   have cY:=rG.ep.cut j (j+(n+3)) zO zO;rw[show j+(n+3)-j=n+3 by omega]at cY;refine zx7 j (j+(n+3)) rfl rfl zO zO ?_;generalize DD:vl (L.drop j)=X at *;have o0:0<v1:=by unfold W at wM;omega
   have pj:(v1*W+v2)*W ^ n<=V:=by rw[ji];omega
   have pk:X<((L.getD (j+(n+2)) 0*W+L.getD (j+(n+1)) 0)*W+L.getD (j+n) 0+1)*W ^ n:=by rw[J9 _ 1];omega
   have wO:X/V<W:=(Ta eU).2 (by rw[J4];exact LL);have Hi:((L.drop j).take (n+3)).length=n+3:=by rw[Jk,Uv];omega
   refine zsv (X:=X) cY (u9 (GK iN _) _) Hi hwX Bu mQ zO (hg _ zO) (hg _ zO) UO eU o0 pj pk ua wO λz h5 cj hz hfz=>?_
   have aa0:Yz h h5 u L:=rG.le cj;have He:Yz h h5 q r:=DC.le cj;have aa1:=hfz.ne aaZ;refine DA j (X/V) ph He rfl zO rfl λh6 db aa2=>?_
   have UZ:Yz h h6 u L:=aa0.oX db wI GY;have DE:=UZ.ep.cut j (j+(n+3)) zO zO;rw[show j+(n+3)-j=n+3 by omega]at DE;have U':=hz.oX db aa1;have VA:h6 dV.block≠none:=by
    cases hh:h5 dV.block with
    | none=>exact absurd (Hp.df cj hh) aaY
    | some B2=>rw[db _ _ tZ hh];exact λe=>by cases e
   refine Xe DE (by rw[Hi];omega) λw hw=>?_
   rw[Yj (u9 (GK iN _) _),hwX]at hw;have hXl:(dg X).length<=n+3:=yj.2 (by have:=sI (u9 (GK iN j) (n+3));rw[hwX,Hi]at this;exact this);have hmd:=L6 X V;refine zf4 hw U' (Zu X) (Zu _) zO (qz hmd) (by rw[Zk,Zk];exact hmd) λdS h7 gj Hj aa3=>?_
   rw[Zk,Zk]at Hj;have aa4:Yz h h7 u L:=UZ.le gj;have DF:=aa3.ne VA;have aa5:(dg (X-X/V*V)).length<=n+3:=by have:=qz (Nat.sub_le X (X/V*V));omega
   have DG:=Hj.len;refine Za (λst h'=>∃(i:Nat) (L':List Nat),st=((i:Int),())/\i<=n+3/\jH dV.block h7 h'/\Yz h h' u L'/\aX L'/\L'.length=N+1/\L'.take j=L.take j/\L'.drop (j+(n+3))=L.drop (j+(n+3)) /\
    vl ((L'.drop j).take i)=vl ((dg (X-X/V*V)).take i)) (λst=>((n+3:Nat)-st.1).toNat) ⟨0,L,rfl,Jt _,jH.refl,aa4,iN,hLl,rfl,rfl,by simp[vl]⟩ ?_
   rintro st h8 ⟨i,L',rfl,hi,wP,wQ,VC,VD,ht8,hd8,hv8⟩;have lc8:(u.cut j (j+(n+3)) 1).len=n+3:=by show j+(n+3)-j=n+3;omega
   have llu8:=wQ.len;have aa6:=wQ.2.2.1;refine zg (λh9=>?_) (λh9=>?_)
   . have aA:i<n+3:=by have:(i:Int)<((u.cut j (j+(n+3)) 1).len:Int):=h9;rw[lc8]at this;omega
     have hgw:=Vx (Zu (X-X/V*V)) i;refine zj (λ_ h'=>jH dV.block h7 h'/\Yz h h' u (L'.set (j+i) ((dg (X-X/V*V)).getD i 0))) ?_ ?_
     . rintro _ h' ⟨aa7,aa8⟩;refine⟨⟨i+1,_,by rw[aM (by simp only;omega)];rfl,zO,aa7,aa8,kX VC hgw,by simp[VD],by rw[UG zO];exact ht8,by rw[UH zO];exact hd8,?_⟩,by simp only;rw[aM zO];omega⟩;rw[Zkp,Dz (by rw[Uv];omega),Dy,hv8]
     . refine zG rfl zO zO (DA (j+i) 0 kY wQ rfl zO rfl λaZ jw DH=>?_);refine zg (λbV=>?_) (λbV=>?_)
       . have da:i<(dg (X-X/V*V)).length:=by have:(i:Int)<(dS.len:Int):=bV;omega
         refine tY i ((Hj.oX wP DF).oX jw DF) rfl da λa5 ha5=>⟨_,ha5,?_⟩
         refine zG rfl zO zO (DA (j+i) _ kY DH rfl (by simp;omega) rfl λcu pn DI=>⟨(wP.trans jw).trans pn,?_⟩);rw[List.set_set]at DI;exact DI
       . have da:(dg (X-X/V*V)).length<=i:=by have:¬(i:Int)<(dS.len:Int):=bV;omega
         rw[Bp da];exact⟨wP.trans jw,DH⟩
   . have aA:i=n+3:=by have:¬(i:Int)<((u.cut j (j+(n+3)) 1).len:Int):=h9;rw[lc8]at this;omega
     subst aA;rw[Je aa5,Zk]at hv8;have hv9:vl (L'.drop j)=X-X/V*V:=by
      have e1:=Ym (l:=L'.drop j) (k:=n+3) (by rw[Uv];omega);rw[List.drop_drop,hd8,jd]at e1;omega
     obtain⟨g2,g3⟩:=Zn0 eU DD zO zO ht8 hv9;have Hk:h8 dV.block≠none:=by
      obtain⟨a,e1,_,e3⟩:=Own.some wQ zO;rw[kY]at e1;cases e1;exact e3
     have VE:Yz h h8 q (r.set j (X/V)):=(aa2.le gj).oX wP GX GZ;have VF:h8 kV.block≠none:=by
      obtain⟨a,e1,_,e3⟩:=Own.some VE (by simp;omega);rw[ph]at e1;cases e1;exact e3
     exact⟨⟨j,L',_,by rw[aM zO],zO,wQ,VC,VD,VE,kX dJ wO,by simp[dG],(((Bu.le cj).oX db wK).le gj).oX wP mj,Hk,VF,g3,zyz rfl hval g2 zO⟩,by rw[aM zO];omega⟩
 . obtain rfl:k=0:=by have:¬(k:Int)-1>=0:=h4;omega
   simp only[Tf,Nat.pow_zero,La]at hlt hval;have hVq:A/B=vl r:=by
    have h5:A*2 ^ s/(B*2 ^ s)=A/B:=Nat.mul_div_mul_right _ _ (J7 s);rw[hV,hval,Nat.mul_add_div eU,Pl hlt,G0]at h5;exact h5.symm
   have hVr:vl L=A % B*2 ^ s:=by
    have h5:A*2 ^ s % (B*2 ^ s)=A % B*2 ^ s:=Nat.mul_mod_mul_right _ _ _;rw[hV,hval,Nat.mul_add_mod,Ui hlt]at h5;exact h5
   refine Xe DC.ep zO λz1 rH=>?_
   rw[Yj dJ,<-hVq]at rH;refine Xe rG.ep zO λz2 fB=>?_
   rw[Yj iN]at fB;have aaW:(dg (vl L)).length<=n+2:=yj.2 (Nat.lt_trans hlt zL);refine Zaj fB (Zu _) mP zO λz3 h5 cj zM=>?_
   rw[Zk,hVr,Nat.mul_div_cancel _ (J7 s)]at zM;exact H _ _ _ (Ja rG.1 cj) (rH.le cj) zM
def zl4{A B:Nat}(hx:aL h x (dg A))(hy:aL h y (dg B))(hB:B≠0)(hl:(dg A).length<=35184372088000)(bH:(dg B).length<=35184372088000)
 (H:∀q r h',h.le h'->aL h' q (dg (A/B))->aL h' r (dg (A % B))->Kp (q,r) h'):za (F.Kl x y) Kp h:=
 zb (λv h'=>aL h' v.1 (dg (A/B))/\aL h' v.2 (dg (A % B))) (λK' hk=>Z65 hx hy hB hl bH λq r h' h1 h2 h3=>hk _ _ h1 ⟨h2,h3⟩) λv h' h1 ⟨h2,h3⟩=>H v.1 v.2 h' h1 h2 h3
end
end Den
end

noncomputable section
namespace Den
open Go Iv
def zzo{P:Nat->Prop}(h:∃n,P n):∃n,P n/\∀m,P m->n<=m:=by
 obtain⟨n,hn⟩:=h;induction n using Nat.strongRecOn with
 | _ n ih=>
   by_cases hm:∃m,m<n/\P m
   . obtain⟨m,h1,h2⟩:=hm;exact ih m h1 h2
   . exact⟨n,hn,λm h2=>by
      rcases Jx m n with h3 | h3
      exact absurd ⟨m,h3,h2⟩ hm;exact h3⟩
open Classical in
def zwa(P:Nat->Prop):Nat:=if h:∃n,P n then Classical.choose (zzo h)else 0
def znl{P:Nat->Prop}{n:Nat}(h:P n):P (zwa P)/\zwa P<=n:=by
 have h1:∃n,P n:=⟨n,h⟩;unfold zwa;rw[dif_pos h1];have:=Classical.choose_spec (zzo h1);exact⟨this.1,this.2 n h⟩
def zqp{S:Type}{body:S->(S->Hp->Prop)->Hp->Prop}{s0:S}{h0:Hp}(I:Nat->S->Hp->Prop)(n0:Nat)(h1:I n0 s0 h0)
 (h2:∀n s h,I n s h->∀K:S->Hp->Prop,(∀s' h' n',n'<n->I n' s' h'->K s' h')->body s K h):zx body s0 h0:=by
 refine⟨λs h=>∃n,I n s h,λs h=>zwa λn=>I n s h,⟨n0,h1⟩,λs h ⟨n,hI⟩=>?_⟩;have h3:=znl (P:=λn=>I n s h) hI;refine h2 _ s h h3.1 _ λs' h' n' hn JU=>⟨⟨n',JU⟩,?_⟩
 have h4:=znl (P:=λn=>I n s' h') JU;exact U7 h4.2 hn
section
variable {b:aE}
def zqe(x y:Nat):Uq y (x % y)=Uq x y:=by
 rw[Nat.gcd_comm x y,Nat.gcd_rec y x,Nat.gcd_comm]
def zt5(ha:NI h a m)(hb:NI h b n)(om:(dg m.natAbs).length<=35184372087808)(on:(dg n.natAbs).length<=35184372087808)(H:∀z h',h.le h'->NI h' z (Uq m.natAbs n.natAbs:Nat)->KI z h'):za (F.C7 a b) KI h:=by
 refine zb _ (λK' hk=>?_) H;unfold F.C7;refine zhb ha om λx hx=>zhb hb on λy hy=>?_
 have gE:=om;have kf:=on;refine zj (λst h'=>h.le h'/\∃A B:Nat,aL h' st.1 (dg A)/\aL h' st.2.1 (dg B)/\(dg A).length<=35184372087808/\Uq A B=Uq m.natAbs n.natAbs/\(dg B).length<=2/\(B≠0->(dg A).length<=2)) ?_ ?_
 . rintro⟨x,y,_⟩ h1 ⟨aP,A,B,hA,hB,DB,hg,pV,hA2⟩;simp only at hA hB |-
   have lB:=hB.len;refine Zs (λh2=>?_) (λh2=>?_)
   . have qD:B=0:=sH.1 (Ju.1 zO);subst qD;rw[Nat.gcd_zero_right]at hg;refine ze0 hA zO λz h3 bj hz=>Wt hz zO λw hw=>hk _ _ (Ja aP bj) ?_
     rw[<-hg];exact hw
   . have qD:B≠0:=λh0=>h2 (by rw[lB,h0,qe];rfl)
     have VG:=hA2 qD;refine zc9 hA (Zu A) VG λh3 bj=>zc9 (hB.le bj) (Zu B) pV λh4 cf=>?_
     rw[Zk,Zk];have lt2:∀{n:Nat},(dg n).length<=2->n<18446744073709551616:=λhn=>by
      have:=(yj (k:=2)).1 hn;have e:W ^ 2=18446744073709551616:=zD;omega
     refine Za (λst h'=>h.le h'/\∃A B:Nat,st=((A:Int),(B:Int),())/\A<18446744073709551616/\B<18446744073709551616/\Uq A B=Uq m.natAbs n.natAbs) (λst=>st.2.1.toNat)
      ⟨Ja aP (Ja bj cf),A,B,rfl,lt2 VG,lt2 pV,hg⟩ ?_
     rintro _ h5 ⟨cj,A,B,rfl,hA3,hB3,hg3⟩;refine oB (λh6=>⟨h6,?_⟩) (λh6=>?_)
     . have hB4:B≠0:=λh0=>h6 (by rw[h0];rfl)
       have:=Ga A (T6 hB4);simp only;rw[GQ];exact⟨⟨cj,B,A % B,rfl,hB3,zO,by rw[zqe];exact hg3⟩,zO⟩
     . have hB4:B=0:=by simp only at h6;omega
       subst hB4;rw[Nat.gcd_zero_right]at hg3;have:=dg2 hA3;refine TU rfl hA3 λz h7 gj hz=>Wt hz zO λw hw=>hk _ _ (Ja cj gj) ?_
       rw[<-hg3];exact hw
 . refine zqp (λN st h'=>h.le h'/\∃A:Nat,aL h' st.1 (dg A)/\aL h' st.2.1 (dg N)/\(dg A).length<=35184372087808/\(dg N).length<=35184372087808/\Uq A N=Uq m.natAbs n.natAbs) n.natAbs
    ⟨Jf _,m.natAbs,hx,hy,gE,kf,rfl⟩ ?_
   rintro B ⟨x,y,_⟩ h1 ⟨aP,A,hA,hB,DB,UK,hg⟩ K hK;simp only at hA hB |-
   have lA:=hA.len;have lB:=hB.len;have step:B≠0->za (F.Xt x y) (λfq cO=>K (y,fq.2,()) cO) h1:=λqD=>by
    refine zg5 hA hB qD zO zO λq r h2 bH hq hr=>?_
    have:=Ga A (T6 qD);exact hK _ _ (A % B) this ⟨Ja aP bH,B,hB.le bH,hr,UK,by have:=qz (Lg this);omega,by rw[zqe];exact hg⟩
   have qD:0<y.len->B≠0:=λh0 hh=>by rw[lB,hh,qe]at h0;exact absurd h0 zD
   refine Wf ?_;refine zg (λh2=>step (qD zO)) (λh2=>zg (λh3=>zg (λh4=>step (qD zO)) (λh4=>?_)) (λh3=>?_));exact⟨aP,A,B,hA,hB,DB,hg,zO,λh5=>absurd (sH.1 (Ju.1 zO)) h5⟩;exact⟨aP,A,B,hA,hB,DB,hg,zO,λ_=>by omega⟩
def zoz(ha:NI h a m)(hb:NI h b n)(om:Ok m)(on:Ok n)(H:∀z h',h.le h'->NI h' z (Uq m.natAbs n.natAbs:Nat)->KI z h'):za (F.C7 a b) KI h:=
 zt5 ha hb (Jo om zD) (Jo on zD) H
def zr8(ha:NI h a m)(hb:NI h b n)(om:(dg m.natAbs).length<=35184372087808)(on:(dg n.natAbs).length<=35184372087808)(H:∀z h',h.le h'->NI h' z (Uq m.natAbs n.natAbs:Nat)->KI z h'):za (F.yU a b) KI h:=by
 refine zb _ (λK' hk=>?_) H;unfold F.yU;refine zlf ha om λx hx=>zlf hb on λy hy=>?_
 have gE:=om;have kf:=on;refine zqp (λN st h'=>h.le h'/\∃A:Nat,aL h' st.1 (dg A)/\aL h' st.2.1 (dg N)/\(dg A).length<=35184372087808/\(dg N).length<=35184372087808/\Uq A N=Uq m.natAbs n.natAbs) n.natAbs
  ⟨Jf _,m.natAbs,hx,hy,gE,kf,rfl⟩ ?_
 rintro B ⟨x,y,_⟩ h1 ⟨aP,A,hA,hB,DB,UK,hg⟩ K hK;simp only at hA hB |-
 have lA:=hA.len;have lB:=hB.len;refine zg (λh2=>?_) (λh2=>?_)
 . have qD:B≠0:=λhh=>by rw[lB,hh,qe]at h2;exact absurd h2 zD
   refine zl4 hA hB qD zO zO λq r h2 bH hq hr=>?_
   have:=Ga A (T6 qD);exact hK _ _ (A % B) this ⟨Ja aP bH,B,hB.le bH,hr,UK,by have:=qz (Lg this);omega,by rw[zqe];exact hg⟩
 . have qD:B=0:=sH.1 (Ju.1 zO);subst qD;rw[Nat.gcd_zero_right]at hg;refine Qo hA zO λw hw=>hk _ _ aP ?_
   rw[<-hg];exact hw
def VH(ha:NI h a m)(hb:NI h b n)(om:Ok m)(on:Ok n)(H:∀z h',h.le h'->NI h' z (Uq m.natAbs n.natAbs:Nat)->KI z h'):za (F.yU a b) KI h:=
 zr8 ha hb (Jo om zD) (Jo on zD) H
def znj(ha:NI h a m)(H:Kb (decide (m=0)) h):za (F.Ou a) Kb h:=by
 refine zw _ (λK' hk=>?_) H;unfold F.Ou;rw[ha.rF];exact hk
def Z3s:dg 1=[1]:=by rw[GJ zD,show 1/W=0 by decide,qe];rfl
def zno(G:(Bool->Hp->Prop)->Hp->Prop)(hG:∀K,((m=1)->K true h)->((m≠1)->K false h)->G K h)(H:Kb (decide (m=1)) h):za G Kb h:=by
 refine zw (decide (m=1)) (λK' hk=>hG K' (λh1=>?_) (λh1=>?_)) H;rw[decide_eq_true h1]at hk;exact hk;rw[decide_eq_false h1]at hk;exact hk
def LP(ha:NI h a m)(H:Kb (decide (m=1)) h):za (F.Qw a) Kb h:=by
 refine zno _ (λK' h1 h0=>?_) H;unfold F.Qw;have hl:=ha.len;rw[ha.2];refine Zw (λh2=>?_) (λh2=>?_)
 . have cI:¬m<0:=by simpa using h2
   refine Zs (λh3=>?_) (λh3=>?_)
   . have h4:=zok (B:=m.natAbs) zO;refine tY 0 ha.1 rfl zO λp hp=>⟨_,hp,?_⟩
     rw[h4];by_cases h5:m=1
     . have:=h1 h5;subst h5;exact this
     . have:=h0 h5;have e:(((([m.natAbs]:List Nat).getD 0 0:Nat):Int)==1)=false:=by
        simp;omega
       simp only;rw[e];exact this
   . refine h0 λh5=>h3 ?_
     subst h5;rw[hl,show(1:Int).natAbs=1 from rfl,Z3s];rfl
 exact h0 λh5=>by subst h5;simp at h2
def LQ(ha:NI h a m)(H:Kb (decide (m=1)) h):za (F.A4 a) Kb h:=by
 refine zno _ (λK' h1 h0=>?_) H;unfold F.A4;have hl:=ha.len;refine Zs (λh3=>?_) (λh3=>?_)
 . have h4:=zok (B:=m.natAbs) zO;refine tY 0 ha.1 rfl zO λp hp=>⟨_,hp,?_⟩
   rw[h4];refine Zs (λh5=>?_) (λh5=>?_)
   . have h6:((m.natAbs:Nat):Int)=1:=h5;rw[ha.2];by_cases h7:m<0;rw[decide_eq_true h7];exact h0 zO;rw[decide_eq_false h7];exact h1 zO
   . have h6:((m.natAbs:Nat):Int)≠1:=h5;exact h0 zO
 . refine h0 λh5=>h3 ?_
   subst h5;rw[hl,show(1:Int).natAbs=1 from rfl,Z3s];rfl
def DM(m n q r:Int):Prop:=m=n*q+r/\(0<n->0<=r/\r<n)/\(n<0->n<r/\r<=0)
def DM.div{m n q r:Int}(h:DM m n q r)(h0:n≠0)(hd:0<n\/n ∣ m):q=m/n:=by
 obtain⟨h1,h2,h3⟩:=h;rcases hd with hd | hd
 . have h4:=h2 hd;exact((Int.ediv_emod_unique hd).2 ⟨zO,h4.1,h4.2⟩).1.symm
 . have hr:n ∣ r:=by
    have e:r=m-n*q:=zO;rw[e];exact Int.dvd_sub hd (Int.dvd_mul_right n q)
   have po:r=0:=by
    have h5:n.natAbs ∣ r.natAbs:=Int.natAbs_dvd_natAbs.2 hr;have h6:r.natAbs<n.natAbs:=by
     rcases Int.lt_or_gt_of_ne h0 with h7 | h7
     have:=h3 h7;omega;have:=h2 h7;omega
    have:=Nat.eq_zero_of_dvd_of_lt h5 h6;omega
   rw[h1,po,Int.add_zero,Ux _ h0]
def V1(m:Int):m=m.natAbs/\¬m<0\/m=-(m.natAbs:Int)/\m<0:=zO
def Znx{m n:Int}(h0:n≠0)(h:decide (m<0)=decide (n<0)):DM m n (sg false (m.natAbs/n.natAbs)) (sg (decide (n<0)) (m.natAbs % n.natAbs)):=by
 have e:=Nat.div_add_mod m.natAbs n.natAbs;have hlt:=Ga m.natAbs (y:=n.natAbs) zO;have h':m<0↔n<0:=by simpa using h
 have c1:=V1 m;have c2:=V1 n;clear h;generalize m.natAbs/n.natAbs=q at *;generalize m.natAbs % n.natAbs=r at *;generalize m.natAbs=A at *;generalize n.natAbs=B at *;have e':(A:Int)=B*q+r:=by rw[<-e];simp
 unfold DM sg;rcases c1 with ⟨h1,h2⟩ | ⟨h1,h2⟩<;>rcases c2 with ⟨h3,h4⟩ | ⟨h3,h4⟩
 . rw[decide_eq_false h4];simp only[Ur,if_false];exact⟨by rw[h1,h3,e'],λ_=>by omega,λ_=>by omega⟩
 omega;omega
 . rw[decide_eq_true h4];simp only[Ur,if_false,if_true];exact⟨by rw[h1,h3,e',Int.neg_add,Int.neg_mul],λ_=>by omega,λ_=>by omega⟩
def Zny{m n:Int}(h0:n≠0)(h:decide (m<0)≠decide (n<0))(hr:m.natAbs % n.natAbs=0):DM m n (sg true (m.natAbs/n.natAbs)) (sg (decide (n<0)) (m.natAbs % n.natAbs)):=by
 have e:=Nat.div_add_mod m.natAbs n.natAbs;have h':¬(m<0↔n<0):=by simpa using h
 have c1:=V1 m;have c2:=V1 n;rw[hr]at e |-
 clear h hr;generalize m.natAbs/n.natAbs=q at *;generalize m.natAbs=A at *;generalize n.natAbs=B at *;have e':(A:Int)=B*q:=by rw[<-e];simp
 unfold DM sg;rcases c1 with ⟨h1,h2⟩ | ⟨h1,h2⟩<;>rcases c2 with ⟨h3,h4⟩ | ⟨h3,h4⟩
 omega
 . rw[decide_eq_true h4];simp only[if_true];exact⟨by rw[h1,h3,e',Int.neg_mul_neg];simp,λ_=>by omega,λ_=>by omega⟩
 . rw[decide_eq_false h4];simp only[Ur,if_false,if_true];exact⟨by rw[h1,h3,e',Int.mul_neg];simp,λ_=>by omega,λ_=>by omega⟩
 omega
def Znw{m n:Int}(h0:n≠0)(h:decide (m<0)≠decide (n<0))(hr:m.natAbs % n.natAbs≠0):DM m n (sg true (m.natAbs/n.natAbs+1)) (sg (decide (n<0)) (n.natAbs-m.natAbs % n.natAbs)):=by
 have e:=Nat.div_add_mod m.natAbs n.natAbs;have hlt:=Ga m.natAbs (y:=n.natAbs) zO;have h':¬(m<0↔n<0):=by simpa using h
 have c1:=V1 m;have c2:=V1 n;clear h;generalize m.natAbs/n.natAbs=q at *;generalize m.natAbs % n.natAbs=r at *;generalize m.natAbs=A at *;generalize n.natAbs=B at *;have e':(A:Int)=B*q+r:=by rw[<-e];simp
 have e2:((B-r:Nat):Int)=(B:Int)-r:=zO;have e3:(B:Int)*((q+1:Nat):Int)=B*q+B:=by
  rw[Int.natCast_add,Int.mul_add];simp
 unfold DM sg;rw[e2];rcases c1 with ⟨h1,h2⟩ | ⟨h1,h2⟩<;>rcases c2 with ⟨h3,h4⟩ | ⟨h3,h4⟩
 omega
 . rw[decide_eq_true h4];simp only[if_true];refine⟨?_,λ_=>by omega,λ_=>by omega⟩;rw[h1,h3,e',Int.neg_mul_neg,e3];omega
 . rw[decide_eq_false h4];simp only[Ur,if_false,if_true];refine⟨?_,λ_=>by omega,λ_=>by omega⟩;rw[h1,h3,e',Int.mul_neg,e3];omega
 omega
def Zjp{p q:Bool}(h:p=q):(!(p==q))=false:=by subst h;simp
def Z9c{p q:Bool}(h:p≠q):(!(p==q))=true:=by simpa using h
def Hl(ha:NI h a m)(hb:NI h b n)(om:Ok m)(on:Ok n)(h0:n≠0)
 (H:∀z w h' q r,h.le h'->NI h' z q->NI h' w r->DM m n q r->KP (z,w,0) h'):za (F.qp a b) KP h:=by
 refine zb (λv h'=>∃q r,NI h' v.1 q/\NI h' v.2.1 r/\DM m n q r/\v.2.2=0) (λK' hk=>?_) λ⟨z,w,c⟩ h' hl ⟨q,r,h1,h2,h3,h4⟩=>by
  simp only at h4;subst h4;exact H z w h' q r hl h1 h2 h3
 unfold F.qp;have gE:(dg m.natAbs).length<=8796093022208:=om;have kf:(dg n.natAbs).length<=8796093022208:=on;refine We hb on λy hy=>?_
 have ly:=hy.len;refine Zs (λh1=>absurd (TY.1 zO) h0) (λh1=>?_);refine We ha om λx hx=>?_
 refine zg5 hx hy zO zO zO λq r h2 bH hq hr=>?_
 have VI:(dg (m.natAbs/n.natAbs)).length<=8796093022208:=Jo (qz (G6 _ _)) gE;have dG:(dg (m.natAbs % n.natAbs)).length<=8796093022208:=Jo (qz (Nat.mod_le _ _)) gE;have lr:=hr.len;rw[ha.2,hb.2];refine zj (λst h'=>h.le h'/\∃q r:List Nat,aX q/\aX r/\aL h' st.1 q/\aL h' st.2.1 r/\q.length<=35184372088800/\r.length<=35184372088800/\DM m n (sg (!(decide (m<0)==decide (n<0))) (vl q)) (sg (decide (n<0)) (vl r))) ?_ ?_
 . rintro⟨x,y,_⟩ h3 ⟨bj,q,r,VJ,dJ,hx3,hy3,vf,nE,ub⟩;refine zc5 hx3 VJ zO λz hz=>zc5 hy3 dJ zO λw hw=>hk _ _ bj ⟨_,_,hz,hw,ub,rfl⟩
 . have stay:DM m n (sg (!(decide (m<0)==decide (n<0))) (m.natAbs/n.natAbs)) (sg (decide (n<0)) (m.natAbs % n.natAbs)) ->
    h.le h2/\∃q' r':List Nat,aX q'/\aX r'/\aL h2 q q'/\aL h2 r r'/\q'.length<=35184372088800/\r'.length<=35184372088800/\DM m n (sg (!(decide (m<0)==decide (n<0))) (vl q')) (sg (decide (n<0)) (vl r')):=λhd=>
    ⟨bH,dg _,dg _,Zu _,Zu _,hq,hr,zO,zO,by rw[Zk,Zk];exact hd⟩
   refine Zw (λh3=>?_) (λh3=>?_)
   . have hd:decide (m<0)≠decide (n<0):=by simpa using h3
     refine zg (λh4=>?_) (λh4=>?_)
     . have po:m.natAbs % n.natAbs≠0:=λhh=>by rw[lr,hh,qe]at h4;exact absurd h4 zD
       have hlt:=Ga m.natAbs (y:=n.natAbs) zO;refine Qv (n:=1) (size:=1) rfl λb1 h5 sk ho=>?_
       have mh:Yz h2 h5 ⟨some ⟨b1,0,none⟩,1,1⟩ [1]:=ho;refine zmn (hq.le ho.1) mh.ep (Zu _) (λd hd=>by rw[Uz.1 hd];decide) zO zS λz h6 rr db hz VK hv Hm=>?_
       rw[Zk]at hv;have Hn:=Ja ho.1 db;refine zjl (hy.le (Ja bH Hn)) (hr.le Hn) (Zu _) (Zu _) zO (qz (Lg hlt)) (by rw[Zk,Zk];exact Lg hlt) λw h7 gj hw=>?_
       rw[Zk,Zk]at hw;refine⟨Ja bH (Ja Hn gj),rr,_,VK,Zu _,hz.le gj,hw,by simp at Hm;omega,by have:=UD (n:=m.natAbs % n.natAbs) kf;omega,?_⟩;rw[Zk,hv,Z9c hd];have:=Znw h0 hd po;simpa [vl] using this
     . have po:m.natAbs % n.natAbs=0:=sH.1 (Ju.1 (by have h5:¬(r.len:Int)>0:=h4;omega));exact stay (by rw[Z9c hd];exact Zny h0 hd po)
   . have hd:decide (m<0)=decide (n<0):=by simpa using h3
     exact stay (by rw[Zjp hd];exact Znx h0 hd)
end
end Den
end

section
namespace Den
open Go Iv
section
variable {b:aE}
def tq(m n:Int):Int:=sg (!(decide (m<0)==decide (n<0))) (m.natAbs/n.natAbs)
def zxu{m n:Int}(h0:n≠0):m-tq m n*n=sg (decide (m<0)) (m.natAbs % n.natAbs):=by
 have e:=Nat.div_add_mod m.natAbs n.natAbs;have c1:=V1 m;have c2:=V1 n;unfold tq;generalize m.natAbs/n.natAbs=q at *;generalize m.natAbs % n.natAbs=r at *;generalize m.natAbs=A at *;generalize n.natAbs=B at *;have e':(A:Int)=B*q+r:=by rw[<-e];simp
 unfold sg;rcases c1 with ⟨h1,h2⟩ | ⟨h1,h2⟩<;>rcases c2 with ⟨h3,h4⟩ | ⟨h3,h4⟩
 . rw[decide_eq_false h2,decide_eq_false h4];simp only[BEq.rfl,Bool.not_true,Ur,if_false];rw[h1,h3,e',Pw];omega
 . rw[decide_eq_false h2,decide_eq_true h4];simp only[Ur,if_false];rw[if_pos zD,h1,h3,e',Int.neg_mul_neg,Pw];omega
 . rw[decide_eq_true h2,decide_eq_false h4];simp only[if_true];rw[if_pos zD,h1,h3,e',Int.neg_mul,Pw];omega
 . rw[decide_eq_true h2,decide_eq_true h4];simp only[BEq.rfl,Bool.not_true,Ur,if_false,if_true];rw[h1,h3,e',Int.mul_neg,Pw];omega
def Y0j{m n:Int}(h0:n≠0)(h:¬(m-tq m n*n).sign*n.sign<0):DM m n (tq m n) (m-tq m n*n):=by
 have hr:=zxu (m:=m) h0;have hlt:=Ga m.natAbs (y:=n.natAbs) zO;have hb:(m-tq m n*n).natAbs<n.natAbs:=by rw[hr,Bn];exact hlt
 have s1:=Yg (m-tq m n*n);have s2:=Yg n;refine⟨by rw[Pw n];omega,λh1=>?_,λh1=>?_⟩
 . generalize m-tq m n*n=r at *;rcases s1 with ⟨e1,s1⟩ | ⟨e1,s1⟩ | ⟨e1,s1⟩<;>rcases s2 with ⟨e2,s2⟩ | ⟨e2,s2⟩ | ⟨e2,s2⟩<;>(rw[e1,e2]at h)<;>omega
 . generalize m-tq m n*n=r at *;rcases s1 with ⟨e1,s1⟩ | ⟨e1,s1⟩ | ⟨e1,s1⟩<;>rcases s2 with ⟨e2,s2⟩ | ⟨e2,s2⟩ | ⟨e2,s2⟩<;>(rw[e1,e2]at h)<;>omega
def Ho{m n:Int}(h0:n≠0)(h:(m-tq m n*n).sign*n.sign<0):DM m n (tq m n-1) (m-tq m n*n+n):=by
 have hr:=zxu (m:=m) h0;have hlt:=Ga m.natAbs (y:=n.natAbs) zO;have hb:(m-tq m n*n).natAbs<n.natAbs:=by rw[hr,Bn];exact hlt
 have s1:=Yg (m-tq m n*n);have s2:=Yg n;refine⟨by rw[Int.mul_sub,Pw n (tq m n)];omega,λh1=>?_,λh1=>?_⟩
 . generalize m-tq m n*n=r at *;rcases s1 with ⟨e1,s1⟩ | ⟨e1,s1⟩ | ⟨e1,s1⟩<;>rcases s2 with ⟨e2,s2⟩ | ⟨e2,s2⟩ | ⟨e2,s2⟩<;>(rw[e1,e2]at h)<;>omega
 . generalize m-tq m n*n=r at *;rcases s1 with ⟨e1,s1⟩ | ⟨e1,s1⟩ | ⟨e1,s1⟩<;>rcases s2 with ⟨e2,s2⟩ | ⟨e2,s2⟩ | ⟨e2,s2⟩<;>(rw[e1,e2]at h)<;>omega
def Ok.le{m n:Int}(hm:Ok m)(h:n.natAbs<=m.natAbs):Ok n:=Jo (qz h) hm
def Zs3:Ok 1:=by unfold Ok;rw[show(1:Int).natAbs=1 from rfl,Z3s];decide
def Zxt(m n:Int):(tq m n).natAbs<=m.natAbs:=by unfold tq;rw[Bn];exact G6 _ _
def Zph(m n:Int):(tq m n*n).natAbs<=m.natAbs:=by
 rw[Gf];unfold tq;rw[Bn];exact L6 _ _
def zwp(ha:NI h a m)(hb:NI h b n)(om:Ok m)(on:Ok n)(h0:n≠0)
 (H:∀z w h' q r,h.le h'->NI h' z q->NI h' w r->DM m n q r->KP (z,w,0) h'):za (F.z9s a b) KP h:=by
 refine zb (λv h'=>∃q r,NI h' v.1 q/\NI h' v.2.1 r/\DM m n q r/\v.2.2=0) (λK' hk=>?_) λ⟨z,w,c⟩ h' hl ⟨q,r,h1,h2,h3,h4⟩=>by
  simp only at h4;subst h4;exact H z w h' q r hl h1 h2 h3
 unfold F.z9s;have gE:(dg m.natAbs).length<=8796093022208:=om;have kf:(dg n.natAbs).length<=8796093022208:=on;refine GP ha om λx hx=>GP hb on λy hy=>?_
 refine Zw (λh1=>?_) (λ_=>?_);rw[hy.rF]at h1;exact absurd (of_decide_eq_true h1) h0;refine zl4 hx.1 hy.1 zO zO zO λq r h2 bH hq hr=>?_
 have VI:(dg (m.natAbs/n.natAbs)).length<=8796093022208:=Jo (qz (G6 _ _)) gE;rw[hx.2,hy.2];refine Qo hq zO λz hz=>?_
 have qB:NI h2 z (tq m n):=hz;have oq:Ok (tq m n):=om.le (Zxt m n);refine X0 qB (hy.le bH) oq on λw h3 bj hw=>?_
 have VL:=Ja bH bj;refine zmp (hx.le VL) hw om (om.le (Zph m n)) λv h4 cf hv=>?_
 have Bz:=Ja VL cf;have hb:(m-tq m n*n).natAbs<n.natAbs:=by rw[zxu h0,Bn];exact Ga _ zO
 have or':Ok (m-tq m n*n):=on.le (Lg hb);refine zj (λst h'=>h.le h'/\∃q r,NI h' ⟨st.1.1,st.1.2.1⟩ q/\NI h' ⟨st.2.1.1,st.2.1.2.1⟩ r/\DM m n q r) ?_ ?_
 . rintro st h5 ⟨cj,q,r,LS,hr5,ub⟩;exact hk _ _ cj ⟨q,r,LS,hr5,ub,rfl⟩
 . refine UB hv or' (UB (hy.le Bz) on ?_);have s1:=Yg (m-tq m n*n);have s2:=Yg n;have es:i64.wrap ((m-tq m n*n).sign*n.sign)=(m-tq m n*n).sign*n.sign:=by
    rcases s1 with ⟨e1,s1⟩ | ⟨e1,s1⟩ | ⟨e1,s1⟩<;>rcases s2 with ⟨e2,s2⟩ | ⟨e2,s2⟩ | ⟨e2,s2⟩<;>rw[e1,e2]<;>rfl
   rw[es];refine zg (λh5=>?_) (λh5=>?_)
   . refine TZ zD zD λo h6 db ho=>?_
     have VM:NI h6 z (tq m n):=((qB.le bj).le cf).le db;refine zmp VM ho oq Zs3 λu h7 gj hu=>?_
     have Hq:=Ja db gj;refine UE (hv.le Hq) (hy.le (Ja Bz Hq)) or' on λt h8 gR ht=>?_
     exact⟨Ja Bz (Ja Hq gR),_,_,hu.le gR,ht,Ho h0 h5⟩
   exact⟨Bz,_,_,(qB.le bj).le cf,hv,Y0j h0 h5⟩
def Z09(ha:NI h a m)(hb:NI h b n)(om:Ok m)(on:Ok n)(h0:n≠0)(hd:0<n\/n ∣ m)(H:∀z h',h.le h'->NI h' z (m/n)->KI z h'):za (F.Ox a b) KI h:=by
 refine zb _ (λK' hk=>?_) H;unfold F.Ox;refine LP hb ?_;refine zg (λh1=>?_) (λh1=>?_)
 . subst h1;exact hk _ _ (Jf _) (by rw[Int.ediv_one];exact ha)
 . refine Hl ha hb om on h0 λz w h' q r hl hz hw ub=>hk _ _ hl ?_
   have:=ub.div h0 hd;subst this;exact hz
def zP(ha:NI h a m)(hb:NI h b n)(om:Ok m)(on:Ok n)(h0:n≠0)(hd:0<n\/n ∣ m)(H:∀z h',h.le h'->NI h' z (m/n)->KI z h'):za (F.W5 a b) KI h:=by
 refine zb _ (λK' hk=>?_) H;unfold F.W5;refine zwp ha hb om on h0 λz w h' q r hl hz hw ub=>hk _ _ hl ?_
 have:=ub.div h0 hd;subst this;exact hz
end
end Den
end

section
namespace Iv
def kZ(q:Rat):((q.den:Nat):Int)≠0:=by have:=q.den_pos;omega
def zQ{n d:Int}{q:Rat}(hd:d≠0):Jw n d=q↔n*q.den=q.num*d:=by
 have h:=Rat.divInt_eq_divInt_iff (n₁:=n) (n₂:=q.num) hd (kZ q);rw[P4]at h;exact h
def BA{n d:Int}{q:Rat}(hd:0<d)(hc:T4 n.natAbs d.natAbs)(h:n*q.den=q.num*d):n=q.num/\d=q.den:=by
 have hq:(⟨n,d.toNat,zO,by rw[show d.toNat=d.natAbs by omega];exact hc⟩:Rat)=q:=by
  have h1:Jw n d=q:=(zQ zO).2 h;rw[<-h1]
  symm
  refine(zQ zO).2 ?_;show n*((d.toNat:Nat):Int)=n*d;rw[Int.toNat_of_nonneg zO]
 refine⟨congrArg Rat.num hq,?_⟩;have:=congrArg Rat.den hq;show d=((q.den:Nat):Int);have h2:d.toNat=q.den:=this;omega
def Z5j{m n g:Int}(hn:n≠0)(hg:g=n.sign*(Uq m.natAbs n.natAbs:Nat)):g≠0/\g ∣ m/\g ∣ n/\m/g=(Jw m n).num/\n/g=(Jw m n).den:=by
 have hG:Uq m.natAbs n.natAbs≠0:=λh=>by have:=(Nat.gcd_eq_zero_iff.1 h).2;omega
 have kj:g.natAbs=Uq m.natAbs n.natAbs:=by
  rw[hg,Gf,Int.natAbs_sign_of_ne_zero hn,La];rfl
 have JA:g≠0:=λh=>by rw[h]at kj;exact hG kj.symm
 have hgm:g ∣ m:=Int.natAbs_dvd_natAbs.1 (by rw[kj];exact Pa _ _);have Fj:g ∣ n:=Int.natAbs_dvd_natAbs.1 (by rw[kj];exact Gu _ _);obtain⟨m',LU⟩:=id hgm;obtain⟨n',jk⟩:=id Fj;have e1:m/g=m':=by rw[LU];exact Ux _ JA
 have e2:n/g=n':=by rw[jk];exact Ux _ JA
 have hGp:0<((Uq m.natAbs n.natAbs:Nat):Int):=zO;have cI:0<n':=by
  generalize ((Uq m.natAbs n.natAbs:Nat):Int)=G at *;clear kj hgm Fj e1 e2 LU hG;rcases Int.lt_or_gt_of_ne hn with h | h
  . have VN:g<0:=by
     rw[hg,Us h];omega
    rcases Int.lt_trichotomy n' 0 with h1 | h1 | h1
    have:=Int.mul_pos_of_neg_of_neg VN h1;omega;rw[h1]at jk;omega;exact h1
  . have VO:0<g:=by
     rw[hg,Gi h];omega
    rcases Int.lt_trichotomy n' 0 with h1 | h1 | h1
    have:=Int.mul_neg_of_pos_of_neg VO h1;omega;rw[h1]at jk;omega;exact h1
 have Hr:T4 m'.natAbs n'.natAbs:=by
  have h1:m.natAbs=g.natAbs*m'.natAbs:=(congrArg Int.natAbs LU).trans (Gf _ _);have h2:n.natAbs=g.natAbs*n'.natAbs:=(congrArg Int.natAbs jk).trans (Gf _ _);rw[h1,h2,Nat.gcd_mul_left]at kj;have h3:g.natAbs*1=g.natAbs*Uq m'.natAbs n'.natAbs:=by rw[U6];exact kj
  exact(Tl zO h3).symm
 have hx:m'*(Jw m n).den=(Jw m n).num*n':=by
  have h1:=(zQ (q:=Jw m n) hn).1 rfl;generalize (Jw m n).den=D at *;generalize (Jw m n).num=N at *;rw[LU,jk]at h1;refine Lj JA ?_;rw[<-Tq,h1,Pw g n',<-Tq,Pw]
 have:=BA cI Hr hx;exact⟨JA,hgm,Fj,by rw[e1];exact this.1,by rw[e2];exact this.2⟩
def VR(a b:Rat):a+b=Jw (a.num*b.den+b.num*a.den) (a.den*b.den):=by
 have:=Rat.divInt_add_divInt a.num b.num (kZ a) (kZ b);rw[P4,P4]at this;exact this
def VS(a b:Rat):a*b=Jw (a.num*b.num) (a.den*b.den):=by
 have:=Rat.divInt_mul_divInt a.num b.num (d₁:=a.den) (d₂:=b.den);rw[P4,P4]at this;exact this
def Zz4(a b:Rat):a/b=Jw (a.num*b.den) (a.den*b.num):=by
 rw[Rat.div_def,Rat.inv_def];have:=Rat.divInt_mul_divInt a.num b.den (d₁:=a.den) (d₂:=b.num);rw[P4]at this;exact this
def qG(a b:Rat):Int:=(a.num*b.den-b.num*a.den).sign
def Z8l{a b:Rat}:qG a b<=0↔a<=b:=by
 unfold qG;rw[Rat.le_iff];have:=Den.Yg (a.num*b.den-b.num*a.den);omega
def zoi{a b:Rat}:qG a b<0↔a<b:=by
 unfold qG;rw[Rat.lt_iff];have:=Den.Yg (a.num*b.den-b.num*a.den);omega
def zoh{a b:Rat}:qG a b>0↔b<a:=by
 unfold qG;rw[Rat.lt_iff];have:=Den.Yg (a.num*b.den-b.num*a.den);omega
def Zsx{q:Rat}:q.num<0↔q<0:=by
 have:=Rat.num_nonneg (q:=q);rw[<-Rat.not_le,<-this];omega
end Iv
namespace Den
open Go Iv
def NR(h:Hp)(x:aC)(q:Rat):Prop:=NI h x.num q.num/\NI h x.den q.den
def NR.le{h h':Hp}{x:aC}{q:Rat}(hx:NR h x q)(hl:h.le h'):NR h' x q:=⟨hx.1.le hl,hx.2.le hl⟩
def BR(k:Nat)(q:Rat):Prop:=Lt k q.num/\Lt k q.den
def BR.mono{k j:Nat}{q:Rat}(h:BR k q)(hk:k<=j):BR j q:=⟨h.1.mono hk,h.2.mono hk⟩
def Lt.BC{k:Nat}{m n:Int}(h:Lt k m)(h2:Lt k n):Lt (k+1) (m+n):=by
 unfold Lt at *;have h3:=Int.natAbs_add_le m n;rw[Uc];have:W ^ k*2<=W ^ k*W:=Jr _ zD;omega
def BR.divInt{k:Nat}{m n:Int}(hm:Lt k m)(hn:Lt k n)(h0:n≠0):BR k (Jw m n):=by
 obtain⟨_,_,_,h1,h2⟩:=Z5j (m:=m) (n:=n) h0 rfl;exact⟨by rw[<-h1];exact hm.le (Pr _ _),by rw[<-h2];exact hn.le (Pr _ _)⟩
def BR.mul{k j:Nat}{a b:Rat}(ha:BR k a)(hb:BR j b):BR (k+j) (a*b):=by
 rw[VS];exact BR.divInt (ha.1.mul hb.1) (ha.2.mul hb.2) (Px (kZ a) (kZ b))
def BR.add{k j:Nat}{a b:Rat}(ha:BR k a)(hb:BR j b):BR (k+j+1) (a+b):=by
 rw[VR];exact BR.divInt ((ha.1.mul hb.2).BC ((hb.1.mul ha.2).mono zO)) ((ha.2.mul hb.2).mono zO) (Px (kZ a) (kZ b))
def BR.neg{k:Nat}{a:Rat}(ha:BR k a):BR k (-a):=⟨by rw[Rat.neg_num];exact ha.1.neg,by rw[Rat.neg_den];exact ha.2⟩
def BR.sub{k j:Nat}{a b:Rat}(ha:BR k a)(hb:BR j b):BR (k+j+1) (a-b):=by rw[Rat.sub_eq_add_neg];exact ha.add hb.neg
def BR.div{k j:Nat}{a b:Rat}(ha:BR k a)(hb:BR j b)(h0:b.num≠0):BR (k+j) (a/b):=by
 rw[Zz4];exact BR.divInt (ha.1.mul hb.2) (ha.2.mul hb.1) (Px (kZ a) h0)
section
variable {b:aE}{x y:aC}{p q:Rat}{KE:zY (aC × Int)}
def zqv(H:∀z h',h.le h'->NI h' z 1->KI z h'):za F.Kc KI h:=
 zb _ (λK' hk=>by unfold F.Kc;exact Qq zD zD λz h' hl hz=>hk _ _ hl hz) H
def Zr(h1:-9223372036854775808<=n)(h2:n<=9223372036854775807)(H:∀z h',h.le h'->NR h' z (n:Rat)->KR z h'):za (F.zr n) KR h:=by
 refine zb _ (λK' hk=>?_) H;unfold F.zr;refine Qq h1 h2 λz h3 bj hz=>zqv λw h4 cf hw=>hk _ _ (Ja bj cf) ⟨?_,?_⟩
 exact hz.le cf;exact hw
def zU(hx:NR h x p)(op:BR k p)(hk:k<=1000000000000)(H:Ki p.num.sign h):za (F.Yr x) Ki h:=
 zw _ (λK' hk=>by unfold F.Yr;exact UA hx.1 (op.1.ok zO) hk) H
def VT(hx:NR h x p)(hy:NR h y q)(op:BR k p)(oq:BR j q)(hk:k<=1000000000000)(hj:j<=1000000000000)(H:∀h',h.le h'->Ki (qG p q) h'):za (F.C6 x y) Ki h:=by
 refine zb (λv _=>v=qG p q) (λK' hk=>?_) λv h' hl hv=>by subst hv;exact H h' hl
 unfold F.C6;refine zU hx op zO (zU hy oq zO ?_);have s1:=Yg p.num;have s2:=Yg q.num;have d1:0<(p.den:Int):=by have:=p.den_pos;omega
 have d2:0<(q.den:Int):=by have:=q.den_pos;omega
 refine oB (λh1=>?_) (λh1=>?_)
 . have key:∀s:Int,(s=1/\q.num.sign<p.num.sign\/s=-1/\p.num.sign<q.num.sign)->s=qG p q:=λs hs=>by
    unfold qG;have e1:0<p.num->0<p.num*q.den:=λh=>Int.mul_pos h d2
    have e2:p.num<0->p.num*q.den<0:=λh=>Int.mul_neg_of_neg_of_pos h d2
    have e3:0<q.num->0<q.num*p.den:=λh=>Int.mul_pos h d1
    have e4:q.num<0->q.num*p.den<0:=λh=>Int.mul_neg_of_neg_of_pos h d1
    have e5:p.num=0->p.num*q.den=0:=λh=>by rw[h,Int.zero_mul]
    have e6:q.num=0->q.num*p.den=0:=λh=>by rw[h,Int.zero_mul]
    have s3:=Yg (p.num*q.den-q.num*p.den);omega
   refine zg (λh2=>hk _ _ (Jf _) (key _ (.inr ⟨rfl,h2⟩))) (λh2=>hk _ _ (Jf _) (key _ (.inl ⟨rfl,zO⟩)))
 . have o1:=(op.1.mul oq.2).ok zO;have o2:=(oq.1.mul op.2).ok zO;refine Xq hx.1 hy.2 (op.1.ok zO) (oq.2.ok zO) λz h3 bj hz=>?_
   refine Xq (hy.1.le bj) (hx.2.le bj) (oq.1.ok zO) (op.2.ok zO) λw h4 cf hw=>?_
   exact zy8 (hz.le cf) hw o1 o2 (hk _ _ (Ja bj cf) rfl)
def zbt(ha:NI h a m)(hb:NI h b n)(om:Lt k m)(on:Lt k n)(hk:k<=1000000000000)(h0:n≠0)(H:∀z h',h.le h'->NR h' z (Jw m n)->KR z h'):za (F.Wb a b) KR h:=by
 refine zb _ (λK' hk=>?_) H;unfold F.Wb;have gE:=om.ok zO;have kf:=on.ok zO;refine zoz ha hb gE kf λg h1 aP hg=>?_
 have og:Ok (Uq m.natAbs n.natAbs:Nat):=kf.le (by
  rw[Jh];exact Pu zO (Gu _ _))
 obtain⟨e0,e1,e2,e3,e4⟩:=Z5j (m:=m) (n:=n) h0 rfl;have oG:Ok (n.sign*(Uq m.natAbs n.natAbs:Nat)):=og.le (by
  rw[Gf,Int.natAbs_sign_of_ne_zero h0,La];exact Jd _)
 refine zj (λst h'=>h.le h'/\NI h' ⟨st.1.1,st.1.2.1⟩ (n.sign*(Uq m.natAbs n.natAbs:Nat))) ?_ ?_
 . rintro st h2 ⟨bH,hG⟩;refine Z09 (ha.le bH) hG gE oG e0 (.inr e1) λu h3 bj hu=>?_
   refine Z09 (hb.le (Ja bH bj)) (hG.le bj) kf oG e0 (.inr e2) λv h4 cf hv=>?_
   refine hk _ _ (Ja bH (Ja bj cf)) ⟨?_,?_⟩;rw[<-e3];exact hu.le cf;rw[<-e4];exact hv
 . rw[hb.2];refine zg (λh2=>?_) (λh2=>?_)
   . refine zya hg og λw h3 bj hw=>⟨Ja aP bj,?_⟩
     rw[Us h2,Int.neg_mul,L5];exact hw
   . refine⟨aP,?_⟩;rw[Gi zO,L5];exact hg
def wR(hx:NR h x p)(hy:NR h y q)(op:BR k p)(oq:BR j q)(hk:k<=400000000000)(hj:j<=400000000000)(H:∀z h',h.le h'->NR h' z (p*q)->KR z h'):za (F.yl x y) KR h:=by
 refine zb _ (λK' hk=>?_) H;unfold F.yl;have hd:((p.den:Nat):Int)*q.den≠0:=Px (kZ p) (kZ q);refine zj (λ_ h'=>h'=h) ?_ ?_
 . rintro _ h' rfl;refine Xq hx.1 hy.1 (op.1.ok zO) (oq.1.ok zO) λz h3 bj hz=>?_
   refine Xq (hx.2.le bj) (hy.2.le bj) (op.2.ok zO) (oq.2.ok zO) λw h4 cf hw=>?_
   refine zbt (hz.le cf) hw (op.1.mul oq.1) (op.2.mul oq.2) zO hd λv h5 cj hv=>hk _ _ (Ja bj (Ja cf cj)) ?_
   rw[VS];exact hv
 . refine LP hx.2 (zg (λh1=>LP hy.2 (zg (λh2=>?_) (λ_=>rfl))) (λ_=>rfl));refine Xq hx.1 hy.1 (op.1.ok zO) (oq.1.ok zO) λz h3 bj hz=>?_
   refine zqv λw h4 cf hw=>hk _ _ (Ja bj cf) ?_
   have e:=BA (n:=p.num*q.num) (d:=1) (q:=p*q) zD (Nat.coprime_one_right _) (by
    have:=(zQ (n:=p.num*q.num) hd).1 (VS p q).symm;rw[h1,h2]at this;simpa using this)
   exact⟨by rw[<-e.1];exact hz.le cf,by rw[<-e.2];exact hw⟩
def zX(hx:NR h x p)(hy:NR h y q)(op:BR k p)(oq:BR j q)(hk:k<=400000000000)(hj:j<=400000000000)(H:∀z h',h.le h'->NR h' z (p+q)->KR z h'):za (F.Y9 x y) KR h:=by
 refine zb _ (λK' hk=>?_) H;unfold F.Y9;have hd:((p.den:Nat):Int)*q.den≠0:=Px (kZ p) (kZ q);refine zj (λ_ h'=>h'=h) ?_ ?_
 . rintro _ h' rfl;refine Xq hx.1 hy.2 (op.1.ok zO) (oq.2.ok zO) λz h3 bj hz=>?_
   refine Xq (hy.1.le bj) (hx.2.le bj) (oq.1.ok zO) (op.2.ok zO) λw h4 cf hw=>?_
   refine zy6 (hz.le cf) hw ((op.1.mul oq.2).ok zO) ((oq.1.mul op.2).ok zO) λs h5 cj hs=>?_
   have iW:=Ja bj (Ja cf cj);refine Xq (hx.2.le iW) (hy.2.le iW) (op.2.ok zO) (oq.2.ok zO) λt h6 db ht=>?_
   refine zbt (k:=k+j+1) (hs.le db) ht ((op.1.mul oq.2).BC ((oq.1.mul op.2).mono zO)) ((op.2.mul oq.2).mono zO) zO hd λv h7 gj hv=>hk _ _ (Ja iW (Ja db gj)) ?_
   rw[VR];exact hv
 . refine LP hx.2 (zg (λh1=>LP hy.2 (zg (λh2=>?_) (λ_=>rfl))) (λ_=>rfl));refine zy6 hx.1 hy.1 (op.1.ok zO) (oq.1.ok zO) λz h3 bj hz=>?_
   refine zqv λw h4 cf hw=>hk _ _ (Ja bj cf) ?_
   have e:=BA (n:=p.num+q.num) (d:=1) (q:=p+q) zD (Nat.coprime_one_right _) (by
    have:=(zQ (n:=p.num*q.den+q.num*p.den) hd).1 (VR p q).symm;rw[h1,h2]at this;simpa using this)
   exact⟨by rw[<-e.1];exact hz.le cf,by rw[<-e.2];exact hw⟩
def LV(hx:NR h x p)(op:BR k p)(hk:k<=1000000000000)(H:∀z h',h.le h'->NR h' z (-p)->KR z h'):za (F.Wq x) KR h:=by
 refine zb _ (λK' hk=>?_) H;unfold F.Wq;refine zya hx.1 (op.1.ok zO) λz h1 aP hz=>hk _ _ aP ⟨?_,?_⟩
 rw[Rat.neg_num];exact hz;rw[Rat.neg_den];exact hx.2.le aP
def zmo(hx:NR h x p)(hy:NR h y q)(op:BR k p)(oq:BR j q)(hk:k<=400000000000)(hj:j<=400000000000)(H:∀z h',h.le h'->NR h' z (p-q)->KR z h'):za (F.Xo x y) KR h:=by
 refine zb _ (λK' hk=>?_) H;unfold F.Xo;refine LV hy oq zO λz h1 aP hz=>zX (hx.le aP) hz op oq.neg zO zO λw h2 bH hw=>hk _ _ (Ja aP bH) ?_
 rw[Rat.sub_eq_add_neg];exact hw
def zhv(hx:NR h x p)(hy:NR h y q)(op:BR k p)(oq:BR j q)(hk:k<=400000000000)(hj:j<=400000000000)(h0:q.num≠0)(H:∀z h',h.le h'->NR h' z (p/q)->KE (z,0) h'):za (F.FG x y) KE h:=by
 refine zb (λv h'=>NR h' v.1 (p/q)/\v.2=0) (λK' hk=>?_) λ⟨z,c⟩ h' hl ⟨hz,hc⟩=>by
  simp only at hc;subst hc;exact H z h' hl hz
 unfold F.FG;refine znj hy.1 (zg (λh1=>absurd h1 h0) (λ_=>?_));refine Xq hx.1 hy.2 (op.1.ok zO) (oq.2.ok zO) λz h3 bj hz=>?_
 refine Xq (hx.2.le bj) (hy.1.le bj) (op.2.ok zO) (oq.1.ok zO) λw h4 cf hw=>?_
 refine zbt (hz.le cf) hw (op.1.mul oq.2) (op.2.mul oq.1) zO (Px (kZ p) h0) λv h5 cj hv=>hk _ _ (Ja bj (Ja cf cj)) ⟨?_,rfl⟩
 rw[Zz4];exact hv
def Hs(ha:NI h a m)(hb:NI h b n)(om:Lt k m)(on:Lt k n)(hk:k<=1000000000000)(h0:n≠0)(H:∀z h',h.le h'->NR h' z (Jw m n)->KE (z,0) h'):za (F.Qm a b) KE h:=by
 refine zb (λv h'=>NR h' v.1 (Jw m n)/\v.2=0) (λK' hk=>?_) λ⟨z,c⟩ h' hl ⟨hz,hc⟩=>by
  simp only at hc;subst hc;exact H z h' hl hz
 unfold F.Qm;refine zlx ha (om.ok zO) λz h3 bj hz=>zlx (hb.le bj) (on.ok zO) λw h4 cf hw=>?_
 refine znj hw (zg (λh1=>absurd h1 h0) (λ_=>?_));exact zbt (hz.le cf) hw om on zO h0 λv h5 cj hv=>hk _ _ (Ja bj (Ja cf cj)) ⟨hv,rfl⟩
end
end Den
end

section
namespace Iv
def VU{k:Nat}{m:Int}:(k:Int) ∣ m↔k ∣ m.natAbs:=by rw[<-Int.natAbs_dvd_natAbs,Jh]
def VV{x y k:Nat}(h:T4 x y)(h1:k ∣ x)(h2:k ∣ y):k=1:=Nat.eq_one_of_dvd_one (by rw[<-h];exact Nat.dvd_gcd h1 h2)
def Z9w{A B:Int}{p q:Nat}{t':Int}(hAP:∀k,k ∣ A.natAbs->k ∣ p->k=1)(fC:T4 p q)(ht:t' ∣ A*q+B*p):T4 t'.natAbs p:=by
 rw[Nat.coprime_iff_gcd_eq_one];have g1:Uq t'.natAbs p ∣ t'.natAbs:=Pa _ _;have g2:Uq t'.natAbs p ∣ p:=Gu _ _;generalize Uq t'.natAbs p=x at *;have h1:(x:Int) ∣ A*q+B*p:=Int.dvd_trans (VU.2 g1) ht;have h2:(x:Int) ∣ B*p:=Int.dvd_trans (Lb.2 g2) (Int.dvd_mul_left _ _);have h3:(x:Int) ∣ A*q:=by
  have:=Int.dvd_sub h1 h2
  rwa [Int.add_sub_cancel]at this
 have h4:x ∣ A.natAbs*q:=by
  have:=VU.1 h3
  rwa [Gf,Jh]at this
 have h5:T4 x A.natAbs:=by
  have e:=hAP (Uq x A.natAbs) (Gu _ _) (Tz (Pa _ _) g2);exact e
 exact VV fC g2 (h5.dvd_of_dvd_mul_left h4)
def Z8a{a b:Rat}{G E:Nat}{t:Int}(hG:G=Uq a.den b.den)(ht:t=a.num*((b.den:Int)/G)+b.num*((a.den:Int)/G))(hE:E=Uq t.natAbs G) :
 0<G/\G ∣ a.den/\G ∣ b.den/\0<E/\(E:Int) ∣ t/\E ∣ b.den/\t/E=(a+b).num/\(a.den:Int)/G*((b.den:Int)/E)=(a+b).den:=by
 have hG0:0<G:=by rw[hG];exact Nat.gcd_pos_of_pos_left _ a.den_pos
 obtain⟨p,hp⟩:G ∣ a.den:=by rw[hG];exact Pa _ _
 obtain⟨q,hq⟩:G ∣ b.den:=by rw[hG];exact Gu _ _
 have fC:T4 p q:=by
  have:G*1=G*Uq p q:=by rw[U6,<-Nat.gcd_mul_left,<-hp,<-hq];exact hG
  exact(Tl hG0 this).symm
 have LW:(G:Int)≠0:=zO;have e1:(a.den:Int)/G=p:=by rw[hp,Ug];exact Ux _ LW
 have e2:(b.den:Int)/G=q:=by rw[hq,Ug];exact Ux _ LW
 rw[e1,e2]at ht;rw[e1];have hE0:0<E:=by rw[hE];exact Nat.gcd_pos_of_pos_right _ hG0
 obtain⟨g',hg'⟩:E ∣ G:=by rw[hE];exact Gu _ _
 have hEt:(E:Int) ∣ t:=VU.2 (by rw[hE];exact Pa _ _);obtain⟨t',jo⟩:=id hEt;have LX:(E:Int)≠0:=zO;have e3:t/E=t':=by rw[jo];exact Ux _ LX
 have fA:b.den=E*(g'*q):=by rw[hq,hg',J6]
 have e4:(b.den:Int)/E=((g'*q:Nat):Int):=by rw[fA,Ug];exact Ux _ LX
 have AS:T4 t'.natAbs g':=by
  have h1:t.natAbs=E*t'.natAbs:=by rw[jo,Gf,Jh]
  rw[h1,hg',Nat.gcd_mul_left]at hE;have:E*1=E*Uq t'.natAbs g':=by rw[U6];exact hE
  exact(Tl hE0 this).symm
 have su:t' ∣ a.num*q+b.num*p:=by rw[<-ht,jo];exact Int.dvd_mul_left _ _
 have Fq:T4 t'.natAbs p:=Z9w (λk h1 h2=>VV a.reduced h1 (Tz h2 ⟨G,by rw[hp,J4]⟩)) fC su;have wS:T4 t'.natAbs q:=Z9w (A:=b.num) (B:=a.num) (λk h1 h2=>VV b.reduced h1 (Tz h2 ⟨G,by rw[hq,J4]⟩)) fC.symm (by rw[Int.add_comm];exact su);have Hr:T4 t'.natAbs ((p:Int)*((g'*q:Nat):Int)).natAbs:=by
  rw[<-Ug,Jh];exact Lm Fq (Lm AS wS)
 have cI:0<(p:Int)*((g'*q:Nat):Int):=by
  have h1:=a.den_pos;have h2:=b.den_pos;rw[hp]at h1;rw[fA]at h2;have h3:0<p:=Nat.pos_of_mul_pos_left h1;have h4:0<g'*q:=Nat.pos_of_mul_pos_left h2;exact Int.mul_pos zO zO
 have hx:t'*(a+b).den=(a+b).num*((p:Int)*((g'*q:Nat):Int)):=by
  have h1:=(zQ (n:=a.num*b.den+b.num*a.den) (q:=a+b) (Px (kZ a) (kZ b))).1 (VR a b).symm;generalize (a+b).den=D at *;generalize (a+b).num=N at *;have k1:a.num*(b.den:Int)+b.num*(a.den:Int)=G*(E*t'):=by
   rw[<-jo,ht,hp,hq];simp only[Ug];rw[Int.mul_add,<-Tq,<-Tq,<-Tq,<-Tq,Pw a.num,Pw b.num]
  have k2:(a.den:Int)*(b.den:Int)=G*(E*((p:Int)*((g'*q:Nat):Int))):=by
   rw[fA,hp];simp only[Ug];rw[Tq,Lh (p:Int)]
  rw[k1,k2]at h1;refine Lj LX (Lj LW ?_);rw[<-Tq,<-Tq,Tq (G:Int),h1,Lh N,Lh N]
 have:=BA cI Hr hx;exact⟨hG0,⟨p,hp⟩,⟨q,hq⟩,hE0,hEt,⟨_,fA⟩,by rw[e3];exact this.1,by rw[e4];exact this.2⟩
def Zo1{a b:Rat}(hG:Uq a.den b.den=1):a.num*b.den+b.num*a.den=(a+b).num/\(a.den:Int)*b.den=(a+b).den:=by
 have h:=Z8a (a:=a) (b:=b) (G:=1) (E:=1) (t:=a.num*b.den+b.num*a.den) hG.symm zS zS;obtain⟨_,_,_,_,_,_,h1,h2⟩:=h;refine⟨by simpa using h1,by simpa using h2⟩
def Zot{a b:Rat}{G1 G2:Nat}(h1:G1=Uq a.num.natAbs b.den)(h2:G2=Uq b.num.natAbs a.den) :
 0<G1/\0<G2/\(G1:Int) ∣ a.num/\(G2:Int) ∣ b.num/\G2 ∣ a.den/\G1 ∣ b.den/\a.num/G1*(b.num/G2)=(a*b).num/\(a.den:Int)/G2*((b.den:Int)/G1)=(a*b).den:=by
 have aZ:0<G1:=by rw[h1];exact Nat.gcd_pos_of_pos_right _ b.den_pos
 have gX:0<G2:=by rw[h2];exact Nat.gcd_pos_of_pos_right _ a.den_pos
 have d1:(G1:Int) ∣ a.num:=VU.2 (by rw[h1];exact Pa _ _);have d2:(G2:Int) ∣ b.num:=VU.2 (by rw[h2];exact Pa _ _);have d3:G2 ∣ a.den:=by rw[h2];exact Gu _ _
 have d4:G1 ∣ b.den:=by rw[h1];exact Gu _ _
 refine⟨aZ,gX,d1,d2,d3,d4,?_⟩;obtain⟨A,hA⟩:=d1;obtain⟨B,hB⟩:=d2;obtain⟨P,hP⟩:=d3;obtain⟨Q,hQ⟩:=d4;have i1:(G1:Int)≠0:=zO;have i2:(G2:Int)≠0:=zO;have e1:a.num/G1=A:=by rw[hA];exact Ux _ i1
 have e2:b.num/G2=B:=by rw[hB];exact Ux _ i2
 have e3:(a.den:Int)/G2=P:=by rw[hP,Ug];exact Ux _ i2
 have e4:(b.den:Int)/G1=Q:=by rw[hQ,Ug];exact Ux _ i1
 rw[e1,e2,e3,e4];have n1:a.num.natAbs=G1*A.natAbs:=by rw[hA,Gf,Jh]
 have n2:b.num.natAbs=G2*B.natAbs:=by rw[hB,Gf,Jh]
 have c1:T4 A.natAbs Q:=by
  rw[n1,hQ,Nat.gcd_mul_left]at h1;have:G1*1=G1*Uq A.natAbs Q:=by rw[U6];exact h1
  exact(Tl aZ this).symm
 have c2:T4 B.natAbs P:=by
  rw[n2,hP,Nat.gcd_mul_left]at h2;have:G2*1=G2*Uq B.natAbs P:=by rw[U6];exact h2
  exact(Tl gX this).symm
 have c3:T4 A.natAbs P:=VV a.reduced (Tz (Pa _ _) ⟨G1,by rw[n1,J4]⟩) (Tz (Gu _ _) ⟨G2,by rw[hP,J4]⟩);have c4:T4 B.natAbs Q:=VV b.reduced (Tz (Pa _ _) ⟨G2,by rw[n2,J4]⟩) (Tz (Gu _ _) ⟨G1,by rw[hQ,J4]⟩);have cI:0<(P:Int)*(Q:Int):=by
  have k1:=a.den_pos;have k2:=b.den_pos;rw[hP]at k1;rw[hQ]at k2;have k3:=Nat.pos_of_mul_pos_left k1;have k4:=Nat.pos_of_mul_pos_left k2;exact Int.mul_pos zO zO
 refine BA cI ?_ ?_
 . rw[<-Ug,Jh,Gf];exact Nat.Coprime.mul_left (Lm c3 c1) (Lm c2 c4)
 . have h5:=(zQ (n:=a.num*b.num) (q:=a*b) (Px (kZ a) (kZ b))).1 (VS a b).symm;generalize (a*b).den=D at *;generalize (a*b).num=N at *;rw[hA,hB,hP,hQ]at h5;simp only[Ug]at h5;have k1:(G1:Int)*A*(G2*B)=G1*(G2*(A*B)):=by rw[Tq,Lh A]
   have k2:(G2:Int)*P*(G1*Q)=G1*(G2*((P:Int)*Q)):=by
    rw[Tq,Lh (P:Int),Lh (G2:Int) (G1:Int)]
   rw[k1,k2]at h5;refine Lj i2 (Lj i1 ?_);rw[<-Tq,<-Tq,Tq (G1:Int),h5,Lh N,Lh N]
end Iv
end

section
namespace Den
open Go Iv
section
variable {b:aE}{x y:aC}{p q:Rat}
def Zyd(q:Rat):0<(q.den:Int):=by have:=q.den_pos;omega
def Ht(q:Rat):((q.den:Nat):Int).natAbs=q.den:=Jh _
def Y3(h1:-9223372036854775808<=n)(h2:n<=9223372036854775807)(H:∀z h',h.le h'->NR h' z (n:Rat)->KR z h'):za (F.yh n) KR h:=by
 refine zb _ (λK' hk=>?_) H;unfold F.yh;refine TZ h1 h2 λz h3 bj hz=>TZ zD zD λw h4 cf hw=>hk _ _ (Ja bj cf) ⟨?_,?_⟩
 exact hz.le cf;exact hw
def zo1(hx:NR h x p)(op:BR k p)(hk:k<=1000000000000)(H:Ki p.num.sign h):za (F.OE x) Ki h:=
 zw _ (λK' hk=>by unfold F.OE;exact UB hx.1 (op.1.ok zO) hk) H
def Z6i(hx:NR h x p)(hy:NR h y q)(op:BR k p)(oq:BR j q)(hk:k<=1000000000000)(hj:j<=1000000000000)(H:∀h',h.le h'->Ki (qG p q) h'):za (F.zhz x y) Ki h:=by
 refine zb (λv _=>v=qG p q) (λK' hk=>?_) λv h' hl hv=>by subst hv;exact H h' hl
 unfold F.zhz;have l1:=op.1.mul oq.2;have l2:=(oq.1.mul op.2).mono (show j+k<=k+j by omega);refine X0 hx.1 hy.2 (op.1.ok zO) (oq.2.ok zO) λz h3 bj hz=>?_
 refine X0 (hy.1.le bj) (hx.2.le bj) (oq.1.ok zO) (op.2.ok zO) λw h4 cf hw=>?_
 have os:Ok (p.num*q.den-q.num*p.den):=by
  rw[Int.sub_eq_add_neg];exact(l1.BC l2.neg).ok zO
 refine Zc0 (hz.le cf) hw (l1.ok zO) (l2.ok zO) os λh5 cj=>hk _ _ (Ja bj (Ja cf cj)) rfl
def Z6l(hx:NR h x p)(op:BR k p)(hk:k<=1000000000000)(H:∀z,NR h z (-p)->KR z h):za (F.zi2 x) KR h:=by
 refine LD _ (λK' hk=>?_) H;unfold F.zi2;refine UC hx.1 (op.1.ok zO) λz hz=>hk _ ⟨?_,?_⟩
 rw[Rat.neg_num];exact hz;rw[Rat.neg_den];exact hx.2
def Zsk{m n:Int}(on:Ok n)(h0:n≠0):Ok (Uq m.natAbs n.natAbs:Nat):=on.le (by
 rw[Jh];exact Pu zO (Gu _ _))
def VW{P G:Nat}:((P:Int)/G).natAbs<=((P:Int)).natAbs:=Pr _ _
def Z6h(hx:NR h x p)(hy:NR h y q)(op:BR k p)(oq:BR j q)(hk:k<=400000000000)(hj:j<=400000000000)(H:∀z h',h.le h'->NR h' z (p+q)->KR z h'):za (F.zhy x y) KR h:=by
 refine zb _ (λK' hk=>?_) H;unfold F.zhy;have BD:=op.2.ok zO;have vg:=oq.2.ok zO;rw[hx.1.rF,hy.1.rF];refine zg (λh1=>hk _ _ (Jf _) ?_) (λh1=>zg (λh2=>hk _ _ (Jf _) ?_) (λh2=>?_));rw[Td.1 h1,Rat.zero_add];exact hy;rw[Td.1 h2,Rat.add_zero];exact hx;refine zj (λ_ h'=>h'=h) ?_ ?_
 . rintro _ h' rfl;refine VH hx.2 hy.2 BD vg λg h3 bj hg=>?_
   rw[Ht,Ht]at hg;refine LQ hg (zg (λh4=>?_) (λh4=>?_))
   . have e:=Zo1 (a:=p) (b:=q) zO;refine X0 (hx.1.le bj) (hy.2.le bj) (op.1.ok zO) vg λu h5 cj hu=>?_
     have iW:=Ja bj cj;refine X0 (hy.1.le iW) (hx.2.le iW) (oq.1.ok zO) BD λv h6 db hv=>?_
     refine UE (hu.le db) hv ((op.1.mul oq.2).ok zO) ((oq.1.mul op.2).ok zO) λs h7 gj hs=>?_
     have uc:=Ja iW (Ja db gj);refine X0 (hx.2.le uc) (hy.2.le uc) BD vg λt h8 gR ht=>hk _ _ (Ja uc gR) ⟨?_,?_⟩
     rw[<-e.1];exact hs.le gR;rw[<-e.2];exact ht
   . obtain⟨g0,g1,g2,e0,e1,e2,e3,e4⟩:=Z8a (a:=p) (b:=q) rfl rfl rfl;generalize hG:Uq p.den q.den=G at *;have oG:Ok (G:Int):=vg.le (by rw[Jh,Ht];exact Pu q.den_pos g2);have LW:(G:Int)≠0:=zO;refine zP (hx.2.le bj) hg BD oG LW (.inr (Lb.2 g1)) λu h5 cj hu=>?_
     have iW:=Ja bj cj;refine zP (hy.2.le iW) (hg.le cj) vg oG LW (.inr (Lb.2 g2)) λv h6 db hv=>?_
     have VX:=Ja iW db;have l1:Lt k ((p.den:Int)/G):=op.2.le VW;have l2:Lt j ((q.den:Int)/G):=oq.2.le VW;refine X0 (hx.1.le VX) hv (op.1.ok zO) (l2.ok zO) λs h7 gj hs=>?_
     have uc:=Ja VX gj;refine X0 (hy.1.le uc) (hu.le (Ja db gj)) (oq.1.ok zO) (l1.ok zO) λt h8 gR ht=>?_
     have l3:=op.1.mul l2;have l4:=(oq.1.mul l1).mono (show j+k<=k+j by omega);refine UE (hs.le gR) ht (l3.ok zO) (l4.ok zO) λr h9 nM hr=>?_
     have VY:=Ja uc (Ja gR nM);have or':=(l3.BC l4).ok zO;have VZ:h6.le h9:=Ja gj (Ja gR nM);refine VH hr (hg.le (Ja cj (Ja db VZ))) or' oG λe aZ jw he=>?_
     rw[Jh]at he;generalize jo:p.num*((q.den:Int)/G)+q.num*((p.den:Int)/G)=T at *;generalize hE:Uq T.natAbs G=E at *;have oE:Ok (E:Int):=oG.le (by rw[Jh,Jh,<-hE];exact Pu g0 (Gu _ _));have LX:(E:Int)≠0:=zO;refine zP (hr.le jw) he or' oE LX (.inr e1) λf bV rI hf=>?_
     refine zP (hy.2.le (Ja VY (Ja jw rI))) (he.le rI) vg oE LX (.inr (Lb.2 e2)) λw cu pn hw=>?_
     have sJ:=Ja jw (Ja rI pn);refine X0 (hu.le (Ja db (Ja VZ sJ))) hw (l1.ok zO) (vg.le VW) λo cO ud ho=>hk _ _ (Ja VY (Ja sJ ud)) ⟨?_,?_⟩
     rw[<-e3];exact hf.le (Ja pn ud);rw[<-e4];exact ho
 . refine LQ hx.2 (zg (λh1=>LQ hy.2 (zg (λh2=>?_) (λ_=>rfl))) (λ_=>rfl));refine UE hx.1 hy.1 (op.1.ok zO) (oq.1.ok zO) λz h3 bj hz=>hk _ _ bj ?_
   have hd:((p.den:Nat):Int)*q.den≠0:=Px (kZ p) (kZ q);have e:=BA (n:=p.num+q.num) (d:=1) (q:=p+q) zD (Nat.coprime_one_right _) (by
    have:=(zQ (n:=p.num*q.den+q.num*p.den) hd).1 (VR p q).symm;rw[h1,h2]at this;simpa using this)
   exact⟨by rw[<-e.1];exact hz,by rw[<-e.2,<-h1];exact hx.2.le bj⟩
def Z6k(hx:NR h x p)(hy:NR h y q)(op:BR k p)(oq:BR j q)(hk:k<=400000000000)(hj:j<=400000000000)(H:∀z h',h.le h'->NR h' z (p*q)->KR z h'):za (F.zi1 x y) KR h:=by
 refine zb _ (λK' hk=>?_) H;unfold F.zi1;have op1:=op.1.ok zO;have oq1:=oq.1.ok zO;have BD:=op.2.ok zO;have vg:=oq.2.ok zO;refine zj (λ_ h'=>h'=h) ?_ ?_
 . rintro _ h' rfl;refine zj (λ_ h2=>h2=h') ?_ ?_
   . rintro _ h2 rfl;obtain⟨g1,g2,d1,d2,d3,d4,e1,e2⟩:=Zot (a:=p) (b:=q) rfl rfl;refine VH hx.1 hy.2 op1 vg λu h3 bj hu=>?_
     refine VH (hy.1.le bj) (hx.2.le bj) oq1 BD λv h4 cf hv=>?_
     rw[Ht]at hu hv;generalize hG1:Uq p.num.natAbs q.den=G1 at *;generalize hG2:Uq q.num.natAbs p.den=G2 at *;have oG1:Ok (G1:Int):=vg.le (by rw[Jh,Ht];exact Pu q.den_pos d4);have oG2:Ok (G2:Int):=BD.le (by rw[Jh,Ht];exact Pu p.den_pos d3);have i1:(G1:Int)≠0:=zO;have i2:(G2:Int)≠0:=zO;have wU:=Ja bj cf;refine zP (hx.1.le wU) (hu.le cf) op1 oG1 i1 (.inr d1) λr h5 cj hr=>?_
     refine zP (hy.1.le (Ja wU cj)) (hv.le cj) oq1 oG2 i2 (.inr d2) λs h6 db hs=>?_
     have aa9:=Ja cj db;refine X0 (hr.le db) hs (op1.le (Pr _ _)) (oq1.le (Pr _ _)) λt h7 gj ht=>?_
     have Hu:=Ja aa9 gj;refine zP (hx.2.le (Ja wU Hu)) (hv.le Hu) BD oG2 i2 (.inr (Lb.2 d3)) λw h8 gR hw=>?_
     have Hv:=Ja Hu gR;refine zP (hy.2.le (Ja wU Hv)) (hu.le (Ja cf Hv)) vg oG1 i1 (.inr (Lb.2 d4)) λo h9 nM ho=>?_
     refine X0 (hw.le nM) ho (BD.le VW) (vg.le VW) λe aZ jw he=>hk _ _ (Ja wU (Ja Hv (Ja nM jw))) ⟨?_,?_⟩
     rw[<-e1];exact ht.le (Ja gR (Ja nM jw));rw[<-e2];exact he
   . refine LQ hx.2 (zg (λh1=>LQ hy.2 (zg (λh2=>?_) (λ_=>rfl))) (λ_=>rfl));refine X0 hx.1 hy.1 op1 oq1 λz h3 bj hz=>hk _ _ bj ?_
     have hd:((p.den:Nat):Int)*q.den≠0:=Px (kZ p) (kZ q);have e:=BA (n:=p.num*q.num) (d:=1) (q:=p*q) zD (Nat.coprime_one_right _) (by
      have:=(zQ (n:=p.num*q.num) hd).1 (VS p q).symm;rw[h1,h2]at this;simpa using this)
     exact⟨by rw[<-e.1];exact hz,by rw[<-e.2,<-h1];exact hx.2.le bj⟩
 . rw[hx.1.rF,hy.1.rF];refine zg (λh1=>?_) (λh1=>zg (λh2=>?_) (λh2=>rfl))
   . refine Y3 zD zD λz h3 bj hz=>hk _ _ bj ?_
     rw[Td.1 h1,Po];exact hz
   . refine Y3 zD zD λz h3 bj hz=>hk _ _ bj ?_
     rw[Td.1 h2,Rat.mul_zero];exact hz
def Zom{q:Rat}(h0:q.num≠0):(q.num<0->-(q.den:Int)=(q⁻¹).num/\-q.num=(q⁻¹).den)/\(¬q.num<0->(q.den:Int)=(q⁻¹).num/\q.num=(q⁻¹).den):=by
 have h1:=(zQ (n:=q.den) (q:=q⁻¹) h0).1 (Rat.inv_def q).symm;constructor
 . intro h2;refine BA zO ?_ ?_;rw[Int.natAbs_neg,Int.natAbs_neg,Jh];exact Nat.Coprime.symm q.reduced;rw[Int.neg_mul,Int.mul_neg,h1]
 . intro h2;refine BA zO ?_ h1;rw[Jh];exact Nat.Coprime.symm q.reduced
def Z6j(hy:NR h y q)(oq:BR k q)(hk:k<=1000000000000)(h0:q.num≠0)(H:∀z,NR h z (q⁻¹)->KR z h):za (F.zi0 y) KR h:=by
 refine LD _ (λK' hk=>?_) H;unfold F.zi0;have h1:=Zom h0;rw[hy.1.2];refine zg (λh2=>?_) (λh2=>?_)
 . have e:=h1.1 h2;refine UC hy.2 (oq.2.ok zO) λu hu=>UC hy.1 (oq.1.ok zO) λv hv=>hk _ ⟨?_,?_⟩
   rw[<-e.1];exact hu;rw[<-e.2];exact hv
 . have e:=h1.2 h2;exact hk _ ⟨by rw[<-e.1];exact hy.2,by rw[<-e.2];exact hy.1⟩
def Z0q(ha:NI h a m)(hb:NI h b n)(om:Lt k m)(on:Lt k n)(hk:k<=1000000000000)(h0:n≠0)(H:∀z h',h.le h'->NR h' z (Jw m n)->KR z h'):za (F.zem a b) KR h:=by
 refine zb _ (λK' hk=>?_) H;unfold F.zem;have gE:=om.ok zO;have kf:=on.ok zO;refine VH ha hb gE kf λg h1 aP hg=>?_
 have og:Ok (Uq m.natAbs n.natAbs:Nat):=Zsk kf h0;obtain⟨e0,e1,e2,e3,e4⟩:=Z5j (m:=m) (n:=n) h0 rfl;have oG:Ok (n.sign*(Uq m.natAbs n.natAbs:Nat)):=og.le (by
  rw[Gf,Int.natAbs_sign_of_ne_zero h0,La];exact Jd _)
 refine zj (λst h'=>h.le h'/\NI h' ⟨st.1.1,st.1.2.1⟩ (n.sign*(Uq m.natAbs n.natAbs:Nat))) ?_ ?_
 . rintro st h2 ⟨bH,hG⟩;refine zP (ha.le bH) hG gE oG e0 (.inr e1) λu h3 bj hu=>?_
   refine zP (hb.le (Ja bH bj)) (hG.le bj) kf oG e0 (.inr e2) λv h4 cf hv=>?_
   refine hk _ _ (Ja bH (Ja bj cf)) ⟨?_,?_⟩;rw[<-e3];exact hu.le cf;rw[<-e4];exact hv
 . refine UB (hb.le aP) kf ?_;have s:=Yg n;refine zg (λh2=>?_) (λh2=>?_)
   . refine UC hg og λw hw=>⟨aP,?_⟩
     rw[Us zO,Int.neg_mul,L5];exact hw
   . refine⟨aP,?_⟩;rw[Gi zO,L5];exact hg
def zgz(h1:-9223372036854775808<=m)(h2:m<=9223372036854775807)(h3:-9223372036854775808<=n)(h4:n<=9223372036854775807)(h0:n≠0)(H:∀z h',h.le h'->NR h' z (Jw m n)->KR z h'):za (F.Kn m n) KR h:=by
 refine zb _ (λK' hk=>?_) H;unfold F.Kn;refine Zs (λh5=>absurd h5 h0) (λ_=>?_);refine TZ h1 h2 λz h6 db hz=>TZ h3 h4 λw h7 gj hw=>?_
 exact Z0q (k:=2) (hz.le gj) hw (Lt.Bq zO zO) (Lt.Bq zO zO) zD h0 λv h8 gR hv=>hk _ _ (Ja db (Ja gj gR)) hv
def Zds{m n:Nat}(h:dg m=dg n):m=n:=by rw[<-Zk m,<-Zk n,h]
def ziy(ha:NI h a m)(hb:NI h b n)(om:Ok m)(H:Kb (decide (m=n)) h):za (F.OF a b) Kb h:=by
 refine zw _ (λK' hk=>?_) H;unfold F.OF;have la:=ha.len;have lb:=hb.len;have gE:(dg m.natAbs).length<=8796093022208:=om;refine zj (λ_ h'=>h'=h/\(m<0↔n<0)/\(dg m.natAbs).length=(dg n.natAbs).length) ?_ ?_
 . rintro _ h' ⟨rfl,hs,hl⟩;refine Za (λst h2=>h2=h'/\∃i:Nat,st=((i:Int),())/\i<=(dg m.natAbs).length/\(dg m.natAbs).take i=(dg n.natAbs).take i) (λst=>((dg m.natAbs).length-st.1).toNat) ⟨rfl,0,rfl,Jt _,zS⟩ ?_;rintro _ h2 ⟨rfl,i,rfl,hi,ht⟩;refine zg (λh3=>?_) (λh3=>?_)
   . have aA:i<(dg m.natAbs).length:=by have:(i:Int)<(a.ah.len:Int):=h3;omega
     have da:i<(dg n.natAbs).length:=zO;refine Zq i ha.1 rfl aA λu hu=>⟨_,hu,Zq i hb.1 rfl da λv hv=>⟨_,hv,?_⟩⟩
     refine oB (λh4=>?_) (λh4=>?_)
     . have:m≠n:=λe=>by subst e;exact h4 rfl
       rw[decide_eq_false this]at hk;exact hk
     . refine⟨⟨by trivial,i+1,by simp only;rw[aM zO];rfl,zO,?_⟩,by simp only;rw[aM zO];omega⟩;have e:(dg m.natAbs)[i]=(dg n.natAbs)[i]:=zO;rw[Jc aA,Jc da,ht,e]
   . have aA:i=(dg m.natAbs).length:=by have:¬(i:Int)<(a.ah.len:Int):=h3;omega
     rw[Je zO,Je zO]at ht;have:=Zds ht;have e:m=n:=zO;rw[decide_eq_true e]at hk;exact hk
 . rw[ha.2,hb.2];refine Zw (λh1=>?_) (λh1=>oB (λh2=>?_) (λh2=>?_))
   . have:m≠n:=λe=>by subst e;simp at h1
     rw[decide_eq_false this]at hk;exact hk
   . have:m≠n:=λe=>by subst e;exact h2 (by rw[la,lb])
     rw[decide_eq_false this]at hk;exact hk
   exact⟨rfl,by simpa using h1,zO⟩
end
end Den
end

section
namespace Iv
open Den
def DJ(m s:Nat):Prop:=s*s<=m/\m<(s+1)*(s+1)
def Zju{m s x:Nat}(hx:0<x)(hs:s*s<=m):s<=(x+m/x)/2:=by
 rw[Pb zD];rcases Jx (x+m/x) (s*2)with h | h
 . exfalso;have h1:=Nat.lt_mul_div_succ m hx;generalize m/x=q at *;have h2:q+1<=s*2-x:=zO;have h3:x*(q+1)<=x*(s*2-x):=Jr _ h2;have h4:x*(s*2-x)<=s*s:=by
    obtain⟨d,hd⟩:∃d,s*2=x+d:=⟨s*2-x,zO⟩;rw[hd,Gz];have h5:4*(x*d)<=(x+d)*(x+d):=by
     rcases Nat.le_total x d with h6 | h6
     . obtain⟨e,rfl⟩:∃e,d=x+e:=⟨d-x,zO⟩;have e1:(x+(x+e))*(x+(x+e))=4*(x*(x+e))+e*e:=by grind
       rw[e1];exact Nat.le_add_right _ _
     . obtain⟨e,rfl⟩:∃e,x=d+e:=⟨x-d,zO⟩;have e1:(d+e+d)*(d+e+d)=4*((d+e)*d)+e*e:=by grind
       rw[e1];exact Nat.le_add_right _ _
    rw[<-hd]at h5;have h6:s*2*(s*2)=4*(s*s):=by grind
    omega
   omega
 exact h
def Z5t{m x:Nat}(hx:0<x):m<((x+m/x)/2+1)*((x+m/x)/2+1):=by
 rcases Jx m (((x+m/x)/2+1)*((x+m/x)/2+1))with h | h
 exact h;have:=Zju hx h;omega
def Z5s{m x:Nat}(hx:0<x)(h:m<(x+1)*(x+1))(h2:x<=(x+m/x)/2):DJ m x:=by
 refine⟨?_,h⟩;have h3:=(Pb zD).1 h2;have h4:x<=m/x:=zO;exact(Pb hx).1 h4
def BE(n:Nat):W ^ n=2 ^ (32*n):=by rw[Nat.pow_mul];rfl
def zyn{m N:Nat}(hN:(dg m).length=N+1):bl m=32*N+bl ((dg m)[N]'zO):=by
 have h0:=Zdt hN;have h1:=zkb hN;rw[Zk]at h1;have h6:=sI (u9 (Zu m) N);rw[Jk,Gh zO]at h6;have h3:=UF ((dg m)[N]'zO);have h4:=Zdb h0;have h5:=Z3c h0;generalize (dg m)[N]'zO=t at *;obtain⟨b,hb⟩:∃b,bl t=b+1:=⟨bl t-1,zO⟩;rw[hb]at h3 h4 |-
 rw[show 32*N+(b+1)=32*N+b+1 by omega];simp only[Nat.add_sub_cancel]at h4;refine Z8d ?_ ?_
 . rw[Gm,<-BE,h1];have:=Jr (W ^ N) h4;omega
 . rw[show 32*N+b+1=32*N+(b+1)by omega,Gm,<-BE,h1];have:=Jr (W ^ N) h3;rw[Nat.mul_succ]at this;omega
def Zof(n:Nat):(Jl (n/32+1) 0).set (n/32) (2 ^ (n % 32))=dg (2 ^ n):=by
 have hlt:2 ^ (n % 32)<W:=G8 zD (show n % 32<32 by omega);have e0:(Jl (n/32+1) 0).set (n/32) (2 ^ (n % 32))=Jl (n/32) 0++[2 ^ (n % 32)]:=by
  rw[List.replicate_succ',List.set_append_right _ _ zS];simp
 rw[e0];have ok:aX (Jl (n/32) 0++[2 ^ (n % 32)]):=zmk (tU _) (λd hd=>by rw[Uz.1 hd];exact hlt);have:=zcl (Jl (n/32) 0) (x:=2 ^ (n % 32)) (by have:=J7 (n % 32);omega);rw[Yj ok]at this;rw[<-this,LC,GL,List.length_replicate,BE];congr 1;simp only[vl,Tv,G0,Uo];rw[<-Gm];congr 1;omega
end Iv
namespace Den
open Go Iv
section
variable {b:aE}{l:List Nat}{Ks:zY Sl}
def Zad(ha:NI h a m)(om:Ok m)(H:Ki ((bl m.natAbs:Nat):Int) h):za (F.z9l a) Ki h:=by
 refine zw _ (λK' hk=>?_) H;unfold F.z9l;refine We ha om λy hy=>?_
 have ly:=hy.len;have gE:(dg m.natAbs).length<=8796093022208:=om;refine Zs (λh1=>?_) (λh1=>?_)
 . have:m=0:=TY.1 zO;subst this;exact hk
 . obtain⟨N,hN⟩:∃N,(dg m.natAbs).length=N+1:=⟨(dg m.natAbs).length-1,zO⟩;refine Zq N hy (by rw[ly,hN,aM zO];omega) zO λu hu=>⟨_,hu,?_⟩
   have UJ:=Qb (Zu m.natAbs) (k:=N) zO;refine zp0 UJ ?_;have hb:=zyn hN;have je:bl ((dg m.natAbs)[N]'zO)<=32:=LG UJ;rw[hb]at hk;generalize bl ((dg m.natAbs)[N]'zO)=q at *;have e3:i64.wrap (i64.wrap (32*i64.wrap ((y.len:Int)-1))+(q:Int))=((32*N+q:Nat):Int):=by
    rw[ly,hN,aM (n:=((N+1:Nat):Int)-1) zO,aM (n:=32*(((N+1:Nat):Int)-1)) zO,aM zO];omega
   rw[e3];exact hk
def Z61(ha:NI h a m)(om:Ok m)(H:Ki ((bl m.natAbs:Nat):Int) h):za (F.zek a) Ki h:=by
 refine zw _ (λK' hk=>?_) H;unfold F.zek;have gE:(dg m.natAbs).length<=8796093022208:=om;refine Z0w ha om λy hy=>?_
 rcases Gs (dg m.natAbs).length with h1 | h1
 . refine znm hy zO ?_;rw[dif_pos h1];have:m=0:=TY.1 h1;subst this;exact hk
 . obtain⟨N,hN⟩:∃N,(dg m.natAbs).length=N+1:=⟨(dg m.natAbs).length-1,zO⟩;refine zku hy hN zO ?_;have hb:=zyn hN;generalize bl ((dg m.natAbs)[N]'zO)=q at *;rw[hb]at hk;exact hk
def Z05{n:Nat}{K:Sl->Hp->Prop}(hn:n<=35184372088832)(H:∀z h',h.le h'->aL h' z (dg (2 ^ n))->K z h') :
 ((32:Int)≠0 /\
 (eW (i64.wrap ((i64.wrap (((n:Nat):Int).tdiv 32))+1)) (i64.wrap ((i64.wrap (((n:Nat):Int).tdiv 32))+1)) 4 [.int .u32 0] (λm1 h1=>
 ((32:Int)≠0 /\
 ((32:Int)≠0 /\
 (0<=((((n:Nat):Int).tmod 32):Int) /\
 (zi m1 (i64.wrap (((n:Nat):Int).tdiv 32)) 1 λa2=>
 (bD a2 [.int .u32 (u32.wrap (1*2 ^ (min ((((n:Nat):Int).tmod 32):Int).toNat u32.bits)))] (λh2=>
 (K m1 h2)) h1)))))) h)):=by
 have e1:((n:Int)).tdiv 32=((n/32:Nat):Int):=wB n 32;have e2:((n:Int)).tmod 32=((n % 32:Nat):Int):=GQ n 32;have hlt:2 ^ (n % 32)<W:=G8 zD (show n % 32<32 by omega);rw[e1,e2,aM (n:=((n/32:Nat):Int)) zO,aM (n:=((n/32:Nat):Int)+1) zO];refine⟨zD,rC (n/32+1) (n/32+1) rfl rfl zO zO λz h1 hz ho=>⟨zD,zD,zO,?_⟩⟩;refine Vn (n/32) (2 ^ (n % 32)) ho rfl zS ?_ λh2 b _ _ _ dA=>?_
 rw[zqr zO,show(1:Int)*((2 ^ (n % 32):Nat):Int)=((2 ^ (n % 32):Nat):Int)by omega,wC hlt]
 . rw[Zof]at dA;exact H _ _ dA.1 dA.ep
def zx2{n:Nat}(hn:n<=35184372088832)(H:∀z h',h.le h'->aL h' z (dg (2 ^ n))->Ks z h'):za (F.z5j (n:Int)) Ks h:=
 zb _ (λK' hk=>by unfold F.z5j;exact Z05 hn hk) H
def Zs2{h:Hp}{z:Sl}{n:Nat}(hz:aL h z (dg n)):NI h ⟨false,z⟩ (n:Int):=⟨by rw[Jh];exact hz,zS⟩
def zzm{n:Nat}(hn:n<=35184372088832)(H:∀z h',h.le h'->NI h' z ((2 ^ n:Nat):Int)->KI z h'):za (F.zgi (n:Int)) KI h:=
 zb _ (λK' hk=>by
  unfold F.zgi;exact Z05 (K:=λm1 h2=>K' ⟨false,m1⟩ h2) hn λz h1 hl hz=>hk _ _ hl (Zs2 hz)) H
def Zba{n:Nat}(hx:aL h x l)(ol:aX l)(hl:l.length<=35184372088800)(H:∀z h',h.le h'->aL h' z (dg (vl l/2))->Ks z h'):za (F.z9m x) Ks h:=by
 refine zb _ (λK' hk=>?_) H;unfold F.z9m;refine Z1c (s:=1) hx ol zD hl λz h1 r aP hz dJ dG hv=>?_
 refine Vu hz zO λw hw=>?_
 rw[Yj dJ,hv]at hw;exact hk _ _ aP hw
def zt8{m:Nat}(ha:NI h a (m:Int))(om:(dg m).length<=1000000000000)(H:∀z h' (s:Nat),h.le h'->NI h' z (s:Int)->DJ m s->KE (z,0) h'):za (F.FJ a) KE h:=by
 refine zb (λv h'=>∃s:Nat,NI h' v.1 (s:Int)/\DJ m s/\v.2=0) (λK' hk=>?_) λ⟨z,c⟩ h' hl ⟨s,hz,hs,hc⟩=>by
  simp only at hc;subst hc;exact H z h' s hl hz hs
 unfold F.FJ;have gE:Ok (m:Int):=by unfold Ok;rw[Jh];omega
 refine UA ha gE ?_;have sr:=Yg (m:Int);refine Zs (λh1=>by omega) (λh1=>Zs (λh2=>?_) (λh2=>?_))
 . have WA:m=0:=zO;subst WA;exact hk _ _ (Jf _) ⟨0,NI.zero,⟨zD,zD⟩,rfl⟩
 have hmp:0<m:=zO;refine Zad ha gE ?_;rw[Jh];have wx:bl m<=32000000000000:=by
  have h3:=yj.1 om;have h4:∀N,m<W ^ N->bl m<=32*N:=λN h=>LG (by rw[<-BE];exact h)
  exact Jo (h4 _ h3) zD
 refine⟨zD,?_⟩;have e1:((bl m:Nat):Int).tdiv 2=((bl m/2:Nat):Int):=wB _ 2;rw[e1,aM (n:=((bl m/2:Nat):Int)) zO,aM (n:=((bl m/2:Nat):Int)+1) zO];refine zx2 (n:=bl m/2+1) zO λx0 h1 aP iX=>?_
 have aba:(dg (2 ^ (bl m/2+1))).length<=1000000001000:=by
  have h5:∀N,bl m/2+1<32*N->(dg (2 ^ (bl m/2+1))).length<=N:=λN h=>yj.2 (by rw[BE];exact G8 zD h)
  exact h5 _ zO
 refine zqp (λN st h'=>h.le h'/\aL h' st.2.1 (dg N)/\(dg N).length<=1000000001000/\0<N/\m<(N+1)*(N+1)) (2 ^ (bl m/2+1)) ⟨aP,iX,aba,J7 _,?_⟩ ?_
 . have h3:=UF m;have h4:2 ^ bl m<=2 ^ (bl m/2+1)*2 ^ (bl m/2+1):=by
    rw[<-Gm];exact Jz zD zO
   have h5:2 ^ (bl m/2+1)*2 ^ (bl m/2+1)<=(2 ^ (bl m/2+1)+1)*(2 ^ (bl m/2+1)+1):=Gt zO zO;omega
 . rintro N st h2 ⟨bH,hx,vK,rJ,hN⟩ K hK;refine We (ha.le bH) gE λy hy=>?_
   rw[Jh]at hy;refine zg5 hy hx zO zO zO λq r h3 bj hq hr=>?_
   have VI:(dg (m/N)).length<=1000000000000:=Jo (qz (G6 _ _)) om;refine zmn (hx.le bj) hq (Zu _) (Zu _) zO zO λz h4 rr cf hz VK hv Hm=>?_
   rw[Zk,Zk]at hv;refine Zba (n:=0) hz VK zO λw h5 cj hw=>?_
   rw[hv]at hw;have Hw:=Ja bj (Ja cf cj);have hx5:=hx.le Hw;by_cases hc:(N+m/N)/2<N
   . refine TX hw hx5 (by have:=qz (Lg hc);omega) zO ?_;unfold mi;rw[if_pos hc];refine zc rfl ?_;refine hK _ _ _ hc ⟨Ja bH Hw,hw,by have:=qz (Lg hc);omega,?_,Z5t rJ⟩;have:=Zju (s:=1) rJ (show 1*1<=m by omega);omega
   . have Hi:(dg ((N+m/N)/2)).length<=35184372088800:=by
      have h6:(dg (N+m/N)).length<=1000000001000+1:=Z89 vK zO;have:=qz (G6 (N+m/N) 2);omega
     refine TX hw hx5 zO zO ?_;unfold mi;rw[if_neg hc];refine zk (by split<;>rfl) ?_;refine Wt hx5 zO λv hv=>hk _ _ (Ja bH Hw) ⟨N,hv,Z5s rJ hN (P9 hc),rfl⟩
def zsj(ha:NI h a m)(om:Ok m)(hm:m<0)(H:KE (⟨false,zd⟩,7) h):za (F.FJ a) KE h:=by
 refine zw _ (λK' hk=>?_) H;unfold F.FJ;refine UA ha om ?_;rw[Us hm];exact zk rfl hk
end
end Den
end

section
namespace Iv
open Den
def Zdw{r:List Nat}{w b:Nat}(hw:w<r.length)(ok:aX r)(hb:b<32)(h:2 ^ (32*w+b+1) ∣ vl r):2 ^ (b+1) ∣ r[w]:=by
 have h1:=Ym (l:=r) (k:=w) zO;have h2:=sI (u9 ok w);rw[Jk,Gh zO]at h2;have h3:W ^ w ∣ vl r:=Tz (by rw[BE];exact Nat.pow_dvd_pow 2 zO) h;have h4:vl (r.take w)=0:=by
  have h5:W ^ w ∣ vl (r.take w):=by
   rw[h1]at h3;exact(Nat.dvd_add_left (Nat.dvd_mul_right _ _)).1 h3
  exact Nat.eq_zero_of_dvd_of_lt h5 h2
 rw[h4,Uo]at h1;have h5:W ^ w*2 ^ (b+1) ∣ W ^ w*vl (r.drop w):=by
  rw[<-h1,BE,<-Gm];exact h
 have h6:=Nat.dvd_of_mul_dvd_mul_left (Nat.pow_pos Xi) h5;rw[Uf hw]at h6;simp only[vl]at h6;have h7:2 ^ (b+1) ∣ W*vl (r.drop (w+1)):=Tz (show 2 ^ (b+1) ∣ W from Nat.pow_dvd_pow (m:=b+1) (n:=32) 2 zO) (Nat.dvd_mul_right _ _);exact(Nat.dvd_add_left h7).1 h6
def Zk0{x b:Nat}(h:2 ^ (b+1) ∣ x):x ||| 2 ^ b=x+2 ^ b:=by
 obtain⟨c,rfl⟩:=h;exact(Nat.two_pow_add_eq_or_of_lt (G8 zD zO) c).symm
def Zd9{x b:Nat}(h:2 ^ (b+1) ∣ x):x.testBit b=false:=by
 obtain⟨c,rfl⟩:=h;rw[Nat.testBit_two_pow_mul];simp;intro h;omega
end Iv
namespace Den
open Go Iv
def Z35{x b:Nat}(hx:x<W)(hb:b<32)(h:2 ^ (b+1) ∣ x):Yw .andNot .u32 ((x+2 ^ b:Nat):Int) ((2 ^ b:Nat):Int)=(x:Int):=by
 have zF:2 ^ b<2 ^ 32:=G8 zD hb;have h0:=Zd9 h;rw[<-Zk0 h];have ho:x ||| 2 ^ b<2 ^ 32:=Nat.or_lt_two_pow hx zF
 unfold Yw;simp only[IntKind.bits];have h1:(Ld 32 ((x ||| 2 ^ b:Nat):Int) &&& ~~~(Ld 32 ((2 ^ b:Nat):Int)))=L8 32 x:=by
  rw[Pe,Pe];apply BitVec.eq_of_getLsbD_eq;intro i hi;rw[BitVec.getLsbD_and,BitVec.getLsbD_not,BitVec.getLsbD_ofNat,BitVec.getLsbD_ofNat,BitVec.getLsbD_ofNat,Nat.testBit_or,Nat.testBit_two_pow];by_cases hib:b=i;subst hib;simp[h0];simp[hib,hi]
 have h2:(L8 32 x).toNat=x:=by rw[Pf];exact Ui hx
 exact(congrArg (λz:BitVec 32=>u32.wrap (z.toNat:Int)) h1).trans (by simp only[h2];exact wC hx)
section
def zrb{m:Nat}(ha:NI h a (m:Int))(om:(dg m).length<=1000000000000)(H:∀z h' (s:Nat),h.le h'->NI h' z (s:Int)->DJ m s->KE (z,0) h'):za (F.OH a) KE h:=by
 refine zb (λv h'=>∃s:Nat,NI h' v.1 (s:Int)/\DJ m s/\v.2=0) (λK' hk=>?_) λ⟨z,c⟩ h' hl ⟨s,hz,hs,hc⟩=>by
  simp only at hc;subst hc;exact H z h' s hl hz hs
 unfold F.OH;have gE:Ok (m:Int):=by unfold Ok;rw[Jh];omega
 refine GP ha gE λn hn=>?_
 have hng:n.neg=false:=by rw[hn.2];simp
 refine zc hng ?_;refine Z61 hn gE ?_;have JC:=hn.1;rw[Jh]at JC |-
 have wx:bl m<=32000000000000:=by
  have h3:=yj.1 om;have h4:∀N,m<W ^ N->bl m<=32*N:=λN h=>LG (by rw[<-BE];exact h)
  exact Jo (h4 _ h3) zD
 obtain⟨k,gI⟩:∃k,k=(bl m+1)/2:=⟨_,rfl⟩;have e1:i64.wrap (((bl m:Nat):Int)+1)=((bl m+1:Nat):Int):=by rw[aM zO];rfl
 have e2:((bl m+1:Nat):Int).tdiv 2=(k:Int):=by rw[gI];exact wB _ 2
 have e3:((k:Nat):Int).tdiv 32=((k/32:Nat):Int):=wB k 32;rw[e1,e2,TK (n:=k) zO,e3,TK (n:=k/32) zO];have e4:i64.wrap (((k/32:Nat):Int)+1)=((k/32+1:Nat):Int):=by rw[aM zO];rfl
 rw[e4];refine⟨zD,zD,rC (k/32+1) (k/32+1) rfl rfl zO zO λz h1 hz ho=>?_⟩;refine Za (λst h'=>∃(i:Nat) (r:List Nat),st=((i:Int)-1,())/\i<=k/\Yz h h' z r/\aX r/\r.length=k/32+1/\2 ^ i ∣ vl r/\vl r*vl r<=m/\m<(vl r+2 ^ i)*(vl r+2 ^ i)) (λst=>(st.1+1).toNat)
  ⟨k,_,by rw[aM zO],Jd _,ho,tU _,zS,by rw[GL];exact Nat.dvd_zero _,by rw[GL];omega,?_⟩ ?_
 . rw[GL,Uo,<-Gm];exact Tc (UF m) (Jz zD zO)
 rintro _ h2 ⟨i,r,rfl,hi,dA,dJ,dG,Hx,hle,hlt⟩;refine zg (λh3=>?_) (λh3=>?_)
 . obtain⟨j,rfl⟩:∃j,i=j+1:=⟨i-1,by have:(i:Int)-1>=0:=h3;omega⟩;have fy:((j+1:Nat):Int)-1=(j:Int):=zO;have d1:((j:Nat):Int).tdiv 32=((j/32:Nat):Int):=wB j 32;have d2:((j:Nat):Int).tmod 32=((j % 32:Nat):Int):=GQ j 32;simp only[fy,d1,d2];have hw:j/32<r.length:=zO;have WB:2 ^ (j % 32+1) ∣ r[j/32]:=Zdw hw dJ zO (by rw[show 32*(j/32)+j % 32+1=j+1 by omega];exact Hx);have hrW:=Qb dJ hw;have hpW:2 ^ (j % 32)<W:=G8 (n:=32) zD zO;have DC:=Zk0 WB;have abb:r[j/32]+2 ^ (j % 32)<W:=by
    rw[<-DC];exact Nat.or_lt_two_pow (n:=32) hrW hpW
   have fL:=zE (l:=r) (k:=j/32) (v:=r[j/32]+2 ^ (j % 32)) hw;have hval:vl (r.set (j/32) (r[j/32]+2 ^ (j % 32)))=vl r+2 ^ j:=by
    have e5:W ^ (j/32)*2 ^ (j % 32)=2 ^ j:=by rw[BE,<-Gm];congr 1;omega
    rw[U5,e5]at fL;omega
   have w1:i64.wrap ((j/32:Nat):Int)=((j/32:Nat):Int):=TK zO;have p1:u32.wrap (1*2 ^ (min (((j % 32:Nat):Int)).toNat u32.bits))=((2 ^ (j % 32):Nat):Int):=by
    rw[zqr zO,L5,wC hpW]
   simp only[w1,p1];have pU:2 ^ (j+1)=2 ^ j+2 ^ j:=by rw[Uc];omega
   refine zj (λ_ h'=>∃r',Yz h h' z r'/\aX r'/\r'.length=k/32+1/\2 ^ j ∣ vl r'/\vl r'*vl r'<=m/\m<(vl r'+2 ^ j)*(vl r'+2 ^ j)) ?_ ?_
   . rintro _ h4 ⟨r',g1,g2,g3,g4,g5,g6⟩;exact⟨⟨j,r',by rw[aM zO],zO,g1,g2,g3,g4,g5,g6⟩,by rw[aM zO];omega⟩
   . refine⟨zD,zD,Zq (j/32) dA.ep rfl hw λa1 rE=>⟨_,rE,zD,zO,?_⟩⟩;refine Vn (j/32) (r[j/32]+2 ^ (j % 32)) dA rfl hw (by rw[Zjz hrW hpW,DC]) λh5 b5 _ _ _ cV=>?_
     have Hy:aX (r.set (j/32) (r[j/32]+2 ^ (j % 32))):=kX dJ abb;have abc:(r.set (j/32) (r[j/32]+2 ^ (j % 32))).length=k/32+1:=by simp[dG]
     refine Xe cV.ep zO λt1 LJ=>Xe cV.ep zO λt2 ht2=>?_
     rw[Yj Hy,hval]at LJ ht2;have hvl:(dg (vl r+2 ^ j)).length<=k/32+1:=by
      rw[<-hval,<-Yj Hy];have:=cF (r.set (j/32) (r[j/32]+2 ^ (j % 32)));omega
     refine zo4 LJ ht2 (Zu _) (Zu _) zO λu h6 db hu=>?_
     rw[Zk]at hu;have hul:=Z9b hvl hvl;refine z8d hu ((JC.le cV.1).le db) zO zO ?_;unfold mi;have Vb:Yz h h6 z (r.set (j/32) (r[j/32]+2 ^ (j % 32))):=cV.le db;by_cases hc:m<(vl r+2 ^ j)*(vl r+2 ^ j)
     . rw[if_neg zO,if_pos hc];refine zk rfl ⟨zD,zD,Zq (j/32) Vb.ep rfl zO λa2 gP=>⟨_,gP,zD,zO,?_⟩⟩;refine Vn (j/32) r[j/32] Vb rfl zO (by rw[Lk];exact Z35 hrW zO WB) λh7 b7 _ _ _ ho7=>?_
       rw[List.set_set,List.set_getElem_self]at ho7;exact⟨r,ho7,dJ,dG,Tz (Nat.pow_dvd_pow 2 zO) Hx,hle,hc⟩
     . rw[if_neg hc];refine zc (by split<;>rfl) ?_;refine⟨_,Vb,Hy,abc,?_,?_,?_⟩
       . rw[hval];exact Nat.dvd_add (Tz (Nat.pow_dvd_pow 2 zO) Hx) (Nat.dvd_refl _)
       rw[hval];omega;rw[hval,Tk,<-pU];exact hlt
 . obtain rfl:i=0:=by have:¬(i:Int)-1>=0:=h3;omega
   refine zlb dA.ep dJ zO λw hw=>hk _ _ dA.1 ⟨vl r,hw,⟨hle,hlt⟩,rfl⟩
end
end Den
end

section
namespace Den
open Go Iv
def Hz{α:Type}{c:α->List Value}{n:Nat}(hc:∀x,(c x).length=n):∀{xs:List α} {k j:Nat} (hk:k<xs.length),j<n->(xs.flatMap c)[k*n+j]?=(c xs[k])[j]?
 | [],k,j,hk,_=>by simp at hk
 | x :: r,0,j,hk,hj=>by
   rw[T3,Pm,Uo,List.getElem?_append_left (by rw[hc];exact hj)];rfl
 | x :: r,k+1,j,hk,hj=>by
   rw[T3,List.getElem?_append_right (by rw[hc,J9];omega),hc];have:(k+1)*n+j-n=k*n+j:=by rw[J9];omega
   rw[this,Hz hc (by simpa using hk) hj];rfl
def yr{α:Type}{c:α->List Value}{n:Nat}(hc:∀x,(c x).length=n)(xs:List α):(xs.flatMap c).length=xs.length*n:=by
 induction xs with
 | nil=>simp
 | cons x r ih=>rw[T3,Jq,hc,ih,Ji,J9];omega
def qc(x:aC):List Value:=[.bool x.num.neg,.slice x.num.ah.a x.num.ah.len x.num.ah.cap,.bool x.den.neg,.slice x.den.ah.a x.den.ah.len x.den.ah.cap]
def qu(x:aC):(qc x).length=4:=rfl
abbrev qH(h:Hp)(l:Sl)(xs:List aC):Prop:=Rd h 4 l (xs.flatMap qc)
def qH.len{h:Hp}{l:Sl}{xs:List aC}(hr:qH h l xs):l.len=xs.length:=by
 have:=hr.1;rw[yr qu]at this;omega
def HA{h:Hp}{l:Sl}{xs:List aC}{i:Int}{K:Bool->Sl->Bool->Sl->Prop}(k:Nat)(hr:qH h l xs)(hi:i=k)(hk:k<xs.length)
 (H:K xs[k].num.neg xs[k].num.ah xs[k].den.neg xs[k].den.ah) :
 zi l i 4 λa=>aB .bool (a.add 0) (λx0=>aB .sl (a.add 1) (λx1=>aB .bool (a.add 2) (λx2=>aB .sl (a.add 3) (λx3=>K x0 x1 x2 x3) h) h) h) h:=by
 refine C3 k hr hi (by rw[hr.len];exact hk) zD λa ha=>?_
 have g:∀j v,j<4->(qc xs[k])[j]?=some v->h.cell (a.add j)=some v:=λj v hj hv=>ha j v (by rw[Hz qu hk hj];exact hv)
 exact⟨_,g 0 _ zD rfl,_,g 1 _ zD rfl,_,g 2 _ zD rfl,_,g 3 _ zD rfl,H⟩
def Zbe{x:Sl}{j e n:Nat}{i:Int}{k:Nat}{F:Addr->Prop}(hi:i=k)(hk:k<e-j)(he:e<=x.cap)(H:zi x ((j+k:Nat):Int) n F):zi (x.cut j e n) i n F:=by
 subst hi;obtain⟨_,_,h3⟩:=H;refine⟨zO,?_,?_⟩;show(k:Int)<((e-j:Nat):Int);omega
 . have:(x.cut j e n).a=x.a.map (·.add (j*n)):=by show(if x.cap=j then _ else _)=_;rw[if_neg zO]
   rw[this];cases ha:x.a with
   | none=>rw[ha]at h3;exact h3
   | some a=>
     rw[ha]at h3;simp only[Yv,Gp]at h3 |-
     rw[Vw];have e1:(((j+k:Nat):Int)).toNat=j+k:=rfl;have e2:((k:Int)).toNat=k:=rfl;rw[e1,J9]at h3;rw[e2];exact h3
def QL(h:Hp)(B:Nat)(xs:List aC)(vs:List Rat):Prop:=xs.length=vs.length/\∀k (h1:k<xs.length) (h2:k<vs.length),NR h xs[k] vs[k]/\BR B vs[k]
def QL.le{h h':Hp}{B:Nat}{xs:List aC}{vs:List Rat}(hq:QL h B xs vs)(hl:h.le h'):QL h' B xs vs:=⟨hq.1,λk h1 h2=>⟨(hq.2 k h1 h2).1.le hl,(hq.2 k h1 h2).2⟩⟩
def sK(m x:Rat):Rat:=if x<m then x else m
def ue(m x:Rat):Rat:=if m<x then x else m
def NV(h:Hp)(x:aH)(l u:Rat):Prop:=NR h x.low l/\NR h x.high u
abbrev q4(s:Bool×Sl×Bool×Sl×Unit):aC:=⟨⟨s.1,s.2.1⟩,⟨s.2.2.1,s.2.2.2.1⟩⟩
def HB{f:Rat->Rat->Rat}{q:Rat}{l:List Rat}{i:Nat}(hi:i<l.length):(l.take (i+1)).foldl f q=f ((l.take i).foldl f q) l[i]:=by
 rw[Jc hi,List.foldl_append];rfl
section
variable {l:Sl}{B:Nat}{v0:Rat}
def Vk:BR 1 0:=⟨by unfold Lt;decide,by unfold Lt;decide⟩
def Zys{m x:Rat}(hm:BR B m)(hx:BR B x):BR B (sK m x):=by unfold sK;split<;>assumption
def Zym{m x:Rat}(hm:BR B m)(hx:BR B x):BR B (ue m x):=by unfold ue;split<;>assumption
def ztu(hr:qH h l xs)(hq:QL h B xs (v0 :: vs))(hB:B<=300000000000)(hlen:xs.length<=1000)(ie:l.len<=l.cap)
 (H:∀z h',h.le h'->NV h' z (vs.foldl sK v0) (vs.foldl ue v0)->KV z h'):za (F.Oz l) KV h:=by
 refine zb _ (λK' hk=>?_) H;unfold F.Oz;have ll:=hr.len;have aP:=hq.1;simp only[Ji]at aP;refine HA 0 hr rfl zO (HA 0 hr rfl zO ?_);have h0:=hq.2 0 zO zS;simp only[Ud]at h0;refine⟨zD,zO,zO,?_⟩;have e0:((1:Int)).toNat=1:=rfl;have e1:((l.len:Int)).toNat=l.len:=rfl;rw[e0,e1];have lc:(l.cut 1 l.len 4).len=vs.length:=by show l.len-1=_;omega
 refine Za (λst h'=>h.le h'/\∃i:Nat,st.2.2.1=(i:Int)/\i<=vs.length/\NR h' (q4 st.1) ((vs.take i).foldl sK v0)/\NR h' (q4 st.2.1) ((vs.take i).foldl ue v0)/\BR B ((vs.take i).foldl sK v0)/\BR B ((vs.take i).foldl ue v0))
  (λst=>((vs.length:Int)-st.2.2.1).toNat) ⟨Jf _,0,rfl,Jt _,h0.1,h0.1,h0.2,h0.2⟩ ?_
 rintro⟨⟨a1,a2,a3,a4,_⟩,⟨b1,b2,b3,b4,_⟩,i',_⟩ h1 ⟨rK,i,hi,da,pg,sL,blo,bhi⟩;simp only at hi pg sL;subst hi;refine zg (λh3=>?_) (λh3=>?_)
 . have aA:i<vs.length:=by have:(i:Int)<((l.cut 1 l.len 4).len:Int):=h3;omega
   have hx:=hq.2 (i+1) zO (by simp;omega);simp only[List.getElem_cons_succ]at hx;refine zj (λs h'=>h1.le h'/\NR h' (q4 s.1) ((vs.take (i+1)).foldl sK v0)/\NR h' (q4 s.2.1) ((vs.take (i+1)).foldl ue v0)) ?_ ?_
   . rintro s h4 ⟨cf,vh,kJ⟩;refine⟨⟨Ja rK cf,i+1,by simp only;rw[aM zO];rfl,zO,vh,kJ,?_,?_⟩,by simp only;rw[aM zO];omega⟩;rw[HB aA];exact Zys blo hx.2;rw[HB aA];exact Zym bhi hx.2
   . refine Zbe (k:=i) rfl zO ie (HA (1+i) (hr.le rK) rfl zO ?_);have e2:xs[1+i]'zO=xs[i+1]'zO:=by congr 1;omega
     rw[e2];refine zj (λs h'=>h1.le h'/\NR h' (q4 s.1) ((vs.take (i+1)).foldl sK v0)) ?_ ?_
     . rintro s h4 ⟨cf,vh⟩;refine VT ((hx.1.le rK).le cf) (sL.le cf) hx.2 bhi zO zO λh5 cj=>?_
       refine zg (λh6=>⟨Ja cf cj,vh.le cj,?_⟩) (λh6=>⟨Ja cf cj,vh.le cj,?_⟩);rw[HB aA,ue,if_pos (zoh.1 h6)];exact((hx.1.le rK).le cf).le cj;rw[HB aA,ue,if_neg (λhh=>h6 (zoh.2 hh))];exact(sL.le cf).le cj
     . refine VT (hx.1.le rK) pg hx.2 blo zO zO λh5 cj=>?_
       refine zg (λh6=>⟨cj,?_⟩) (λh6=>⟨cj,?_⟩);rw[HB aA,sK,if_pos (zoi.1 h6)];exact(hx.1.le rK).le cj;rw[HB aA,sK,if_neg (λhh=>h6 (zoi.2 hh))];exact pg.le cj
 . have aA:i=vs.length:=by have:¬(i:Int)<((l.cut 1 l.len 4).len:Int):=h3;omega
   subst aA;rw[Je (Jd _)]at pg sL blo bhi;refine Zr zD zD λz h4 cf hz=>?_
   refine zX (pg.le cf) hz blo Vk zO zO λu h5 cj hu=>?_
   refine zX (sL.le (Ja cf cj)) (hz.le cj) bhi Vk zO zO λw h6 db hw=>?_
   refine hk _ _ (Ja rK (Ja cf (Ja cj db))) ⟨?_,?_⟩
   . have:vs.foldl sK v0+((0:Int):Rat)=vs.foldl sK v0:=Rat.add_zero _;rw[this]at hu;exact hu.le db
   . have:vs.foldl ue v0+((0:Int):Rat)=vs.foldl ue v0:=Rat.add_zero _;rw[this]at hw;exact hw
end
end Den
end

section
namespace Den
open Go Iv
def WC{α:Type}{G:(α->Hp->Prop)->Hp->Prop}{K1 K:α->Hp->Prop}{D h:Hp}(hD:D.le h)(H:za G K1 D)
 (k:∀v D' h',D.le D'->D'.le h'->(∀j,D j=none->h j≠none->D' j=none/\h' j=h j)->K1 v D'->K v h'):za G K h:=by
 obtain⟨O,hO⟩:∃O:Hp,O=λj=>match D j with | none=>h j | some _=>none:=⟨_,rfl⟩
 have e:h=D.add O:=by
  funext j;unfold Hp.add;rw[hO];cases hj:D j with
  | none=>simp[hj]
  | some b=>simp[hD j b hj]
 have CW:D.dj O:=λj=>by
  cases hj:D j with
  | none=>exact .inl rfl
  | some b=>right;rw[hO];simp[hj]
 rw[e];refine zyp CW H λv D' hl Fw hk=>k v D' _ hl (Hp.qU _ _) (λj h1 h2=>?_) hk
 have e2:h j=O j:=by rw[hO];simp[h1]
 rw[e2]at h2 |-
 have h3:D' j=none:=by
  rcases Fw j with h4 | h4
  exact h4;exact absurd h4 h2
 exact⟨h3,by unfold Hp.add;rw[h3]⟩
def Own.move{D h D' h':Hp}{n:Nat}{l:Sl}{cs:List Value}(ho:Own D h n l cs)(h1:D'.le h')(fJ:∀j,D j=none->h j≠none->D' j=none/\h' j=h j):Own D' h' n l cs:=by
 obtain⟨g1,g2,g3,g4⟩:=ho;refine⟨h1,g2,g3,?_⟩;cases ha:l.a with
 | none=>rw[ha]at g4;exact g4
 | some a=>
   rw[ha]at g4;obtain⟨k1,k2,k3,b,k4,k5⟩:=g4;have:=fJ a.block k3 (by rw[k4];simp);exact⟨k1,k2,this.1,b,by rw[this.2];exact k4,k5⟩
def Own.call{α:Type}{G:(α->Hp->Prop)->Hp->Prop}{K1 K:α->Hp->Prop}{D h:Hp}{n:Nat}{l:Sl}{cs:List Value}(ho:Own D h n l cs)(H:za G K1 D)
 (k:∀v D' h',D.le D'->Own D' h' n l cs->K1 v D'->K v h'):za G K h:=
 WC ho.1 H λv D' h' h1 h2 h3 h4=>k v D' h' h1 (ho.move h2 h3) h4
def LY(x y:Sl):Prop:=∀a b,x.a=some a->y.a=some b->a.block≠b.block
def LY.symm{x y:Sl}(h:LY x y):LY y x:=λa b h1 h2=>(h b a h2 h1).symm
def Zk2{D h h':Hp}{n:Nat}{l x:Sl}{cs:List Value}(ho:Own D h n l cs)(LZ:LY x l)(hl:D.le h')(hs:∀j,(∀a,x.a=some a->j≠a.block)->h' j=h j):Own D h' n l cs:=by
 obtain⟨g1,g2,g3,g4⟩:=ho;refine⟨hl,g2,g3,?_⟩;cases ha:l.a with
 | none=>rw[ha]at g4;exact g4
 | some a=>
   rw[ha]at g4;obtain⟨k1,k2,k3,b,k4,k5⟩:=g4;exact⟨k1,k2,k3,b,by rw[hs a.block λc hc=>(LZ c a hc ha).symm];exact k4,k5⟩
def Zpd{h0 h:Hp}{size:Nat}{x:Sl}{cs vs:List Value}{i:Int}{K:Hp->Prop}(k:Nat)(ho:Own h0 h size x cs)(hi:i=k)(hk:k<x.len)(hv:vs.length=size)(dO:0<size)(dt:vs.all Tb=true)
 (H:∀h',Own h0 h' size x (Zn cs (k*size) vs)->(∀j,(∀a,x.a=some a->j≠a.block)->h' j=h j)->K h'):zi x i size λa=>bD a vs K h:=by
 subst hi;obtain⟨h1,h2,h3,h4⟩:=ho;refine⟨zO,zO,?_⟩;cases ha:x.a with
 | none=>rw[ha]at h4;simp only at h4;omega
 | some a=>
   rw[ha]at h4;obtain⟨g1,g2,g3,b,g4,g5,g6,g7⟩:=h4;have e0:((k:Int).toNat)=k:=rfl;have e1:k*size+size<=cs.length:=by
    rw[<-h2];have:=Jm size (show k+1<=x.len by omega);rw[J9]at this;omega
   have e2:cs.length<=b.cells.length:=by rw[g6,<-h2];exact Jm _ h3
   show Yv (some a) _;simp only[Yv,e0];refine⟨b,by rw[Qf];exact g4,Fz g2 _,g5,by rw[tQ];omega,dt,?_⟩;rw[Qf,tQ,g1,Uo];refine H _ ⟨?_,?_,h3,?_⟩ λj hj=>?_
   . intro kk bk ck;rw[Hp.cl (λhh=>by subst hh;rw[g3]at ck;cases ck)];exact h1 kk bk ck
   rw[qd zO];exact h2
   . rw[ha];refine⟨g1,g2,g3,_,Uy _ _ _,g5,?_,?_⟩
     . show(Zn b.cells (k*size) vs).length=_;rw[qd zO];exact g6
     . show(Zn b.cells (k*size) vs).take _=_;rw[qd zO];exact zc7 zO g7
   exact Hp.cl (hj a ha)
section
variable {α:Type}{c:α->List Value}{n:Nat}
def zbq(hc:∀x,(c x).length=n){x:α}:∀{xs:List α} {k:Nat},k<xs.length->Zn (xs.flatMap c) (k*n) (c x)=(xs.set k x).flatMap c
 | [],k,h=>by simp at h
 | y :: r,0,h=>by
   unfold Zn;simp only[Pm,List.take_zero,List.nil_append,Uo,List.set_cons_zero,T3,hc];congr 1;rw[<-hc y,List.drop_left]
 | y :: r,k+1,h=>by
   have ih:=zbq hc (x:=x) (xs:=r) (k:=k) (by simpa using h);unfold Zn at ih |-
   rw[hc]at ih |-
   have e1:(k+1)*n=n+k*n:=by rw[J9];omega
   have e2:n+k*n+n=n+(k*n+n):=zO;simp only[T3,List.set_cons_succ];rw[e1,e2,<-ih];have e3:∀j,(c y++r.flatMap c).take (n+j)=c y++(r.flatMap c).take j:=λj=>by
    rw[List.take_append,hc,Gz,Je (by rw[hc];omega)]
   have e4:∀j,(c y++r.flatMap c).drop (n+j)=(r.flatMap c).drop j:=λj=>by
    rw[List.drop_append,hc,Gz,List.drop_of_length_le (by rw[hc];omega),List.nil_append]
   rw[e3,e4];simp[J8]
def Own.abd(hc:∀x,(c x).length=n)(hn:0<n){D h:Hp}{l:Sl}{xs:List α}(ho:Own D h n l (xs.flatMap c)):l.len=xs.length:=by
 have:=ho.2.1;rw[yr hc]at this;exact Nat.eq_of_mul_eq_mul_right hn this
def Ma(hc:∀x,(c x).length=n)(hn:0<n){D h:Hp}{l:Sl}{xs:List α}{x:α}{i:Int}{K:Hp->Prop}(k:Nat)(ho:Own D h n l (xs.flatMap c))(hi:i=k)(hk:k<xs.length)(dt:(c x).all Tb=true)
 (H:∀h',Own D h' n l ((xs.set k x).flatMap c)->(∀j,(∀a,l.a=some a->j≠a.block)->h' j=h j)->K h'):zi l i n λa=>bD a (c x) K h:=by
 refine Zpd k ho hi (by rw[ho.abd hc hn];exact hk) (hc x) hn dt λh' h1 h2=>H h' ?_ h2
 rw[zbq hc hk]at h1;exact h1
end
def zZ(x:aC):(qc x).all Tb=true:=rfl
def QL.set{h:Hp}{B:Nat}{xs:List aC}{vs:List Rat}{x:aC}{v:Rat}{k:Nat}(hq:QL h B xs vs)(h1:NR h x v)(h2:BR B v):QL h B (xs.set k x) (vs.set k v):=by
 refine⟨by simp[hq.1],λj j1 j2=>?_⟩;rw[List.getElem_set,List.getElem_set];by_cases hj:k=j;rw[if_pos hj,if_pos hj];exact⟨h1,h2⟩
 . rw[if_neg hj,if_neg hj];exact hq.2 j (by simpa using j1) (by simpa using j2)
def QL.mono{h:Hp}{B C:Nat}{xs:List aC}{vs:List Rat}(hq:QL h B xs vs)(hB:B<=C):QL h C xs vs:=⟨hq.1,λk h1 h2=>⟨(hq.2 k h1 h2).1,(hq.2 k h1 h2).2.mono hB⟩⟩
def QL.take{h:Hp}{B:Nat}{xs:List aC}{vs:List Rat}{k:Nat}(hq:QL h B xs vs):QL h B (xs.take k) (vs.take k):=by
 refine⟨by simp[hq.1],λj j1 j2=>?_⟩;rw[Ps,Ps];exact hq.2 j (by simp at j1;omega) (by simp at j2;omega)
def QL.bound{h:Hp}{B:Nat}{xs:List aC}{vs:List Rat}(hq:QL h B xs vs):∀v∈vs,BR B v:=λv hv=>by
 obtain⟨i,hi,rfl⟩:=List.mem_iff_getElem.1 hv;exact(hq.2 i (by rw[hq.1];exact hi) hi).2
def PL(h:Hp)(B:Nat)(l:Sl)(p:List Rat):Prop:=∃xs,qH h l xs/\QL h B xs p/\l.len<=l.cap
def OD(D h:Hp)(B:Nat)(l:Sl)(p:List Rat):Prop:=∃xs,Own D h 4 l (xs.flatMap qc)/\QL D B xs p
def OL(h0 h:Hp)(B:Nat)(l:Sl)(p:List Rat):Prop:=∃D,h0.le D/\OD D h B l p
section
variable {B:Nat}{l:Sl}
def PL.le(hp:PL h B l p)(hl:h.le h'):PL h' B l p:=by
 obtain⟨xs,h1,h2,h3⟩:=hp;exact⟨xs,h1.le hl,h2.le hl,h3⟩
def PL.mono{C:Nat}(hp:PL h B l p)(hB:B<=C):PL h C l p:=by
 obtain⟨xs,h1,h2,h3⟩:=hp;exact⟨xs,h1,h2.mono hB,h3⟩
def PL.len(hp:PL h B l p):l.len=p.length:=by
 obtain⟨xs,h1,h2,h3⟩:=hp;rw[qH.len h1,h2.1]
def PL.cap(hp:PL h B l p):l.len<=l.cap:=by obtain⟨xs,h1,h2,h3⟩:=hp;exact h3
def PL.bound(hp:PL h B l p):∀v∈p,BR B v:=by obtain⟨xs,h1,h2,h3⟩:=hp;exact h2.bound
def PL.nil:PL h B zd []:=⟨[],Rd.nil,⟨rfl,λk h1 _=>by simp at h1⟩,Jd _⟩
def PL.get{i:Int}{K:Bool->Sl->Bool->Sl->Prop}(k:Nat)(hp:PL h B l p)(hi:i=k)(hk:k<p.length)
 (H:∀x:aC,NR h x p[k]->BR B p[k]->K x.num.neg x.num.ah x.den.neg x.den.ah) :
 zi l i 4 λa=>aB .bool (a.add 0) (λx0=>aB .sl (a.add 1) (λx1=>aB .bool (a.add 2) (λx2=>aB .sl (a.add 3) (λx3=>K x0 x1 x2 x3) h) h) h) h:=by
 obtain⟨xs,h1,h2,h3⟩:=hp;have bP:k<xs.length:=by rw[h2.1];exact hk
 have:=h2.2 k bP hk;exact HA k h1 hi bP (H _ this.1 this.2)
def OD.pl(ho:OD D h B l p):PL h B l p:=by
 obtain⟨xs,h1,h2⟩:=ho;exact⟨xs,h1.rd,h2.le h1.1,h1.2.2.1⟩
def OD.dT(ho:OD D h B l p):D.le h:=by obtain⟨xs,h1,h2⟩:=ho;exact h1.1
def OD.len(ho:OD D h B l p):l.len=p.length:=ho.pl.len
def OD.mono{C:Nat}(hp:OD D h B l p)(hB:B<=C):OD D h C l p:=by
 obtain⟨xs,h1,h2⟩:=hp;exact⟨xs,h1,h2.mono hB⟩
def OL.pl(ho:OL h0 h B l p):PL h B l p:=by obtain⟨D,_,h2⟩:=ho;exact h2.pl
def OL.hle(ho:OL h0 h B l p):h0.le h:=by obtain⟨D,h1,h2⟩:=ho;exact Ja h1 h2.dT
def OL.len(ho:OL h0 h B l p):l.len=p.length:=ho.pl.len
def OD.nil:OD h h B zd []:=⟨[],Own.nil (Jf _),⟨rfl,λk h1 _=>by simp at h1⟩⟩
def OD.get{i:Int}{K:Bool->Sl->Bool->Sl->Prop}(k:Nat)(hp:OD D h B l p)(hi:i=k)(hk:k<p.length)
 (H:∀x:aC,NR D x p[k]->BR B p[k]->K x.num.neg x.num.ah x.den.neg x.den.ah) :
 zi l i 4 λa=>aB .bool (a.add 0) (λx0=>aB .sl (a.add 1) (λx1=>aB .bool (a.add 2) (λx2=>aB .sl (a.add 3) (λx3=>K x0 x1 x2 x3) h) h) h) h:=by
 obtain⟨xs,h1,h2⟩:=hp;have bP:k<xs.length:=by rw[h2.1];exact hk
 have:=h2.2 k bP hk;exact HA k h1.rd hi bP (H _ this.1 this.2)
def OD.set{i:Int}{K:Hp->Prop}{x:aC}{v:Rat}(k:Nat)(hp:OD D h B l p)(hi:i=k)(hk:k<p.length)(hx:NR D x v)(bx:BR B v)
 (H:∀h',OD D h' B l (p.set k v)->(∀j,(∀a,l.a=some a->j≠a.block)->h' j=h j)->K h') :
 zi l i 4 λa=>bD a [.bool x.num.neg,.slice x.num.ah.a x.num.ah.len x.num.ah.cap,.bool x.den.neg,.slice x.den.ah.a x.den.ah.len x.den.ah.cap] K h:=by
 obtain⟨xs,h1,h2⟩:=hp;exact Ma qu zD k h1 hi (by rw[h2.1];exact hk) (zZ x) λh' g1 g2=>H h' ⟨_,g1,h2.set hx bx⟩ g2
def OD.call{α:Type}{G:(α->Hp->Prop)->Hp->Prop}{K1 K:α->Hp->Prop}(hp:OD D h B l p)(H:za G K1 D)
 (k:∀v D' h',D.le D'->OD D' h' B l p->K1 v D'->K v h'):za G K h:=by
 obtain⟨xs,h1,h2⟩:=hp;exact h1.call H λv D' h' g1 g2 g3=>k v D' h' g1 ⟨_,g2,h2.le g1⟩ g3
def OD.app{Ks:Sl->Hp->Prop}{x:aC}{v:Rat}(hp:OD D h B l p)(hlen:p.length<=1000000000000)(hx:NR D x v)(bx:BR B v)(H:∀y h',OD D h' B y (p++[v])->Ks y h') :
 Qg 4 64 [.bool false,zN,.bool false,zN] l 1 [.bool x.num.neg,.slice x.num.ah.a x.num.ah.len x.num.ah.cap,.bool x.den.neg,.slice x.den.ah.a x.den.ah.len x.den.ah.cap] Ks h:=by
 have hl:=hp.len;obtain⟨xs,h1,h2⟩:=hp;refine pW h1 (n:=1) (new:=qc x) rfl rfl rfl zO zO λy h' hy va=>H y h' ⟨xs++[x],?_,?_⟩
 . rw[List.flatMap_append];simp only[T3,List.flatMap_nil,List.append_nil];exact hy
 . refine⟨by simp[h2.1],λk k1 k2=>?_⟩;have bH:=h2.1;rcases Jx k xs.length with h3 | h3
   . rw[J2 h3,J2 zO];exact h2.2 k h3 zO
   . have h4:k=xs.length:=by simp at k1;omega
     subst h4;rw[J3 (Jd _),J3 zO];simp only[Py,Ud];have:xs.length-p.length=0:=zO;simp only[this,Ud];exact⟨hx,bx⟩
end
end Den
end

section
namespace Pq
def sm(n:Nat)(f:Nat->Rat):Rat:=match n with | 0=>0 | n+1=>sm n f+f n
def iA{f:Nat->Rat}:sm 0 f=0:=rfl
def dc{n:Nat}{f:Nat->Rat}:sm (n+1) f=sm n f+f n:=rfl
def cG{n:Nat}{f g:Nat->Rat}(h:∀i,i<n->f i=g i):sm n f=sm n g:=by
 induction n with
 | zero=>rfl
 | succ n ih=>rw[dc,dc,ih (λi hi=>h i zO),h n zO]
def mR{n:Nat}{f g:Nat->Rat}:sm n (λi=>f i+g i)=sm n f+sm n g:=by
 induction n with
 | zero=>simp only[iA];grind
 | succ n ih=>simp only[dc,ih];grind
def rL{n:Nat}{f:Nat->Rat}{c:Rat}:sm n (λi=>c*f i)=c*sm n f:=by
 induction n with
 | zero=>simp only[iA];grind
 | succ n ih=>simp only[dc,ih];grind
def fU{n:Nat}{f:Nat->Rat}(h:∀i,i<n->f i=0):sm n f=0:=by
 induction n with
 | zero=>rfl
 | succ n ih=>rw[dc,ih (λi hi=>h i zO),h n zO];grind
def jJ{n:Nat}{f:Nat->Rat}:sm (n+1) f=f 0+sm n (λi=>f (i+1)):=by
 induction n with
 | zero=>simp only[dc,iA];grind
 | succ n ih=>rw[dc,ih,dc];grind
def HC{n:Nat}{f:Nat->Rat}:sm n f=sm n (λi=>f (n-1-i)):=by
 induction n with
 | zero=>rfl
 | succ n ih=>
   rw[dc,jJ (f:=λi=>f (n+1-1-i)),ih];have e:sm n (λi=>f (n-1-i))=sm n (λi=>f (n+1-1-(i+1))):=cG λi hi=>by congr 1;omega
   rw[e];have e2:n+1-1-0=n:=zO;rw[e2];grind
def kn{n k:Nat}{f:Nat->Rat}(hk:k<n)(h:∀i,i<n->i≠k->f i=0):sm n f=f k:=by
 induction n with
 | zero=>omega
 | succ n ih=>
   rw[dc];by_cases h1:k=n
   . subst h1;rw[fU λi hi=>h i zO zO];grind
   rw[ih zO (λi hi h2=>h i zO h2),h n zO zO];grind
def co(p:List Rat)(i:Nat):Rat:=p.getD i 0
def mS{i:Nat}:co [] i=0:=rfl
def fh{c:Rat}{p:List Rat}:co (c :: p) 0=c:=rfl
def bK{c:Rat}{p:List Rat}{i:Nat}:co (c :: p) (i+1)=co p i:=rfl
def eC{p:List Rat}{i:Nat}(h:p.length<=i):co p i=0:=by
 unfold co;rw[Uj,G3 h];rfl
def dM{p:List Rat}{i:Nat}(h:i<p.length):co p i=p[i]:=by
 unfold co;rw[Uj,Jp h];rfl
def sM{p:List Rat}{n i:Nat}:co (p.take n) i=if i<n then co p i else 0:=by
 unfold co;rw[Uj,Uj,Lp];split<;>rfl
def rM{p:List Rat}{k i:Nat}{c:Rat}(hk:k<p.length):co (p.set k c) i=if i=k then c else co p i:=by
 unfold co;rw[Uj,Uj,List.getElem?_set];by_cases h:k=i;subst h;rw[if_pos rfl,if_pos rfl,if_pos hk];rfl;rw[if_neg h,if_neg (λhh=>h hh.symm)]
def iB{n i:Nat}:co (Jl n 0) i=0:=by
 unfold co;rw[Uj,List.getElem?_replicate];split<;>rfl
def wV{f:Rat->Rat}(h0:f 0=0){p:List Rat}{i:Nat}:co (p.map f) i=f (co p i):=by
 unfold co;rw[Uj,Uj,List.getElem?_map];cases p[i]? with
 | none=>exact h0.symm
 | some x=>rfl
def nf(p:List Rat):Prop:=p=[]\/co p (p.length-1)≠0
def rN{p:List Rat}{n:Nat}(hp:nf p)(h:∀i,n<=i->co p i=0):p.length<=n:=by
 rcases hp with rfl | hp
 simp;refine P9 λhh=>hp (h _ zO)
def mT{p:List Rat}(hp:nf p)(h:p≠[]):co p (p.length-1)≠0:=by
 rcases hp with h1 | h1
 exact absurd h1 h;exact h1
def wW{p q:List Rat}(hp:nf p)(hq:nf q)(h:∀i,co p i=co q i):p=q:=by
 have h1:p.length<=q.length:=rN hp λi hi=>by rw[h,eC hi]
 have h2:q.length<=p.length:=rN hq λi hi=>by rw[<-h,eC hi]
 refine List.ext_getElem zO λi h3 h4=>?_
 rw[<-dM h3,<-dM h4,h]
def BF{p:List Rat}{n:Nat}(hn:n<=p.length)(h:n=0\/co p (n-1)≠0):nf (p.take n):=by
 rcases Gs n with h0 | h0
 subst h0;exact .inl rfl
 . right;rw[Jk,Gh hn,sM,if_pos zO];rcases h with h | h
   omega;exact h
def trim:List Rat->List Rat
 | []=>[]
 | c :: r=>match trim r with
   | []=>if c=0 then []else [c]
   | d :: t=>c :: d :: t
def bA:∀{p:List Rat} {i:Nat},co (trim p) i=co p i
 | [],_=>rfl
 | c :: r,i=>by
   have ih:∀j,co (trim r) j=co r j:=λj=>bA
   unfold trim;split
   . rename_i h;rw[h]at ih;have h0:∀j,co r j=0:=λj=>(ih j).symm
     split
     . rename_i hc;cases i with
       | zero=>rw[fh,hc];rfl
       | succ i=>rw[bK,h0];rfl
     . cases i with
       | zero=>rfl
       | succ i=>rw[bK,bK,h0];rfl
   . rename_i d t h;cases i with
     | zero=>rfl
     | succ i=>rw[bK,bK,<-h];exact ih i
def dx:∀{p:List Rat},nf (trim p)
 | []=>.inl rfl
 | c :: r=>by
   have ih:nf (trim r):=dx;unfold trim;split
   . split;exact .inl rfl;rename_i h;exact .inr h
   . rename_i d t h;rw[h]at ih;have h3:=mT ih zS;have e1:(d :: t).length-1=t.length:=zS;have e2:(c :: d :: t).length-1=t.length+1:=zS;right;rw[e1]at h3;rw[e2];exact h3
def jI{p r:List Rat}(hr:nf r)(h:∀i,co r i=co p i):r=trim p:=wW hr dx λi=>by rw[h,bA]
def gk{p:List Rat}(hp:nf p):trim p=p:=(jI hp λ_=>rfl).symm
def cF{p:List Rat}:(trim p).length<=p.length:=rN dx λi hi=>by rw[bA,eC hi]
def conv(f g:Nat->Rat)(n:Nat):Rat:=sm (n+1) λi=>f i*g (n-i)
def di{f g:Nat->Rat}{n:Nat}:conv f g n=conv g f n:=by
 unfold conv;rw[HC];refine cG λi hi=>?_
 have e1:n+1-1-i=n-i:=zO;have e2:n-(n-i)=i:=zO;rw[e1,e2,Rat.mul_comm]
def pq{f g k:Nat->Rat}{n:Nat}:conv f (λi=>g i+k i) n=conv f g n+conv f k n:=by
 unfold conv;rw[<-mR];exact cG λi _=>by grind
def ko{f g f' g':Nat->Rat}{n:Nat}(h1:∀i,f i=f' i)(h2:∀i,g i=g' i):conv f g n=conv f' g' n:=by
 unfold conv;exact cG λi _=>by rw[h1,h2]
def iC{f g:Nat->Rat}{a b n:Nat}(h1:∀i,a<=i->f i=0)(h2:∀i,b<=i->g i=0)(hn:a+b<=n+1):conv f g n=0:=by
 unfold conv;refine fU λi hi=>?_
 by_cases h3:a<=i;rw[h1 i h3];grind;rw[h2 (n-i) zO];grind
def pt{f g:Nat->Rat}{a b:Nat}(h1:∀i,a<i->f i=0)(h2:∀i,b<i->g i=0):conv f g (a+b)=f a*g b:=by
 unfold conv;rw[kn (k:=a) zO λi hi h3=>?_];congr 2;omega
 . by_cases h4:a<i;rw[h1 i h4];grind;rw[h2 (a+b-i) zO];grind
end Pq
end

section
namespace Pq
def BG(f:Nat->Rat)(n:Nat):Rat:=((n+1:Nat):Rat)*f (n+1)
def rO{n i:Nat}(h:i<=n):((n:Nat):Rat)=((i:Nat):Rat)+((n-i:Nat):Rat):=by
 rw[<-Rat.natCast_add];congr 1;omega
def wX{f g:Nat->Rat}{n:Nat}:BG (conv f g) n=conv (BG f) g n+conv f (BG g) n:=by
 unfold BG;have e1:((n+1:Nat):Rat)*conv f g (n+1)=sm (n+2) (λi=>(((i:Nat):Rat)*f i)*g (n+1-i))+sm (n+2) (λi=>f i*(((n+1-i:Nat):Rat)*g (n+1-i))):=by
  unfold conv;rw[<-rL,<-mR];refine cG λi hi=>?_
  rw[rO (show i<=n+1 by omega)];grind
 have e2:sm (n+2) (λi=>(((i:Nat):Rat)*f i)*g (n+1-i))=conv (λn=>((n+1:Nat):Rat)*f (n+1)) g n:=by
  rw[jJ];unfold conv;have h0:((0:Nat):Rat)=0:=rfl;rw[h0,Po,Po,Rat.zero_add];refine cG λi hi=>?_
  have:n+1-(i+1)=n-i:=zO;rw[this]
 have e3:sm (n+2) (λi=>f i*(((n+1-i:Nat):Rat)*g (n+1-i)))=conv f (λn=>((n+1:Nat):Rat)*g (n+1)) n:=by
  rw[dc];unfold conv;have h0:n+1-(n+1)=0:=zO;have h1:((0:Nat):Rat)=0:=rfl;rw[h0,h1,Po,Rat.mul_zero,Rat.add_zero];refine cG λi hi=>?_
  have:n+1-i=n-i+1:=zO;rw[this]
 rw[e1,e2,e3]
def jx:List Rat->List Rat->List Rat
 | [],q=>q
 | p,[]=>p
 | a :: p,b :: q=>(a+b) :: jx p q
def mulL:List Rat->List Rat->List Rat
 | [],_=>[]
 | c :: r,q=>jx (q.map (c*·)) (0 :: mulL r q)
def ev:List Rat->Rat->Rat
 | [],_=>0
 | c :: r,x=>c+ev r x*x
def jK:∀{p q:List Rat} {i:Nat},co (jx p q) i=co p i+co q i
 | [],q,i=>by rw[jx,mS,Rat.zero_add]
 | a :: p,[],i=>by rw[jx,mS,Rat.add_zero];simp
 | a :: p,b :: q,0=>rfl
 | a :: p,b :: q,i+1=>by rw[jx,bK,bK,bK];exact jK
def uf{c:Rat}{r:List Rat}{g:Nat->Rat}{n:Nat}:conv (co (c :: r)) g n=c*g n+(match n with | 0=>0 | n+1=>conv (co r) g n):=by
 unfold conv;rw[jJ];cases n with
 | zero=>simp only[iA];rw[fh]
 | succ n=>
   simp only[fh,bK,Nat.sub_zero];congr 1;refine cG λi hi=>?_
   have:n+1-(i+1)=n-i:=zO;rw[this]
def px{g:Nat->Rat}{n:Nat}:conv (co []) g n=0:=fU λi _=>by rw[mS,Po]
def sN:∀{p q:List Rat} {n:Nat},co (mulL p q) n=conv (co p) (co q) n
 | [],q,n=>by rw[mulL,px];rfl
 | c :: r,q,n=>by
   rw[mulL,jK,uf,wV (f:=(c*·)) (Rat.mul_zero c)];congr 1;cases n with
   | zero=>rfl
   | succ n=>rw[bK];exact sN
def BH{p:List Rat}{i:Nat}(hi:i<p.length)(x:Rat):ev (p.drop i) x=p[i]+ev (p.drop (i+1)) x*x:=by
 rw[Uf hi];rfl
def wY{f:Nat->Rat}:∀{n:Nat},(∀i,n<=i->f i=0)->(∀i,f i=0)\/∃k,k<n/\f k≠0/\∀i,k<i->f i=0
 | 0,h=>.inl λi=>h i (Jt _)
 | n+1,h=>by
   by_cases h0:f n=0
   . rcases wY (f:=f) (n:=n) λi hi=>by
      rcases Jx n i with h1 | h1
      exact h i h1
      . have:i=n:=zO;subst this;exact h0 with h2 | ⟨k,h2,h3⟩
     exact .inl h2;exact .inr ⟨k,zO,h3⟩
   exact .inr ⟨n,zO,h0,λi hi=>h i hi⟩
def rP{q q' b r r':Nat->Rat}{d n:Nat}(hb:b d≠0)(je:∀i,d<i->b i=0)(hq:∀i,n<=i->q i=0)(Aa:∀i,n<=i->q' i=0)
 (hr:∀i,d<=i->r i=0) (vd:∀i,d<=i->r' i=0) (h:∀i,conv q b i+r i=conv q' b i+r' i):(∀i,q i=q' i)/\∀i,r i=r' i:=by
 have hs:∀i,conv b (λi=>q i+(-1)*q' i) i=r' i-r i:=λi=>by
  have e:conv b (λi=>(-1)*q' i) i=(-1)*conv b q' i:=by
   unfold conv;rw[<-rL];exact cG λi _=>by grind
  have:=h i;rw[di (f:=q),di (f:=q')]at this;rw[pq,e];grind
 rcases wY (f:=λi=>q i+(-1)*q' i) (n:=n) λi hi=>by rw[hq i hi,Aa i hi];grind with h0 | ⟨k,_,h1,h2⟩
 . have hqq:∀i,q i=q' i:=λi=>by have:=h0 i;grind
   refine⟨hqq,λi=>?_⟩;have:=h i;rw[ko (g:=b) hqq (λ_=>rfl)]at this;grind
 . exfalso;have e:=pt (f:=b) (g:=λi=>q i+(-1)*q' i) (a:=d) (b:=k) je h2;rw[hs,vd _ zO,hr _ zO]at e;have e2:b d*(q k+(-1)*q' k)=0:=by rw[<-e];grind
   rcases Rat.mul_eq_zero.1 e2 with h3 | h3
   exact hb h3;exact h1 h3
end Pq
end

section
namespace Pq
def Prim(u:List Int)(p:List Rat):Prop:=
 u.length=p.length/\(∃t:Rat,t≠0/\∀i (h1:i<u.length) (h2:i<p.length),((u[i]:Int):Rat)=t*p[i])/\(∀k:Nat,(∀x∈u,(k:Int) ∣ x)->k=1)/\∀h:u≠[],0<u.getLast h
def py(x:Rat):((x.num:Int):Rat)/((x.den:Nat):Rat)=x:=by
 conv=>rhs;rw[<-P4 x,Rat.divInt_eq_div]
 rfl
def int_inj{a b:Int}(h:((a:Int):Rat)=((b:Int):Rat)):a=b:=Rat.intCast_inj.1 h
def Prim.scale{u:List Int}{p q:List Rat}{c:Rat}(hu:Prim u p)(hc:c≠0)(hl:q.length=p.length)(h:∀i (h1:i<q.length) (h2:i<p.length),q[i]=c*p[i]):Prim u q:=by
 obtain⟨l1,⟨t,t0,h1⟩,g1,p1⟩:=hu;refine⟨zO,⟨t/c,?_,λi a b=>?_⟩,g1,p1⟩
 . intro hh;refine t0 ?_;have:t=t/c*c:=(Tr hc).symm;rw[this,hh];grind
 . rw[h i b zO,h1 i a zO];have:t=t/c*c:=(Tr hc).symm
   grind
def fi(m:Nat):List Rat->Nat
 | []=>m
 | x :: r=>fi (m*(x.den/Uq m x.den)) r
def iY:∀{l:List Rat} {m:Nat},0<m->0<fi m l/\m ∣ fi m l/\∀x∈l,x.den ∣ fi m l
 | [],m,hm=>⟨hm,Nat.dvd_refl _,λx hx=>by simp at hx⟩
 | x :: r,m,hm=>by
   have hd:=x.den_pos;have hg:0<Uq m x.den:=Nat.gcd_pos_of_pos_left _ hm;have h1:0<x.den/Uq m x.den:=Nat.div_pos (Pu hd (Gu _ _)) hg;obtain⟨a,b,c⟩:=iY (l:=r) (m:=m*(x.den/Uq m x.den)) (Nat.mul_pos hm h1);refine⟨a,Tz (Nat.dvd_mul_right _ _) b,λy hy=>?_⟩;rcases List.mem_cons.1 hy with rfl | hy
   . refine Tz ?_ b;obtain⟨k,hk⟩:=Pa m y.den;have h2:Uq m y.den*(y.den/Uq m y.den)=y.den:=Nat.mul_div_cancel' (Gu _ _);refine⟨k,?_⟩
     calc m*(y.den/Uq m y.den)=(Uq m y.den*k)*(y.den/Uq m y.den):=by rw[<-hk]
      _=(Uq m y.den*(y.den/Uq m y.den))*k:=by rw[J6,J4 k,<-J6]
      _=y.den*k:=by rw[h2]
   exact c y hy
def jl{x:Rat}:∀{l:List Rat} {m:Nat},fi m (l++[x])=fi m l*(x.den/Uq (fi m l) x.den)
 | [],m=>rfl
 | y :: r,m=>by rw[List.cons_append,fi,jl];rfl
def Mb(L:Nat)(p:List Rat):List Int:=p.map λx=>x.num*((L/x.den:Nat):Int)
def BI{L:Nat}{x:Rat}(h:x.den ∣ L):((x.num*((L/x.den:Nat):Int):Int):Rat)=(L:Rat)*x:=by
 obtain⟨k,rfl⟩:=h;have hd:=x.den_pos;rw[Nat.mul_div_cancel_left _ hd,Rat.intCast_mul];have e7:((k:Int):Rat)=((k:Nat):Rat):=rfl;have e6:((x.den:Nat):Rat)≠0:=by
  intro hh;have:(x.den:Nat)=0:=by exact_mod_cast hh
  omega
 have e5:x*((x.den:Nat):Rat)=((x.num:Int):Rat):=by
  have:=py x
  calc x*((x.den:Nat):Rat)=(((x.num:Int):Rat)/((x.den:Nat):Rat))*((x.den:Nat):Rat):=by rw[this]
   _=((x.num:Int):Rat):=Tr e6
 rw[e7,Rat.natCast_mul,<-e5]
 grind
def fj(g:Nat):List Int->Nat
 | []=>g
 | x :: r=>fj (Uq g x.natAbs) r
def jm{x:Int}:∀{l:List Int} {g:Nat},fj g (l++[x])=Uq (fj g l) x.natAbs
 | [],g=>rfl
 | y :: r,g=>by rw[List.cons_append,fj,jm];rfl
def fV:∀{l:List Int} {g:Nat},fj g l ∣ g/\∀x∈l,((fj g l:Nat):Int) ∣ x
 | [],g=>⟨Nat.dvd_refl _,λx hx=>by simp at hx⟩
 | y :: r,g=>by
   obtain⟨a,b⟩:=fV (l:=r) (g:=Uq g y.natAbs);refine⟨Tz a (Pa _ _),λx hx=>?_⟩;rcases List.mem_cons.1 hx with rfl | hx
   exact Int.ofNat_dvd_left.2 (Tz a (Gu _ _));exact b x hx
def pz{k:Nat}:∀{l:List Int} {g:Nat},k ∣ g->(∀x∈l,(k:Int) ∣ x)->k ∣ fj g l
 | [],g,h,_=>h
 | y :: r,g,h,hl=>pz (l:=r) (Nat.dvd_gcd h (Int.ofNat_dvd_left.1 (hl y zS))) λx hx=>hl x (by simp[hx])
def BJ{p:List Rat}{L:Nat}{o:List Int}{d:Int}(hp:p≠[])(hL:0<L)(ho:o.length=p.length)(hv:∀i (h1:i<o.length) (h2:i<p.length),((o[i]:Int):Rat)=(L:Rat)*p[i])
 (hd:d.natAbs=fj 0 o) (hs:∀h:o≠[],0<o.getLast h*d):Prim (o.map (·/d)) p:=by
 have ho0:o≠[]:=Gw.1 (by rw[ho];exact Gw.2 hp);have uU:=hs ho0;have ug:d≠0:=λhh=>by rw[hh,Int.mul_zero]at uU;omega
 have HD:∀x∈o,d ∣ x:=λx hx=>by
  have:=(fV (l:=o) (g:=0)).2 x hx;rw[<-hd]at this;exact Int.natAbs_dvd.1 this
 have hdq:((d:Int):Rat)≠0:=λhh=>ug (int_inj (b:=0) hh)
 refine⟨by simp[ho],⟨(L:Rat)/((d:Int):Rat),?_,λi h1 h2=>?_⟩,λk hk=>?_,λh=>?_⟩
 . intro hh;have e:(L:Rat)=(L:Rat)/((d:Int):Rat)*((d:Int):Rat):=(Tr hdq).symm;rw[hh,Po]at e;have:(L:Nat)=0:=by exact_mod_cast e
   omega
 . rw[List.length_map]at h1;rw[List.getElem_map];obtain⟨c,hc⟩:=HD _ (List.getElem_mem h1);have qC:=hv i h1 h2;rw[hc,Rat.intCast_mul]at qC;rw[hc,Ux _ ug];have e:(L:Rat)=(L:Rat)/((d:Int):Rat)*((d:Int):Rat):=(Tr hdq).symm;have e2:((d:Int):Rat)*((c:Int):Rat)=((d:Int):Rat)*((L:Rat)/((d:Int):Rat)*p[i]):=by rw[qC];grind
   have e3:((d:Int):Rat)*(((c:Int):Rat)-((L:Rat)/((d:Int):Rat)*p[i]))=0:=by grind
   rcases Rat.mul_eq_zero.1 e3 with h5 | h5
   exact absurd h5 hdq
   grind
 . have h1:k*d.natAbs ∣ fj 0 o:=pz (Nat.dvd_zero _) λx hx=>by
    obtain⟨c,hc⟩:=HD x hx;have h2:=hk (x/d) (List.mem_map.2 ⟨x,hx,rfl⟩);rw[hc,Ux _ ug]at h2;refine Int.ofNat_dvd_left.2 ?_;rw[hc,Gf,J4];exact Nat.mul_dvd_mul_left _ (Int.ofNat_dvd_left.1 h2)
   rw[<-hd]at h1;have h3:0<d.natAbs:=Int.natAbs_pos.2 ug;have h4:=Pu h3 h1;have h5:k≠0:=λhh=>by
    rw[hh,Pm]at h1;have:=Nat.eq_zero_of_zero_dvd h1;omega
   rcases Jx k 2 with h6 | h6
   omega
   . have:=Jm d.natAbs h6;omega
 . rw[List.getLast_map];obtain⟨c,hc⟩:=HD _ (List.getLast_mem ho0);rw[hc]at uU |-
   rw[Ux _ ug];have h5:d*c*d=c*(d*d):=by rw[Pw d c,Tq]
   rw[h5]at uU;have h6:0<=d*d:=by
    rcases Int.le_total 0 d with h7 | h7
    exact Int.mul_nonneg h7 h7;exact Int.mul_nonneg_of_nonpos_of_nonpos h7 h7
   rcases Int.lt_or_le 0 c with h7 | h7
   exact h7
   . have:=Int.mul_nonpos_of_nonpos_of_nonneg h7 h6;omega
end Pq
end

section
namespace Den
open Go Iv
section
variable {B:Nat}
def QL.nil:QL h B [] []:=⟨rfl,λk h1 _=>by simp at h1⟩
def QL.cons{x:aC}{v:Rat}(h1:NR h x v)(h2:BR B v)(hq:QL h B xs vs):QL h B (x :: xs) (v :: vs):=by
 refine⟨by simp[hq.1],λk k1 k2=>?_⟩;cases k with
 | zero=>exact⟨h1,h2⟩
 | succ k=>
   simp only[List.getElem_cons_succ];exact hq.2 k (by simpa using k1) (by simpa using k2)
def QL.snoc{x:aC}{v:Rat}(hq:QL h B xs vs)(h1:NR h x v)(h2:BR B v):QL h B (xs++[x]) (vs++[v]):=by
 refine⟨by simp[hq.1],λk k1 k2=>?_⟩;have hl:=hq.1;rcases Jx k xs.length with h3 | h3
 . rw[J2 h3,J2 zO];exact hq.2 k h3 zO
 . have h4:k=xs.length:=by simp at k1;omega
   subst h4;rw[J3 (Jd _),J3 zO];simp only[Py,Ud];have:xs.length-vs.length=0:=zO;simp only[this,Ud];exact⟨h1,h2⟩
def Mc{K:Addr->Hp->Prop}(n:Nat)(hn:xs.length=n)(H:∀a h',h.le h'->qH h' ⟨some a,n,n⟩ xs->K a h'):Ys (xs.flatMap qc) K h:=
 Qv (n:=n) (size:=4) (by rw[yr qu,hn]) λb h' hb ho=>H _ h' ho.1 ho.rd
end
end Den
end

section
namespace Iv
open Den
def lo4(a b c d:Rat):Rat:=[b,c,d].foldl sK a
def yP(a b c d:Rat):Rat:=[b,c,d].foldl ue a
end Iv
namespace Den
open Go Iv
section
variable {a b:aH}{x:aC}{p al au bl bu:Rat}
def Zbd(ha:NV h a al au)(hb:NV h b bl bu)(b1:BR j al)(b2:BR j au)(b3:BR k bl)(b4:BR k bu)(hj:j<=100000000000)(hk:k<=100000000000)
 (H:∀z h',h.le h'->NV h' z (lo4 (al*bl) (al*bu) (au*bl) (au*bu)) (yP (al*bl) (al*bu) (au*bl) (au*bu))->KV z h'):za (F.z9o a b) KV h:=by
 refine zb _ (λK' hk=>?_) H;unfold F.z9o;refine wR ha.1 hb.1 b1 b3 zO zO λr1 h1 aP eF=>?_
 refine wR (ha.1.le aP) (hb.2.le aP) b1 b4 zO zO λr2 h2 bH ei=>?_
 have pn:=Ja aP bH;refine wR (ha.2.le pn) (hb.1.le pn) b2 b3 zO zO λr3 h3 bj nE=>?_
 have ud:=Ja pn bj;refine wR (ha.2.le ud) (hb.2.le ud) b2 b4 zO zO λr4 h4 cf hr4=>?_
 refine Mc (xs:=[r1,r2,r3,r4]) 4 rfl λp5 h5 cj Md=>?_
 have HE:=Ja cf cj;have iW:=Ja bj HE;refine ztu (B:=j+k) (v0:=al*bl) (vs:=[al*bu,au*bl,au*bu]) Md (QL.cons (eF.le (Ja bH iW)) (b1.mul b3) (QL.cons (ei.le iW) (b1.mul b4) (QL.cons (nE.le HE) (b2.mul b3) (QL.cons (hr4.le cj) (b2.mul b4) QL.nil)))) zO zS (Jd _) λz h6 db hz=>hk _ _ (Ja ud (Ja HE db)) hz
def Zbc(ha:NV h a al au)(hb:NV h b bl bu)(b1:BR j al)(b2:BR j au)(b3:BR k bl)(b4:BR k bu)(hj:j<=100000000000)(hk:k<=100000000000)
 (H:∀z h',h.le h'->NV h' z (al+bl) (au+bu)->KV z h'):za (F.z9n a b) KV h:=by
 refine zb _ (λK' hk=>?_) H;unfold F.z9n;refine zX ha.1 hb.1 b1 b3 zO zO λr1 h1 aP eF=>?_
 exact zX (ha.2.le aP) (hb.2.le aP) b2 b4 zO zO λr2 h2 bH ei=>hk _ _ (Ja aP bH) ⟨eF.le bH,ei⟩
def zzi(ha:NV h a al au)(b1:BR j al)(b2:BR j au)(hj:j<=100000000000)(H:∀z h',h.le h'->NR h' z (au-al)->KR z h'):za (F.z6w a) KR h:=by
 refine zb _ (λK' hk=>?_) H;unfold F.z6w;exact zmo ha.2 ha.1 b2 b1 zO zO λr1 h1 aP eF=>hk _ _ aP eF
def zzh(hx:NR h x p)(b1:BR j p)(hj:j<=300000000000)(H:∀z h',h.le h'->NV h' z p p->KV z h'):za (F.z6v x) KV h:=by
 refine zb _ (λK' hk=>?_) H;unfold F.z6v;refine Mc (xs:=[x,x]) 2 rfl λp5 h5 cj Md=>?_
 refine ztu (B:=j) (v0:=p) (vs:=[p]) Md (QL.cons (hx.le cj) b1 (QL.cons (hx.le cj) b1 QL.nil)) zO zS (Jd _) λz h6 db hz=>hk _ _ (Ja cj db) ?_
 have e1:[p].foldl sK p=p:=by simp[sK]
 have e2:[p].foldl ue p=p:=by simp[ue]
 rw[e1,e2]at hz;exact hz
def Z2n:BR 1 ((1:Int):Rat):=⟨by unfold Lt;decide,by unfold Lt;decide⟩
end
end Den
end

section
namespace Iv
open Den
end Iv
end

section
namespace Den
open Go Iv
section
end
end Den
end

section
namespace Iv
end Iv
namespace Den
open Go Iv
section
end
end Den
end

section
namespace Den
open Go Iv
def AI(h:Hp)(a:aE):Prop:=∃l,aL h a.ah l/\aX l
def AR(h:Hp)(x:aC):Prop:=AI h x.num/\AI h x.den
def AI.le{h h':Hp}{a:aE}(ha:AI h a)(hl:h.le h'):AI h' a:=by obtain⟨l,h1,h2⟩:=ha;exact⟨l,h1.le hl,h2⟩
def AR.le{h h':Hp}{x:aC}(hx:AR h x)(hl:h.le h'):AR h' x:=⟨hx.1.le hl,hx.2.le hl⟩
def Znm:∀{l m:List Nat},wc l=wc m->l=m
 | [],[],_=>rfl
 | [],_ :: _,h=>by simp[wc]at h
 | _ :: _,[],h=>by simp[wc]at h
 | x :: r,y :: t,h=>by
   simp only[wc,List.map_cons,List.cons.injEq,Value.int.injEq,true_and]at h;rw[Znm (l:=r) (m:=t) h.2,show x=y by omega]
def aL.uniq{h:Hp}{x:Sl}{l m:List Nat}(h1:aL h x l)(h2:aL h x m):l=m:=by
 have a1:=h1.1;have a2:=h2.1;have e:(wc l).length=(wc m).length:=by rw[<-a1.1,<-a2.1]
 have b1:=a1.2;have b2:=a2.2;rw[e,b2]at b1;exact(Znm (Gg b1)).symm
def NI.inj{h:Hp}{a:aE}{m n:Int}(h1:NI h a m)(h2:NI h a n):m=n:=by
 have e:=Zds (h1.1.uniq h2.1);have e2:decide (m<0)=decide (n<0):=by rw[<-h1.2,<-h2.2]
 have e3:m<0↔n<0:=by simpa using e2
 omega
def Zcr{h:Hp}{a:aE}{l:List Nat}(hr:aL h a.ah l)(ok:aX l):(∃n,NI h a n)↔Q1 l=l/\(a.neg=true->l≠[]):=by
 constructor
 . rintro⟨n,hn⟩;have e:=hr.uniq hn.1;subst e;refine⟨zxv _,λgS he=>?_⟩;rw[hn.2]at gS;have h1:n<0:=by simpa using gS
   have:=sH.1 he;omega
 . rintro⟨h1,h2⟩;have e:=Zat ok h1;refine⟨sg a.neg (vl l),?_,?_⟩;rw[Bn,<-e];exact hr
   . cases hb:a.neg with
     | false=>simp[sg]
     | true=>
       have h3:=h2 hb;have h4:vl l≠0:=λh0=>h3 (by rw[e,h0,qe])
       simp[sg];omega
def Zcs{h:Hp}{x:aC}{m n:Int}(h1:NI h x.num m)(h2:NI h x.den n):(∃q,NR h x q)↔0<n/\Uq m.natAbs n.natAbs=1:=by
 constructor
 . rintro⟨q,hq⟩;have e1:=h1.inj hq.1;have e2:=h2.inj hq.2;subst e1 e2;exact⟨Zyd q,by rw[Ht];exact q.reduced⟩
 . rintro⟨h3,h4⟩;have hnn:n.toNat=n.natAbs:=zO;refine⟨⟨m,n.toNat,zO,by rw[hnn];exact h4⟩,h1,?_⟩;show NI h x.den ((n.toNat:Nat):Int);rw[Int.toNat_of_nonneg zO];exact h2
section
variable {x:aC}
def znv(ha:AI h a)(hl:a.ah.len<=35184372087808)(H1:∀n,NI h a n->Kb true h)(H0:(¬∃n,NI h a n)->Kb false h):za (F.OG a) Kb h:=by
 obtain⟨l,hr,ok⟩:=ha;have ll:=hr.len;have cM:=Zcr hr ok;refine zb (λb h'=>h'=h/\(b=true/\(∃n,NI h a n)\/b=false/\¬∃n,NI h a n)) (λK' hk=>?_) λb h' _ ⟨e,hv⟩=>by
  subst e;rcases hv with ⟨rfl,n,hn⟩ | ⟨rfl,hn⟩
  exact H1 n hn;exact H0 hn
 unfold F.OG;refine Xe hr zO λy hy=>?_
 have ly:=hy.len;refine Zs (λh1=>?_) (λh1=>?_)
 . have hlen:(Q1 l).length=l.length:=zO;have ht:Q1 l=l:=by
    have:=zig l;rw[hlen,Je (Jd _)]at this;exact this
   refine Zw (λh2=>?_) (λh2=>?_)
   . refine hk _ _ (Jf _) ⟨rfl,.inl ⟨rfl,cM.2 ⟨ht,λhn=>?_⟩⟩⟩;rw[hn]at h2;cases h2
   . refine hk _ _ (Jf _) ⟨rfl,?_⟩;have gS:a.neg=true:=by simpa using h2
     by_cases h3:(a.ah.len:Int)>0;exact .inl ⟨decide_eq_true h3,cM.2 ⟨ht,λ_ he=>by rw[he]at ll;simp at ll;omega⟩⟩;refine .inr ⟨decide_eq_false h3,λhn=>(cM.1 hn).2 gS (Ju.1 zO)⟩
 . refine hk _ _ (Jf _) ⟨rfl,.inr ⟨rfl,λhn=>h1 ?_⟩⟩;have:=(cM.1 hn).1;rw[this]at ly;omega
def Zmz{l:List Nat}{n:Nat}(hn:l.length=n+1):Q1 l=l↔l[n]≠0:=by
 have e:l=l.take n++[l[n]]:=by
  have:=Jc (l:=l) (i:=n) zO;rw[Je zO]at this;exact this
 constructor
 . intro h1 h0;have h2:Q1 l=Q1 (l.take n):=by
    conv=>lhs;rw[e,h0]
    exact zhc _
   have h3:=cF (l.take n);rw[<-h2,h1,Jk]at h3;omega
 . intro h0
   conv=>lhs;rw[e]
   rw[zcl _ h0];exact e.symm
def zp2(ha:AI h a)(hl:a.ah.len<=35184372087808)(H1:∀n,NI h a n->Kb true h)(H0:(¬∃n,NI h a n)->Kb false h):za (F.OJ a) Kb h:=by
 obtain⟨l,hr,ok⟩:=ha;have ll:=hr.len;have cM:=Zcr hr ok;refine zb (λb h'=>h'=h/\(b=true/\(∃n,NI h a n)\/b=false/\¬∃n,NI h a n)) (λK' hk=>?_) λb h' _ ⟨e,hv⟩=>by
  subst e;rcases hv with ⟨rfl,n,hn⟩ | ⟨rfl,hn⟩
  exact H1 n hn;exact H0 hn
 unfold F.OJ;refine Zs (λh1=>?_) (λh1=>?_)
 . have kS:l=[]:=Ju.1 zO;refine Zw (λh2=>?_) (λh2=>?_)
   . refine hk _ _ (Jf _) ⟨rfl,.inl ⟨rfl,cM.2 ⟨by rw[kS];rfl,λhn=>?_⟩⟩⟩;rw[hn]at h2;cases h2
   . have gS:a.neg=true:=by simpa using h2
     refine zg (λh3=>by omega) (λh3=>hk _ _ (Jf _) ⟨rfl,.inr ⟨rfl,λhn=>(cM.1 hn).2 gS kS⟩⟩)
 . obtain⟨n,hn⟩:∃n,l.length=n+1:=⟨l.length-1,zO⟩;refine zg (λh3=>?_) (λh3=>by omega);refine Zq n hr (by rw[ll,hn,aM zO];omega) zO λu hu=>⟨_,hu,hk _ _ (Jf _) ⟨rfl,?_⟩⟩
   have su:=Zmz hn;by_cases h4:l[n]=0;refine .inr ⟨by rw[h4];rfl,λhh=>(su.1 (cM.1 hh).1) h4⟩;refine .inl ⟨by simp;omega,cM.2 ⟨su.2 h4,λ_ he=>by rw[he]at hn;simp at hn⟩⟩
def Me{n:Int}(ha:NI h a n)(hl:a.ah.len<=35184372087808):(dg n.natAbs).length<=35184372087808:=by have:=ha.len;omega
def zx1(hx:AR h x)(aP:x.num.ah.len<=35184372087808)(bH:x.den.ah.len<=35184372087808)(H1:∀q h',h.le h'->NR h x q->Kb true h')(H0:∀h',h.le h'->(¬∃q,NR h x q)->Kb false h'):za (F.zbx x) Kb h:=by
 refine zb (λb h'=>b=true/\(∃q,NR h x q)\/b=false/\¬∃q,NR h x q) (λK' hk=>?_) λb h' hl hv=>by
  rcases hv with ⟨rfl,n,hn⟩ | ⟨rfl,hn⟩
  exact H1 n h' hl hn;exact H0 h' hl hn
 unfold F.zbx;refine znv hx.1 aP (λm hm=>zk rfl (znv hx.2 bH (λn hn=>zk rfl ?_) (λhn=>zc rfl (hk _ _ (Jf _) (.inr ⟨rfl,λ⟨q,hq⟩=>hn ⟨_,hq.2⟩⟩))))) (λhn=>zc rfl (hk _ _ (Jf _) (.inr ⟨rfl,λ⟨q,hq⟩=>hn ⟨_,hq.1⟩⟩)));have cM:=Zcs hm hn;have s:=Yg n;refine znt hn (Me hn bH) (zg (λh1=>?_) (λh1=>hk _ _ (Jf _) (.inr ⟨rfl,λhh=>by have:=(cM.1 hh).1;omega⟩)));refine zr8 hm hn (Me hm aP) (Me hn bH) λz h2 hl hz=>LQ hz (hk _ _ hl ?_)
 by_cases h3:Uq m.natAbs n.natAbs=1;exact .inl ⟨decide_eq_true (by rw[h3];rfl),cM.2 ⟨zO,h3⟩⟩;exact .inr ⟨decide_eq_false (λhh=>h3 zO),λhh=>h3 (cM.1 hh).2⟩
def znr(hx:AR h x)(aP:x.num.ah.len<=35184372087808)(bH:x.den.ah.len<=35184372087808)(H1:∀q h',h.le h'->NR h x q->Kb true h')(H0:∀h',h.le h'->(¬∃q,NR h x q)->Kb false h'):za (F.OK x) Kb h:=by
 refine zb (λb h'=>b=true/\(∃q,NR h x q)\/b=false/\¬∃q,NR h x q) (λK' hk=>?_) λb h' hl hv=>by
  rcases hv with ⟨rfl,n,hn⟩ | ⟨rfl,hn⟩
  exact H1 n h' hl hn;exact H0 h' hl hn
 unfold F.OK;refine zp2 hx.1 aP (λm hm=>zk rfl (zp2 hx.2 bH (λn hn=>zk rfl ?_) (λhn=>zc rfl (hk _ _ (Jf _) (.inr ⟨rfl,λ⟨q,hq⟩=>hn ⟨_,hq.2⟩⟩))))) (λhn=>zc rfl (hk _ _ (Jf _) (.inr ⟨rfl,λ⟨q,hq⟩=>hn ⟨_,hq.1⟩⟩)));have cM:=Zcs hm hn;have s:=Yg n;refine zp1 hn (Me hn bH) (zg (λh1=>?_) (λh1=>hk _ _ (Jf _) (.inr ⟨rfl,λhh=>by have:=(cM.1 hh).1;omega⟩)));refine zt5 hm hn (Me hm aP) (Me hn bH) λz h2 hl hz=>LP hz (hk _ _ hl ?_)
 by_cases h3:Uq m.natAbs n.natAbs=1;exact .inl ⟨decide_eq_true (by rw[h3];rfl),cM.2 ⟨zO,h3⟩⟩;exact .inr ⟨decide_eq_false (λhh=>h3 zO),λhh=>h3 (cM.1 hh).2⟩
end
end Den
end

section
namespace Den
open Go Iv Pq
def Zd1{h:Hp}{b:Nat}{xs:List aC}{n:Nat}{el:TypeId}{K:Sl->Hp->Prop}(hb:h b=none)(hn:n=xs.length)(hlen:xs.length<=1000000000000)
 (H:∀y h',Own h h' 4 y (xs.flatMap qc)->K y h') :
 Qg 4 64 [.bool false,zN,.bool false,zN] ⟨some ⟨b,0,none⟩,0,0⟩ n (xs.flatMap qc) K (h.ins b ⟨[],el,(0,0)⟩):=by
 have ho:Own h (h.ins b ⟨[],el,(0,0)⟩) 4 ⟨some ⟨b,0,none⟩,0,0⟩ []:=⟨Hp.cH hb,rfl,Jd _,rfl,rfl,hb,_,Uy _ _ _,rfl,rfl,rfl⟩;have hl:(xs.flatMap qc).length=n*4:=by rw[yr qu,hn]
 refine pW ho hl rfl ?_ (by simp only;omega) (by simp only;omega) λy h' hy va=>H y h' ?_
 . rw[List.all_flatMap,List.all_eq_true];intro x _;exact zZ x
 simpa using hy
section
variable {B:Nat}{l:Sl}
def Xg{x:Sl}{lo hi:Int}{n:Nat}{K:Sl->Prop}(a b:Nat)(ha:lo=a)(hb:hi=b)(tI:a<=b)(hc:b<=x.cap)(H:K (x.cut a b n)):ca x lo hi n K:=by
 subst ha hb;exact⟨zO,zO,zO,H⟩
def Zyc(x:Sl)(n size:Nat)(h:n<=x.cap):(x.cut 0 n size).len=n/\(x.cut 0 n size).cap=x.cap/\(x.cut 0 n size).a=x.a:=by
 refine⟨rfl,rfl,?_⟩;show(if x.cap=0 then x.a else x.a.map (·.add (0*size)))=x.a;split;rfl
 . cases x.a with
   | none=>rfl
   | some a=>simp only[Gp,Pm,qo]
def zaq{h:Hp}{a:Addr}:∀{n m:Nat} {l:List Value},Zp h a m=some l->n<=m->Zp h a n=some (l.take n)
 | n,0,l,e,hn=>by
   have:n=0:=zO;subst this;simp[Zp]
 | n,m+1,l,e,hn=>by
   have hl:=JZ e;by_cases h1:n=m+1;subst h1;rw[e,Je zO]
   . unfold Zp at e;split at e
     . rename_i l1 h2;split at e
       . rename_i v hv;simp only[Js]at e;subst e;have h3:=JZ h2;rw[zaq h2 (show n<=m by omega),U4 zO]
       cases e
     cases e
def zhp{α:Type}{c:α->List Value}{n:Nat}(hc:∀x,(c x).length=n):∀{xs:List α} {k:Nat},(xs.flatMap c).take (k*n)=(xs.take k).flatMap c
 | [],k=>by simp
 | x :: r,0=>by simp
 | x :: r,k+1=>by
   have e1:(k+1)*n=n+k*n:=by rw[J9];omega
   rw[T3,e1,List.take_append,hc,Gz,Je (by rw[hc];omega),zhp hc];simp
def PL.cut(hp:PL h B l p){n:Nat}(hn:n<=p.length):PL h B (l.cut 0 n 4) (p.take n):=by
 have hlen:=hp.len;obtain⟨xs,h1,h2,h3⟩:=hp;have hx:=h2.1;obtain⟨c1,c2,c3⟩:=Zyc l n 4 zO;refine⟨xs.take n,⟨?_,?_⟩,h2.take,by rw[c1,c2];omega⟩;rw[c1,yr qu,Jk,Gh zO]
 . rw[c3,<-zhp qu];have hl:((xs.flatMap qc).take (n*4)).length=n*4:=by rw[Jk,yr qu];omega
   rw[hl];have h4:=h1.2;cases ha:l.a with
   | some a=>
     rw[ha]at h4;exact zaq h4 (by rw[yr qu];omega)
   | none=>
     rw[ha]at h4;simp only[Zi]at h4 |-
     split at h4
     . rename_i h5;simp only[Js]at h4;rw[yr qu]at h5;have:n=0:=zO;subst this;simp
     cases h4
def WD(hp:PL h B l p)(hlen:p.length<=1000000000000)(H:∀y h',OL h h' B y p->K y h'):za (F.Zl l) K h:=by
 refine zb (λy h'=>OL h h' B y p) (λK' hk=>?_) λy h' _ hy=>H y h' hy
 unfold F.Zl;refine Zw (λh1=>?_) (λh1=>?_)
 . have nz:p=[]:=by
    obtain⟨xs,g1,g2,g3⟩:=hp;have:=g1.2;have ha:l.a=none:=by cases hl:l.a with
     | none=>rfl
     | some a=>rw[hl]at h1;cases h1
    rw[ha]at this;simp only[Zi]at this;split at this
    . rename_i h5;rw[yr qu]at h5;have:=g2.1;exact U3 zO
    cases this
   subst nz;exact hk _ _ (Jf _) ⟨h,Jf _,OD.nil⟩
 . intro b el hb;obtain⟨xs,g1,g2,g3⟩:=hp;refine⟨xs.flatMap qc,EP (Hp.cH hb) (by rw[g1.1];exact g1.2),?_⟩;refine Zd1 hb (by rw[qH.len g1]) (by rw[g2.1];exact hlen) λy h' hy=>?_
   exact hk _ _ hy.1 ⟨h,Jf _,xs,hy,g2⟩
def Z8n{v:Rat}:v.num.sign=0↔v=0:=by rw[Int.sign_eq_zero_iff_zero,Td]
def zig{n:Nat}(hn:n<=p.length)(h0:∀i,n<=i->co p i=0)(h1:n=0\/co p (n-1)≠0):p.take n=trim p:=by
 refine Pq.jI (BF hn h1) λi=>?_
 rw[sM];split;rfl;rw[h0 i zO]
def DK(hp:PL h B l p)(hlen:p.length<=1000000000000)(hB:B<=1000000000000)(H:∀y h',OL h h' B y (trim p)->K y h'):za (F.Yn l) K h:=by
 refine zb (λy h'=>OL h h' B y (trim p)) (λK' hk=>?_) λy h' _ hy=>H y h' hy
 unfold F.Yn;have hl:=hp.len;have ie:=hp.cap;refine zj (λs h'=>h'=h/\∃n:Nat,s.1=(n:Int)/\n<=p.length/\p.take n=trim p) ?_ ?_
 . rintro⟨_,_⟩ h1 ⟨rfl,n,hn,HF,ht⟩;simp only at hn;subst hn;refine Xg 0 n rfl rfl (Jt _) zO ?_;refine WD (hp.cut HF) (by rw[Jk];omega) λy h' hy=>?_
   rw[ht]at hy;exact hk _ _ hy.hle hy
 . refine Za (λst h'=>h'=h/\∃n:Nat,st.1=(n:Int)/\n<=p.length/\∀i,n<=i->co p i=0) (λst=>st.1.toNat) ⟨rfl,p.length,by simp only;rw[hl],Jd _,λi hi=>eC hi⟩ ?_;rintro⟨_,_⟩ h1 ⟨rfl,n,hn,HF,h0⟩;simp only at hn;subst hn;refine zj (λ_ h'=>h'=h1/\0<n/\co p (n-1)=0) ?_ ?_
   . rintro _ h2 ⟨rfl,cI,hz⟩;have e:i64.wrap ((n:Int)-1)=((n-1:Nat):Int):=by rw[aM zO];omega
     refine⟨⟨rfl,n-1,e,zO,λi hi=>?_⟩,by simp only;rw[e];omega⟩;by_cases da:i=n-1;rw[da];exact hz;exact h0 i zO
   . refine zg (λh3=>?_) (λh3=>?_)
     . have cI:0<n:=zO;have e:i64.wrap ((n:Int)-1)=((n-1:Nat):Int):=by rw[aM zO];omega
       refine hp.get (n-1) e zO λx hx bx=>?_
       refine zU hx bx hB (Zs (λh4=>⟨rfl,cI,?_⟩) (λh4=>⟨rfl,n,rfl,HF,zig HF h0 (.inr ?_)⟩));rw[dM zO];exact Z8n.1 h4;rw[dM zO];exact λhh=>h4 (Z8n.2 hh)
     exact⟨rfl,n,rfl,HF,zig HF h0 (.inl zO)⟩
def zl0{Ki:Int->Hp->Prop}(hp:PL h B l p)(hlen:p.length<=1000000000000)(hB:B<=1000000000000)(H:∀h',h.le h'->Ki (((trim p).length:Int)-1) h'):za (F.V3 l) Ki h:=by
 refine zb (λr h'=>r=((trim p).length:Int)-1) (λK' hk=>?_) λr h' hl hr=>by subst hr;exact H h' hl
 unfold F.V3;refine DK hp hlen hB λy h' hy=>?_
 have:=cF (p:=p);rw[hy.len,aM zO];exact hk _ _ hy.hle rfl
end
end Den
end

section
namespace Den
open Go Iv Pq
def PL.cT{h0 h:Hp}{B:Nat}{l:Sl}{p:List Rat}{i:Int}{K:Bool->Sl->Bool->Sl->Prop}(k:Nat)(hp:PL h0 B l p)(hl:h0.le h)(hi:i=k)(hk:k<p.length)
 (H:∀x:aC,NR h0 x p[k]->BR B p[k]->K x.num.neg x.num.ah x.den.neg x.den.ah) :
 zi l i 4 λa=>aB .bool (a.add 0) (λx0=>aB .sl (a.add 1) (λx1=>aB .bool (a.add 2) (λx2=>aB .sl (a.add 3) (λx3=>K x0 x1 x2 x3) h) h) h) h:=by
 obtain⟨xs,h1,h2,h3⟩:=hp;have bP:k<xs.length:=by rw[h2.1];exact hk
 have:=h2.2 k bP hk;exact HA k (h1.le hl) hi bP (H _ this.1 this.2)
def OL.base{h h0 h1:Hp}{B:Nat}{l:Sl}{p:List Rat}(ho:OL h1 h B l p)(hl:h0.le h1):OL h0 h B l p:=by
 obtain⟨D,a,b⟩:=ho;exact⟨D,Ja hl a,b⟩
def Yj{p q:List Rat}(h:∀i,co p i=co q i):trim p=trim q:=wW dx dx λi=>by rw[bA,bA,h]
def BR.co{B:Nat}{p:List Rat}(hp:∀v∈p,BR B v)(h1:1<=B)(i:Nat):BR B (co p i):=by
 rcases Jx i p.length with h2 | h2
 rw[dM h2];exact hp _ (List.getElem_mem h2);rw[eC h2];exact Vk.mono h1
def Z8m{c:Rat}{p:List Rat}{i:Nat}:co (p.map (c*·)) i=c*co p i:=wV (f:=(c*·)) (Rat.mul_zero c)
section
def Zdi{f:Nat->Rat}{n i:Nat}:co ((List.range n).map f) i=if i<n then f i else 0:=by
 rcases Jx i n with h1 | h1
 rw[dM (by simpa using h1),if_pos h1];simp;rw[eC (by simpa using h1),if_neg zO]
def Zxy:BR 1 (((-1:Int):Rat)):=⟨by unfold Lt;decide,by unfold Lt;decide⟩
end
end Den
end

section
namespace Den
open Go Iv Pq
def Zd0{x:Nat}(hx:x<4294967296):Yw .and .u64 (x:Int) 4294967295=(x:Int):=by
 unfold Yw;simp only;have e1:Ld u64.bits (x:Int)=L8 64 x:=rfl;have e2:Ld u64.bits (4294967295:Int)=L8 64 4294967295:=rfl;rw[e1,e2];have e3:(L8 64 x &&& L8 64 4294967295).toNat=x:=by
  rw[BitVec.toNat_and,Pf,Pf,Ui zO,Ui zO];have:(4294967295:Nat)=2 ^ 32-1:=rfl;rw[this,Nat.and_two_pow_sub_one_eq_mod,Ui zO]
 have e4:u64.wrap (((L8 64 x &&& L8 64 4294967295).toNat:Nat):Int)=(x:Int):=by rw[e3,Ol zO]
 exact e4
def zwo{x:Nat}(hx:x<4294967296):((x:Int)).fdiv (2 ^ (min (32:Int).toNat u64.bits))=0:=by
 have:(2:Int) ^ (min (32:Int).toNat u64.bits)=4294967296:=zD;rw[this,Int.fdiv_eq_ediv_of_nonneg _ zD];omega
def zuw{x y:Nat}{h:Hp}{K:Int×Int->Hp->Prop}(hx:x<65536)(hy:y<65536)(H:K (0,((x*y:Nat):Int)) h):za (F.OM (x:Int) (y:Int)) K h:=by
 have jC:x*y<4294967296:=U7 (Gt (show x<=65535 by omega) (show y<=65535 by omega)) zD;refine zw _ (λK' hk=>?_) H;unfold F.OM;refine zw (0,((x*y:Nat):Int)) (λK2 aG=>?_) hk;unfold F.z99;refine⟨zD,zD,zD,zD,zD,?_⟩;have ex:((x:Nat):Int).fdiv (2 ^ (min (32:Int).toNat u64.bits))=0:=zwo zO;have ey:((y:Nat):Int).fdiv (2 ^ (min (32:Int).toNat u64.bits))=0:=zwo zO;have exy:(((x*y:Nat)):Int).fdiv (2 ^ (min (32:Int).toNat u64.bits))=0:=zwo jC;have e0:((0:Nat):Int).fdiv (2 ^ (min (32:Int).toNat u64.bits))=0:=zwo zD;have ax:=Zd0 (x:=x) zO;have ay:=Zd0 (x:=y) zO;have a0:=Zd0 (x:=0) zD;have w0:u64.wrap 0=0:=zD;have em:((x:Nat):Int)*((y:Nat):Int)=((x*y:Nat):Int):=(Ug x y).symm;have wm:u64.wrap ((x*y:Nat):Int)=((x*y:Nat):Int):=Ol zO;have c0:((0:Nat):Int)=0:=rfl;rw[c0]at e0 a0;simp only[ex,ey,ax,ay,em,wm,exy,Int.zero_mul,Int.mul_zero,Int.add_zero,w0,e0,a0];exact aG
def zT:aC:=⟨⟨false,zd⟩,⟨false,zd⟩⟩
def zwv{n:Nat}:Yi n (qc zT)=(Jl n zT).flatMap qc:=by
 unfold Yi;induction n with
 | zero=>rfl
 | succ n ih=>rw[Tu,Tu,List.flatten_cons,T3,ih]
section
variable {n:Nat}{cs vs:List Value}
def Z08{off:Nat}:Zn cs off []=cs:=by unfold Zn;simp
def Z9u{off:Nat}{K:Hp->Prop}(ho:Own D h n x cs)(mI:off+vs.length<=cs.length)(dt:vs.all Tb=true)(H:∀h',Own D h' n x (Zn cs off vs)->K h'):pS x.a off vs K h:=by
 obtain⟨h1,h2,h3,h4⟩:=ho;cases ha:x.a with
 | none=>
   rw[ha]at h4;simp only at h4;have:cs.length=0:=by rw[<-h2,show x.len=0 by omega,Pm]
   have hv:vs=[]:=U3 zO;subst hv;rw[Z08]at H;exact H _ ⟨h1,h2,h3,by rw[ha];exact h4⟩
 | some a=>
   rw[ha]at h4;obtain⟨g1,g2,g3,b,g4,g5,g6,g7⟩:=h4;have e2:cs.length<=b.cells.length:=by rw[g6,<-h2];exact Jm _ h3
   refine⟨b,by rw[Qf];exact g4,Fz g2 _,g5,by rw[tQ];omega,dt,?_⟩;rw[Qf,tQ,g1,Uo];refine H _ ⟨?_,?_,h3,?_⟩
   . intro kk bk ck;rw[Hp.cl (λhh=>by subst hh;rw[g3]at ck;cases ck)];exact h1 kk bk ck
   rw[qd mI];exact h2
   . rw[ha];refine⟨g1,g2,g3,_,Uy _ _ _,g5,?_,?_⟩
     . show(Zn b.cells off vs).length=_;rw[qd zO];exact g6
     . show(Zn b.cells off vs).take _=_;rw[qd mI];exact zc7 mI g7
def Zpc{k e:Nat}{K:Hp->Prop}(hk:k<x.cap)(H:pS x.a (k*n) vs K h):pS (x.cut k e n).a 0 vs K h:=by
 have:(x.cut k e n).a=x.a.map (·.add (k*n)):=by show(if x.cap=k then _ else _)=_;rw[if_neg zO]
 rw[this];cases ha:x.a with
 | none=>rw[ha]at H;exact H
 | some a=>
   rw[ha]at H;simp only[Gp];show bD ((a.add (k*n)).add 0) vs K h;rw[qo];exact H
def Zk1(ho:Own D h n x cs){j:Nat}(hj:j<=cs.length):Zi h x.a j=some (cs.take j):=by
 have h1:=ho.rd.2;cases ha:x.a with
 | some a=>rw[ha]at h1;exact zaq h1 hj
 | none=>
   rw[ha]at h1;simp only[Zi]at h1 |-
   split at h1
   . rename_i h5;simp only[Js]at h1;have:j=0:=zO;subst this;simp
   cases h1
end
def zrs{A B vs:List Value}(h:vs.length<=B.length):Zn (A++B) A.length vs=A++vs++B.drop vs.length:=by
 unfold Zn;rw[List.take_left,List.drop_append];simp[J8]
def Z0f{h:Hp}{x:Sl}{z:aC}{n:Nat}{K:Sl->Hp->Prop}(hr:qH h x [z])(hn:n<65536)(H:∀y h',Own h h' 4 y ((Jl n z).flatMap qc)->K y h') :
 za (F.ql x (n:Int)) K h:=by
 refine zb (λy h'=>Own h h' 4 y ((Jl n z).flatMap qc)) (λK' hk=>?_) λy h' _ hy=>H y h' hy
 unfold F.ql;have vK:x.len=1:=qH.len hr;refine Wf (zc (decide_eq_false zO) ?_);have e1:u64.wrap ((x.len:Int))=((1:Nat):Int):=by rw[vK,Ol zD]
 have e2:u64.wrap ((n:Int))=(n:Int):=Ol zO;rw[e1,e2];refine zuw zD hn ?_;have e3:((1*n:Nat):Int)=(n:Int):=by rw[La]
 rw[e3];refine Wf (zc (decide_eq_false (by simp only;omega)) (zc (decide_eq_false (by simp only;omega)) ?_));have e4:i64.wrap (((0:Int),(n:Int)).2)=(n:Int):=aM (by simp only;omega);rw[e4];refine J' (size:=4) n n rfl rfl (Jd _) zO zO rfl λm h1 ml mc ho=>?_
 have hz:Yi n [Value.bool false,zN,.bool false,zN]=(Jl n zT).flatMap qc:=zwv;rw[hz]at ho;have fx:∀j (u:aC),((Jl j u).flatMap qc).length=j*4:=λj u=>by rw[yr qu,List.length_replicate]
 have DL:∀j (u:aC),((Jl j u).flatMap qc).all Tb=true:=λj u=>by
  rw[List.all_flatMap,List.all_eq_true];intro x _;exact zZ x
 have WE:∀i j (u:aC),((Jl i u).flatMap qc).take (j*4)=(Jl (min j i) u).flatMap qc:=λi j u=>by
  rw[zhp qu,List.take_replicate]
 have DN:∀i j (u:aC),((Jl i u).flatMap qc).drop (j*4)=(Jl (i-j) u).flatMap qc:=λi j u=>by
  rcases Nat.le_total i j with h1 | h1
  rw[List.drop_of_length_le (by rw[fx];omega),show i-j=0 by omega];rfl
  . have:i=j+(i-j):=zO
    conv=>lhs;rw[this,<-Gy,List.flatMap_append]
    rw[List.drop_append_of_le_length (by rw[fx];omega),List.drop_of_length_le (by rw[fx];omega),List.nil_append]
 have abe:∀i j (u:aC),(Jl i u).flatMap qc++(Jl j u).flatMap qc=(Jl (i+j) u).flatMap qc:=λi j u=>by
  rw[<-List.flatMap_append,Gy]
 have DO:Nat.min x.len m.len=min 1 n:=by rw[vK,ml]
 refine⟨(Jl (min 1 n) z).flatMap qc,?_,?_⟩
 . rw[DO];have hx2:Zi h1 x.a 4=some (qc z):=by
    have:=EP ho.1 hr.2;simpa [qu] using this
   rcases Gs n with h0 | h0
   . subst h0;simp only[Nat.min_zero,Pm,List.replicate_zero,List.flatMap_nil];cases x.a<;>simp[Zi,Zp]
   . have:min 1 n=1:=zO;rw[this];simpa using hx2
 refine Z9u ho (by rw[fx,fx];omega) (DL _ _) λh2 dA=>?_
 have ki:Zn ((Jl n zT).flatMap qc) 0 ((Jl (min 1 n) z).flatMap qc)=(Jl (min 1 n) z).flatMap qc++(Jl (n-min 1 n) zT).flatMap qc:=by
  have:=zrs (A:=[]) (B:=(Jl n zT).flatMap qc) (vs:=(Jl (min 1 n) z).flatMap qc) (by rw[fx,fx];omega);simp only[List.nil_append,List.length_nil]at this;rw[this,fx,DN]
 rw[ki]at dA;rw[DO];refine Za (λst h'=>∃k:Nat,st.1=(k:Int)/\k<=n/\(k=0->n=0)/\Own h h' 4 m ((Jl k z).flatMap qc++(Jl (n-k) zT).flatMap qc)) (λst=>((n:Int)-st.1).toNat)
  ⟨min 1 n,rfl,zO,zO,dA⟩ ?_
 rintro⟨_,_⟩ h3 ⟨k,cy,aG,cw,eX⟩;simp only at cy;subst cy;refine zg (λh4=>?_) (λh4=>?_)
 . simp only[ml]at h4;have uO:k<n:=zO;refine Xg k n rfl (by rw[ml]) aG zO (Xg 0 k rfl rfl (Jt _) zO ?_);obtain⟨c1,c2,c3⟩:=Zyc m k 4 zO;have jf:(m.cut k n 4).len=n-k:=rfl;have DP:Nat.min (m.cut 0 k 4).len (m.cut k n 4).len=min k (n-k):=by rw[c1,jf]
   refine⟨(Jl (min k (n-k)) z).flatMap qc,?_,?_⟩;rw[DP,c3,Zk1 eX (by rw[Jq,fx,fx];omega),U4 (by rw[fx];omega),WE,show min (min k (n-k)) k=min k (n-k)by omega]
   . rw[DP];refine Zpc zO (Z9u eX (by rw[Jq,fx,fx,fx];omega) (DL _ _) λh5 cV=>?_);have hs:=zrs (A:=(Jl k z).flatMap qc) (B:=(Jl (n-k) zT).flatMap qc) (vs:=(Jl (min k (n-k)) z).flatMap qc) (by rw[fx,fx];omega);rw[fx,fx,DN,abe]at hs;rw[hs,show n-k-min k (n-k)=n-(k+min k (n-k))by omega]at cV;have e5:i64.wrap ((k:Int)+((min k (n-k):Nat):Int))=((k+min k (n-k):Nat):Int):=by rw[aM zO];omega
     exact⟨⟨k+min k (n-k),e5,zO,zO,cV⟩,by simp only;rw[e5];omega⟩
 . simp only[ml]at h4;have uO:k=n:=zO;subst uO;rw[Py,List.replicate_zero,List.flatMap_nil,List.append_nil]at eX;exact hk _ _ eX.1 eX
end Den
end

section
namespace Den
open Go Iv Pq
section
variable {B:Nat}{l m:Sl}{c:Rat}{x:aC}
def Z85{n:Nat}(hn:n<65536)(H:∀y h',OL h h' 1 y (Jl n 0)->K y h'):za (F.z4d (n:Int)) K h:=by
 refine zb (λy h'=>OL h h' 1 y (Jl n 0)) (λK' hk=>?_) λy h' _ hy=>H y h' hy
 unfold F.z4d;refine Zr zD zD λz h1 aP hz=>?_
 refine Mc (xs:=[z]) 1 rfl λa h2 bH ha=>?_
 refine Z0f ha hn λy h3 hy=>?_
 refine hk _ _ (Ja aP (Ja bH hy.1)) ⟨h2,Ja aP bH,_,hy,?_⟩;refine⟨zS,λk h4 h5=>?_⟩;rw[List.getElem_replicate,List.getElem_replicate];exact⟨(hz.le bH:NR h2 z 0),Vk⟩
def znp(hp:PL h A l p)(hx:NR h x c)(bc:BR B c)(hlen:p.length<=1000000000000)(hA:A<=400000000000)(hB:B<=400000000000)(H:∀y h',OL h h' (A+B) y (trim (p.map (c*·)))->K y h'):za (F.OY l x) K h:=by
 refine zb (λy h'=>OL h h' (A+B) y (trim (p.map (c*·)))) (λK' hk=>?_) λy h' _ hy=>H y h' hy
 unfold F.OY;have hl:=hp.len;refine J' (size:=4) p.length p.length (by rw[hl]) (by rw[hl]) (Jd _) zO zO rfl λm h1 ml mc ho=>?_
 have hz:Yi p.length [Value.bool false,zN,.bool false,zN]=(Jl p.length zT).flatMap qc:=zwv;rw[hz]at ho;refine Za (λst h'=>∃D,h.le D/\∃i:Nat,st.1=(i:Int)/\i<=p.length/\∃xs:List aC,xs.length=p.length/\Own D h' 4 m (xs.flatMap qc)/\QL D (A+B) (xs.take i) ((p.take i).map (c*·))) (λst=>(p.length-st.1).toNat)
  ⟨h,Jf _,0,rfl,Jt _,Jl p.length zT,zS,ho,⟨rfl,λk h1 _=>by simp at h1⟩⟩ ?_
 rintro⟨_,_⟩ h2 ⟨D,hD,i,hi,da,xs,AK,dA,hq⟩;simp only at hi;subst hi;refine zg (λh3=>?_) (λh3=>?_)
 . simp only at h3;have aA:i<p.length:=zO;refine hp.cT i (Ja hD dA.1) rfl aA λy hy qI=>?_
   refine dA.call (K1:=λz D'=>NR D' z (p[i]*c)) (wR (hy.le hD) (hx.le hD) qI bc hA hB λz D' rb hz=>hz) λz D' h3 rb mh hz=>?_
   refine Ma qu zD (x:=z) i mh rfl zO (zZ z) λh4 gQ _=>⟨⟨D',Ja hD rb,i+1,?_,aA,xs.set i z,by simpa using AK,gQ,?_⟩,?_⟩
   simp only;rw[aM zO];rfl
   . have e1:(xs.set i z).take (i+1)=xs.take i++[z]:=by
      rw[Jc (by simp;omega),List.take_set_of_le (Jd _)];simp
     have e2:(p.take (i+1)).map (c*·)=(p.take i).map (c*·)++[p[i]*c]:=by
      rw[Jc aA,List.map_append];simp only[List.map_cons,List.map_nil];rw[Rat.mul_comm]
     rw[e1,e2];exact QL.snoc (hq.le rb) hz (qI.mul bc)
   simp only;rw[aM zO];omega
 . simp only at h3;have aA:i=p.length:=zO;subst aA;rw[J5,<-AK,J5]at hq;have hod:OD D h2 (A+B) m (p.map (c*·)):=⟨xs,dA,hq⟩;refine DK hod.pl (by simpa using hlen) zO λy h' hy=>hk _ _ (Ja hD (Ja dA.1 hy.hle)) (hy.base (Ja hD dA.1))
end
end Den
end

section
namespace Den
open Go Iv Pq
section
variable {B:Nat}{l:Sl}{c:Rat}{x:aC}
def zr7{Ka:Addr->Hp->Prop}(H:∀a h',h.le h'->h'.cell a=some (.slice l.a l.len l.cap)->Ka a h'):za (F.Yy l) Ka h:=by
 refine zb _ (λK' hk=>?_) H;unfold F.Yy;intro b e hb;refine hk _ _ (Hp.cH hb) ?_;unfold Hp.cell;simp only[Uy];rfl
abbrev qt(x:aC):Bool×Sl×Bool×Sl×Unit:=(x.num.neg,x.num.ah,x.den.neg,x.den.ah,())
def Zd4{h':Hp}(hp:PL h B l p)(hl:h.le h'){i:Nat}(hi:i<p.length) :
 ∃(ad:Addr) (x:aC),l.a=some ad/\NR h x p[i]/\BR B p[i]/\∀j u,(qc x)[j]?=some u->h'.cell (ad.add (i*4+j))=some u:=by
 obtain⟨xs,h1,h2,h3⟩:=hp;have aA:i<xs.length:=by rw[h2.1];exact hi
 have h4:=(h1.le hl).2;have cI:0<(xs.flatMap qc).length:=by rw[yr qu];omega
 cases ha:l.a with
 | none=>
   rw[ha]at h4;simp only[Zi]at h4;split at h4;omega;cases h4
 | some ad=>
   rw[ha]at h4;simp only[Zi]at h4;refine⟨ad,xs[i],rfl,(h2.2 i aA hi).1,(h2.2 i aA hi).2,λj u hj=>?_⟩;have hj4:j<4:=by
    rcases Jx j 4 with h5 | h5
    exact h5;rw[G3 (by rw[qu];exact h5)]at hj;cases hj
   exact C2 h4 (i*4+j) u (by rw[Hz qu aA hj4];exact hj)
def Z5w(hp:PL h A l p)(hx:NR h x c)(bc:BR B c)(hlen:p.length<=1000000000000)(hA:A<=100000000000)(hB:B<=100000000000)(hC:∀i,BR C (ev (p.drop i) c))(Ab:C<=200000000000)(H:∀z h',h.le h'->NR h' z (ev p c)->KR z h'):za (F.z5m l x) KR h:=by
 refine zb _ (λK' hk=>?_) H;unfold F.z5m;have hl:=hp.len;refine Zr zD zD λz0 h1 aP jd=>?_
 refine zr7 λad h2 bH uS=>?_
 have HG:=Ja aP bH;refine⟨l,λi st h'=>i<=p.length/\h2.le h'/\NR h' (q4 st.1) (ev (p.drop i) c),zO,⟨zO,Jf _,?_⟩,λi st h' hI=>Hp.ia hI.2.1 uS,λi st h' hi hI=>?_,λst h' hI=>?_⟩;rw[hl,List.drop_length];exact jd.le bH
 . obtain⟨_,bj,hs⟩:=hI;have aA:i<p.length:=zO;obtain⟨a,y,ha,hy,qI,hc⟩:=Zd4 hp (Ja HG bj) aA;refine⟨a,qt y,ha,λj u hj=>hc j u hj,?_⟩;have WG:=Ja HG bj;refine wR hs (hx.le WG) (hC _) bc zO zO λr h4 cf hr=>?_
   refine zX hr ((hy.le WG).le cf) ((hC _).mul bc) qI zO zO λw h5 cj hw=>?_
   refine⟨zO,Ja bj (Ja cf cj),?_⟩;rw[BH aA,Rat.add_comm];exact hw
 . have:=hI.2.2;rw[Tf]at this;exact hk _ _ (Ja HG hI.2.1) this
end
end Den
end

section
namespace Den
open Go Iv Pq
section
end
end Den
end

section
namespace Den
open Go Iv Pq
def pA(b:Nat->Rat)(d i:Nat)(f:Nat->Rat):Nat->Rat:=λj=>if i<=j then f j-(f (i+d)/b d)*b (j-i)else f j
def iD(b:Nat->Rat)(d N:Nat)(f:Nat->Rat):Nat->(Nat->Rat)
 | 0=>f
 | k+1=>pA b d (N-1-k) (iD b d N f k)
section
variable {B:Nat}{l m:Sl}{q:List Rat}{KK:zY (Sl × Sl)}
def OD.stay(ho:OD D h B l p)(LZ:LY x l)(hl:D.le h')(hs:∀j,(∀a,x.a=some a->j≠a.block)->h' j=h j):OD D h' B l p:=by
 obtain⟨xs,h1,h2⟩:=ho;exact⟨xs,Zk2 h1 LZ hl hs,h2⟩
def OD.call2{α:Type}{G:(α->Hp->Prop)->Hp->Prop}{K1 K:α->Hp->Prop}(h1:OD D h A l p)(h2:OD D h B m q)(H:za G K1 D)
 (k:∀v D' h',D.le D'->OD D' h' A l p->OD D' h' B m q->K1 v D'->K v h'):za G K h:=by
 obtain⟨xs,a1,a2⟩:=h1;obtain⟨ys,b1,b2⟩:=h2;exact WC a1.1 H λv D' h' g1 g2 g3 g4=>k v D' h' g1 ⟨xs,a1.move g2 g3,a2.le g1⟩ ⟨ys,b1.move g2 g3,b2.le g1⟩ g4
def OD.pair{D1 D2:Hp}{r s:Sl}(h1:∃xs,Own D2 h 4 r (xs.flatMap qc)/\QL D1 A xs p)(h2:OL D1 D2 B s q):∃D3,D1.le D3/\OD D3 h A r p/\OD D3 h B s q/\LY r s:=by
 obtain⟨xs,a1,a2⟩:=h1;obtain⟨D3,c1,ys,b1,b2⟩:=h2;refine⟨D3,c1,⟨xs,a1.base b1.1,a2.le c1⟩,⟨ys,b1.le a1.1,b2⟩,λa b ha hb=>?_⟩;obtain⟨_,_,_,g4⟩:=a1;rw[ha]at g4;obtain⟨_,_,k3,_⟩:=g4;obtain⟨_,_,_,f4⟩:=b1;rw[hb]at f4;obtain⟨_,_,_,bb,e4,_⟩:=f4;intro hh;rw[hh,e4]at k3;cases k3
def NR.kq{y:aC}{v:Rat}(h0:v≠0):v.num≠0:=λhh=>h0 (Td.1 hh)
def ziu(hp:PL h A l p)(hq:PL h B m q)(hlen:p.length<=1000)(gF:q.length<=1000)(hB:1<=B/\B<=50000000000)(fD:trim q≠[])
 (hC:∀k j,k<=(trim p).length+1-(trim q).length->BR C (iD (co q) ((trim q).length-1) ((trim p).length+1-(trim q).length) (co p) k j)) (Ab:A<=C/\C<=50000000000)
 (H:∀y z h' qs rs,h.le h'->PL h' (C+B) y (trim qs)->PL h' C z (trim rs)->qs.length<=1001->rs.length<=1000->(∀j,conv (co qs) (co q) j+co rs j=co p j)->(∀j,(trim q).length-1<=j->co rs j=0)->(∀j,co rs j=iD (co q) ((trim q).length-1) ((trim p).length+1-(trim q).length) (co p) ((trim p).length+1-(trim q).length) j)->KK (y,z) h') :
 za (F.qj l m) KK h:=by
 refine zb (λyz h'=>∃qs rs,PL h' (C+B) yz.1 (trim qs)/\PL h' C yz.2 (trim rs)/\qs.length<=1001/\rs.length<=1000/\(∀j,conv (co qs) (co q) j+co rs j=co p j)/\(∀j,(trim q).length-1<=j->co rs j=0)/\(∀j,co rs j=iD (co q) ((trim q).length-1) ((trim p).length+1-(trim q).length) (co p) ((trim p).length+1-(trim q).length) j)) (λK' hk=>?_)
  λyz h' hl ⟨qs,rs,g1,g2,g3,g4,g5,g6,g7⟩=>H yz.1 yz.2 h' qs rs hl g1 g2 g3 g4 g5 g6 g7
 unfold F.qj;have tq:=cF (p:=q);have tp:=cF (p:=p);have ug:0<(trim q).length:=Gw.2 fD;obtain⟨d,hd⟩:∃d,(trim q).length=d+1:=⟨(trim q).length-1,zO⟩;obtain⟨N,hN⟩:∃N,N=(trim p).length+1-(trim q).length:=⟨_,rfl⟩;rw[<-hN]at hC;have jF:(trim q).length-1=d:=zO;rw[jF]at hC hk;have hb:co q d≠0:=by
  have:=mT dx fD;rw[jF,bA]at this;exact this
 have je:∀j,d<j->co q j=0:=λj hj=>by rw[<-bA,eC zO]
 refine DK hq zO zO λr1 h1 eF=>?_
 refine DK (hp.le eF.hle) zO zO λr2 h2 ei=>?_
 have gT:=eF.len;have uh:=ei.len;have eN:I9 0 (i64.wrap (i64.wrap ((r2.len:Int)-(r1.len:Int))+1))=(N:Int):=by
  rw[gT,uh,aM (n:=((trim p).length:Int)-((trim q).length:Int)) zO,aM zO];unfold I9;split<;>omega
 rw[eN];have WH:=eF.pl;obtain⟨D2,uV,xs,dA,pd⟩:=ei;refine dA.call (K1:=λv D'=>OL D2 D' 1 v (Jl N 0)) (Z85 zO λy h' hy=>hy) λr3 D' h3 _ eX nE=>?_
 obtain⟨D3,rk,hoR,hoQ,LZ⟩:=OD.pair ⟨xs,eX,pd⟩ nE;have abf:h1.le D3:=Ja uV rk;have e0:i64.wrap ((r2.len:Int)-(r1.len:Int))=((trim p).length:Int)-((trim q).length:Int):=by rw[gT,uh,aM zO]
 rw[e0];refine Za (λst h'=>∃D,h1.le D/\∃n:Nat,(st.1=(n:Int)-1\/(st.1<0/\n=0))/\n<=N/\∃qs rs,qs.length=N/\rs.length=(trim p).length/\OD D h' C r2 rs/\OD D h' (C+B) r3 qs /\
  (∀j,co rs j=iD (co q) d N (co p) (N-n) j)/\(∀j,j<n->co qs j=0)/\(∀j,conv (co qs) (co q) j+co rs j=co p j)/\(∀j,n+d<=j->co rs j=0)) (λst=>(st.1+1).toNat)
  ⟨D3,abf,N,?_,Jd _,_,_,zS,rfl,hoR.mono Ab.1,hoQ.mono zO,λj=>by rw[Py,bA];rfl,λj _=>iB,λj=>?_,λj hj=>?_⟩ ?_
 simp only;omega;rw[di,ko (g':=co []) (λ_=>rfl) (λ_=>iB),di,px,Rat.zero_add,bA];rw[eC zO];rintro⟨st,_⟩ h4 ⟨D,hD,n,ic,hn,qs,rs,lq,lr,oR,oQ,cR,cQ,cc,cz⟩;simp only at ic;refine zg (λh5=>?_) (λh5=>?_)
 . simp only at h5;have abg:st=(n:Int)-1:=zO;subst abg;obtain⟨i,rfl⟩:∃i,n=i+1:=⟨n-1,zO⟩;have hiN:i<N:=zO;have e1:(((i+1:Nat):Int)-1)=(i:Int):=zO;simp only[e1];have e2:i64.wrap (i64.wrap ((i:Int)+(r1.len:Int))-1)=((i+d:Nat):Int):=by
    rw[gT,aM (n:=(i:Int)+((trim q).length:Int)) zO,aM zO];omega
   have e3:i64.wrap ((r1.len:Int)-1)=(d:Int):=by rw[gT,aM zO];omega
   rw[e2,e3];have dy:i+d<rs.length:=zO;refine oR.get (i+d) rfl dy λu hu bu=>?_
   refine WH.cT d (Ja hD oR.dT) rfl zO λv hv bv=>?_
   have ev1:(trim q)[d]'zO=co q d:=by rw[<-dM (show d<(trim q).length by omega),bA]
   have eu1:rs[i+d]=co rs (i+d):=(dM dy).symm;rw[ev1]at hv bv;rw[eu1]at hu bu;refine oR.call2 (K1:=λz D'=>NR D' z.1 (co rs (i+d)/co q d)) oQ (zhv hu (hv.le hD) bu bv zO zO (NR.kq (y:=v) hb) λz D' _ hz=>hz) λz D1 h6 aP oR1 oQ1 hz=>?_
   have bz:BR (C+B) (co rs (i+d)/co q d):=bu.div bv (NR.kq (y:=v) hb);refine oQ1.set i rfl zO hz bz λh7 oQ2 fJ=>?_
   have oR2:OD D1 h7 C r2 rs:=oR1.stay LZ.symm oQ2.dT fJ;have hfk:∀j,iD (co q) d N (co p) (N-i) j=pA (co q) d i (co rs) j:=λj=>by
    have e4:N-i=(N-(i+1))+1:=zO;have e5:N-1-(N-(i+1))=i:=zO;rw[e4,iD,e5];unfold pA;rw[cR,cR]
   refine Za (λst h'=>∃D,h1.le D/\∃k:Nat,st.1=(k:Int)/\k<=d+1/\∃DQ,DQ.length=rs.length/\OD D h' C r2 DQ/\OD D h' (C+B) r3 (qs.set i (co rs (i+d)/co q d)) /\
    ∀j,co DQ j=if i<=j/\j<i+k then pA (co q) d i (co rs) j else co rs j) (λst=>(((d+1:Nat):Int)-st.1).toNat)
    ⟨D1,Ja hD aP,0,rfl,Jt _,rs,rfl,oR2,oQ2,λj=>by rw[if_neg zO]⟩ ?_
   rintro⟨_,_⟩ h8 ⟨D4,HH,k,cy,aG,DQ,lr',oR3,oQ3,cR3⟩;simp only at cy;subst cy;refine zg (λh9=>?_) (λh9=>?_)
   . simp only[gT]at h9;have hkd:k<=d:=zO;refine WH.cT k (Ja HH oR3.dT) rfl zO λw hw bw=>?_
     have ew1:(trim q)[k]'zO=co q k:=by rw[<-dM (show k<(trim q).length by omega),bA]
     rw[ew1]at hw bw;have e6:i64.wrap ((i:Int)+(k:Int))=((i+k:Nat):Int):=by rw[aM zO];omega
     have mJ:i+k<DQ.length:=zO;refine oR3.get (i+k) e6 mJ λt ht bt=>?_
     refine oQ3.get i rfl (by simp;omega) λg hg bg=>?_
     have eg:(qs.set i (co rs (i+d)/co q d))[i]'(by simp;omega)=co rs (i+d)/co q d:=zS;rw[eg]at hg bg;have et:DQ[i+k]=co rs (i+k):=by rw[<-dM mJ,cR3,if_neg zO]
     rw[et]at ht bt;refine oR3.call2 (K1:=λz D'=>NR D' z (co rs (i+d)/co q d*co q k)) oQ3 (wR hg (hw.le HH) bg bw zO zO λz D' _ hz=>hz) λz2 D5 aZ cj oR4 oQ4 fB=>?_
     refine oR4.call2 (K1:=λz D'=>NR D' z (co rs (i+k)-co rs (i+d)/co q d*co q k)) oQ4 (zmo (ht.le cj) fB bt (bg.mul bw) zO zO λz D' _ hz=>hz) λz3 D6 bV db oR5 oQ5 zM=>?_
     have es:co rs (i+k)-co rs (i+d)/co q d*co q k=pA (co q) d i (co rs) (i+k):=by
      unfold pA;rw[if_pos zO,Gz]
     rw[es]at zM;have bs:BR C (pA (co q) d i (co rs) (i+k)):=by rw[<-hfk];exact hC _ _ zO
     refine oR5.set (i+k) e6 mJ zM bs λcu oR6 abh=>⟨⟨D6,Ja HH (Ja cj db),k+1,?_,zO,_,by simpa using lr',oR6,oQ5.stay LZ oR6.dT abh,λj=>?_⟩,?_⟩
     simp only;rw[aM zO];rfl
     . rw[rM mJ];by_cases hj:j=i+k;subst hj;rw[if_pos rfl,if_pos zO]
       . rw[if_neg hj,cR3];by_cases vi:i<=j/\j<i+k;rw[if_pos vi,if_pos zO];rw[if_neg vi,if_neg zO]
     simp only;rw[aM zO];omega
   . simp only[gT]at h9;have hkd:k=d+1:=zO;subst hkd;have cR4:∀j,co DQ j=pA (co q) d i (co rs) j:=λj=>by
      rw[cR3];by_cases hj:i<=j/\j<i+(d+1);rw[if_pos hj]
      . rw[if_neg hj];unfold pA;by_cases vi:i<=j;rw[if_pos vi,je (j-i) zO];grind;rw[if_neg vi]
     have e7:i64.wrap ((i:Int)-1)=(i:Int)-1:=aM zO;refine⟨⟨D4,HH,i,.inl e7,zO,_,DQ,by simpa using lq,zO,oR3,oQ3,λj=>by rw[cR4,hfk],λj hj=>?_,λj=>?_,λj hj=>?_⟩,by rw[e7];omega⟩
     . rw[rM zO,if_neg zO];exact cQ j zO
     . 
      have e8:conv (co (qs.set i (co rs (i+d)/co q d))) (co q) j=conv (co qs) (co q) j+(if i<=j then co rs (i+d)/co q d*co q (j-i)else 0):=by
       unfold conv;have e9:∀t,co (qs.set i (co rs (i+d)/co q d)) t=co qs t+(if t=i then co rs (i+d)/co q d else 0):=λt=>by
        rw[rM zO];by_cases ht:t=i;subst ht;rw[if_pos rfl,if_pos rfl,cQ t zO,Rat.zero_add];rw[if_neg ht,if_neg ht,Rat.add_zero]
       have lg:sm (j+1) (λt=>(if t=i then co rs (i+d)/co q d else 0)*co q (j-t))=if i<=j then co rs (i+d)/co q d*co q (j-i)else 0:=by
        by_cases nA:i<=j;rw[if_pos nA,kn (k:=i) zO λt _ ht=>by rw[if_neg ht,Po],if_pos rfl]
        . rw[if_neg nA];exact fU λt ht=>by rw[if_neg zO,Po]
       rw[<-lg,<-mR];exact cG λt _=>by rw[e9];grind
      rw[e8,cR4];unfold pA;have:=cc j;by_cases nA:i<=j;rw[if_pos nA,if_pos nA];grind;rw[if_neg nA,if_neg nA];grind
     . rw[cR4];unfold pA;rw[if_pos zO];by_cases vi:j=i+d
       . subst vi;rw[Gz,Tr hb];grind
       rw[cz j zO,je (j-i) zO];grind
 . simp only at h5;have lX:n=0:=zO;subst lX;refine DK oQ.pl zO zO λy h6 hy=>?_
   refine DK (oR.pl.le hy.hle) zO zO λz h7 hz=>?_
   refine hk _ _ (Ja eF.hle (Ja hD (Ja oR.dT (Ja hy.hle hz.hle)))) ⟨qs,rs,hy.pl.le hz.hle,hz.pl,zO,zO,cc,λj hj=>cz j zO,λj=>by rw[cR j,<-hN];rfl⟩
def zwm(hp:PL h A l p)(hq:PL h B m q)(hlen:p.length<=1000)(gF:q.length<=1000)(hB:1<=B/\B<=50000000000)(fD:trim q≠[])
 (hC:∀k j,k<=(trim p).length+1-(trim q).length->BR C (iD (co q) ((trim q).length-1) ((trim p).length+1-(trim q).length) (co p) k j)) (Ab:A<=C/\C<=50000000000)
 (H:∀y z h' qs rs,h.le h'->PL h' (C+B) y (trim qs)->PL h' C z (trim rs)->qs.length<=1001->rs.length<=1000->(∀j,conv (co qs) (co q) j+co rs j=co p j)->(∀j,(trim q).length-1<=j->co rs j=0)->KK (y,z) h') :
 za (F.qj l m) KK h:=
 ziu hp hq hlen gF hB fD hC Ab λy z h' qs rs a1 a2 a3 a4 a5 a6 a7 _=>H y z h' qs rs a1 a2 a3 a4 a5 a6 a7
end
end Den
end

section
namespace Den
open Go Iv Pq
section
variable {B:Nat}{l m:Sl}{q:List Rat}{KQ:zY (Sl × Sl × Int)}{y:aC}
def zr6(hp:PL h A l p)(hq:PL h B m q)(hlen:p.length<=1000)(gF:q.length<=1000)(hB:1<=B/\B<=50000000000)
 (hC:∀k j,trim q≠[]->k<=(trim p).length+1-(trim q).length->BR C (iD (co q) ((trim q).length-1) ((trim p).length+1-(trim q).length) (co p) k j)) (Ab:A<=C/\C<=50000000000)
 (H0:trim q=[]->∀h',h.le h'->KQ (zd,zd,6) h')
 (H:trim q≠[]->∀y z h' qs rs,h.le h'->PL h' (C+B) y (trim qs)->PL h' C z (trim rs)->qs.length<=1001->rs.length<=1000->(∀j,conv (co qs) (co q) j+co rs j=co p j)->(∀j,(trim q).length-1<=j->co rs j=0)->(∀j,co rs j=iD (co q) ((trim q).length-1) ((trim p).length+1-(trim q).length) (co p) ((trim p).length+1-(trim q).length) j)->KQ (y,z,0) h') :
 za (F.V4 l m) KQ h:=by
 refine zb (λr h'=>(trim q=[]/\r=(zd,zd,6))\/(trim q≠[]/\r.2.2=0/\∃qs rs,PL h' (C+B) r.1 (trim qs)/\PL h' C r.2.1 (trim rs)/\qs.length<=1001/\rs.length<=1000/\(∀j,conv (co qs) (co q) j+co rs j=co p j)/\(∀j,(trim q).length-1<=j->co rs j=0)/\(∀j,co rs j=iD (co q) ((trim q).length-1) ((trim p).length+1-(trim q).length) (co p) ((trim p).length+1-(trim q).length) j))) (λK' hk=>?_)
  λr h' hl hr=>by
   rcases hr with ⟨g1,rfl⟩ | ⟨g1,g2,qs,rs,g3,g4,g5,g6,g7,g8,g9⟩
   exact H0 g1 h' hl
   . obtain⟨y,z,e⟩:=r;simp only at g2;subst g2;exact H g1 y z h' qs rs hl g3 g4 g5 g6 g7 g8 g9
 unfold F.V4;refine zl0 hq zO zO λh1 aP=>?_
 refine zg (λh2=>?_) (λh2=>?_);exact hk _ _ aP (.inl ⟨U3 zO,rfl⟩)
 . have fD:trim q≠[]:=λhh=>by rw[hh]at h2;exact h2 zD
   exact ziu (hp.le aP) (hq.le aP) hlen gF hB fD (λk j hk=>hC k j fD hk) Ab λy z h' qs rs hl g3 g4 g5 g6 g7 g8 g9=>hk _ _ (Ja aP hl) (.inr ⟨fD,rfl,qs,rs,g3,g4,g5,g6,g7,g8,g9⟩)
def ziv(hp:PL h A l p)(hq:PL h B m q)(hlen:p.length<=1000)(gF:q.length<=1000)(hB:1<=B/\B<=50000000000)
 (hC:∀k j,trim q≠[]->k<=(trim p).length+1-(trim q).length->BR C (iD (co q) ((trim q).length-1) ((trim p).length+1-(trim q).length) (co p) k j)) (Ab:A<=C/\C<=50000000000)
 (H0:trim q=[]->∀h',h.le h'->KQ (zd,zd,6) h')
 (H:trim q≠[]->∀y z h' qs rs,h.le h'->PL h' (C+B) y (trim qs)->PL h' C z (trim rs)->qs.length<=1001->rs.length<=1000->(∀j,conv (co qs) (co q) j+co rs j=co p j)->(∀j,(trim q).length-1<=j->co rs j=0)->KQ (y,z,0) h') :
 za (F.V4 l m) KQ h:=
 zr6 hp hq hlen gF hB hC Ab H0 λa0 y z h' qs rs a1 a2 a3 a4 a5 a6 a7 _=>H a0 y z h' qs rs a1 a2 a3 a4 a5 a6 a7
end
end Den
end

section
namespace Den
open Go Iv Pq
def lead(p:List Rat):Rat:=co p ((trim p).length-1)
def ft(p:List Rat):List Rat:=(trim p).map (((((1:Int):Rat))/lead p)*·)
def Zoy:(((1:Int):Rat))=1:=rfl
def Ac{p:List Rat}(h:trim p≠[]):lead p≠0:=by
 have:=mT dx h;rw[bA]at this;exact this
def Z9f{c:Rat}{p:List Rat}(hc:c≠0)(hp:nf p):nf (p.map (c*·)):=by
 rcases hp with rfl | hp
 exact .inl rfl
 . right;rw[List.length_map,Z8m];intro hh;rcases Rat.mul_eq_zero.1 hh with h | h
   exact hc h;exact hp h
def zjf{a:Rat}(h:a≠0):(((1:Int):Rat))/a≠0:=λhh=>by
 have e:(((1:Int):Rat))=(((1:Int):Rat))/a*a:=(Tr h).symm;rw[hh,Po,Zoy]at e;exact absurd e zD
def Z9g{p:List Rat}:nf (ft p):=by
 by_cases h:trim p=[];unfold ft;rw[h];exact .inl rfl;exact Z9f (zjf (Ac h)) dx
def WI{p:List Rat}:(ft p).length=(trim p).length:=by unfold ft;simp
def zoj{p:List Rat}{i:Nat}:co (ft p) i=(((1:Int):Rat))/lead p*co p i:=by unfold ft;rw[Z8m,bA]
def Zcp{n:Nat}(h:n<4294967296):BR 1 (((n:Int):Rat)):=by
 refine⟨?_,?_⟩
 . unfold Lt;show(n:Int).natAbs<W ^ 1;rw[Jh,Nat.pow_one,Dw];exact h
 . unfold Lt;show((1:Nat):Int).natAbs<W ^ 1;decide
section
variable {B:Nat}{l m:Sl}{q:List Rat}{x y:aC}{u v:Rat}
def DR(hp:PL h A l p)(hlen:p.length<=100000000)(hA:A<=100000000000)(H:∀y h',h.le h'->PL h' (A+(1+A)) y (ft p)->K y h'):za (F.Yq l) K h:=by
 refine zb _ (λK' hk=>?_) H;unfold F.Yq;have tp:=cF (p:=p);refine DK hp zO zO λr1 h1 eF=>?_
 have gT:=eF.len;have jL:=eF.pl;refine Zs (λh2=>?_) (λh2=>?_)
 . have h0:trim p=[]:=U3 zO;refine hk _ _ eF.hle ?_;unfold ft;rw[h0];exact PL.nil
 . have h0:trim p≠[]:=λhh=>by rw[hh]at gT;exact h2 (by rw[gT];rfl)
   have cI:0<(trim p).length:=Gw.2 h0;have e:i64.wrap ((r1.len:Int)-1)=(((trim p).length-1:Nat):Int):=by rw[gT,aM zO];omega
   refine jL.get _ e zO λy hy qI=>?_
   have ey:(trim p)[(trim p).length-1]'zO=lead p:=by rw[<-dM (show(trim p).length-1<(trim p).length by omega),bA];rfl
   rw[ey]at hy qI;refine Zr zD zD λo h3 bj ho=>?_
   refine zhv ho (hy.le bj) Z2n qI zO zO (NR.kq (y:=y) (Ac h0)) λz h4 cf hz=>?_
   refine znp ((jL.le bj).le cf) hz (Z2n.div qI (NR.kq (y:=y) (Ac h0))) zO zO zO λw h5 hw=>?_
   rw[gk (Z9f (zjf (Ac h0)) dx)]at hw;exact hk _ _ (Ja eF.hle (Ja bj (Ja cf hw.hle))) hw.pl
def DS(p:List Rat)(n:Nat):List Rat:=(List.range n).map λi=>co p (i+1)*(((i+1:Nat):Int):Rat)
def Zoe(p:List Rat):List Rat:=DS p (p.length-1)
def Zas{n:Nat}(hn:n+1<p.length):DS p (n+1)=DS p n++[p[n+1]*(((n+1:Nat):Int):Rat)]:=by
 unfold DS;rw[List.range_succ,List.map_append];simp only[List.map_cons,List.map_nil];rw[dM hn]
def zd5(hp:PL h A l p)(hlen:p.length<=100000000)(hA:A<=100000000000)(H:∀y h',OL h h' (A+1) y (trim (Zoe p))->K y h'):za (F.Q7 l) K h:=by
 refine zb (λy h'=>OL h h' (A+1) y (trim (Zoe p))) (λK' hk=>?_) λy h' _ hy=>H y h' hy
 unfold F.Q7;have hl:=hp.len;refine Za (λst h'=>∃D,h.le D/\∃i:Nat,st.2.1=(i:Int)/\i<=p.length/\OD D h' (A+1) st.1 (DS p (i-1))) (λst=>(p.length-st.2.1).toNat)
  ⟨h,Jf _,0,rfl,Jt _,OD.nil⟩ ?_
 rintro⟨s,_,_⟩ h1 ⟨D,hD,i,hi,da,ho⟩;simp only at hi ho;subst hi;refine zg (λh3=>?_) (λh3=>?_)
 . have aA:i<p.length:=by simp only at h3;omega
   refine zj (λs' h'=>∃D,h.le D/\OD D h' (A+1) s'.1 (DS p i)) ?_ ?_
   . rintro⟨s',_⟩ h4 ⟨D',wZ,mh⟩;refine⟨⟨D',wZ,i+1,?_,aA,mh⟩,?_⟩;simp only;rw[aM zO];rfl;simp only;rw[aM zO];omega
   . refine hp.cT i (Ja hD ho.dT) rfl aA λy hy qI=>?_
     refine zg (λh4=>?_) (λh4=>?_)
     . simp only at h4;obtain⟨j,rfl⟩:∃j,i=j+1:=⟨i-1,zO⟩;refine ho.call (K1:=λz D'=>NR D' z ((((j+1:Nat):Int)):Rat)) (Zr (by simp only;omega) (by simp only;omega) λz D' _ hz=>hz) λz D1 h5 aP ib hz=>?_
       refine ib.call (K1:=λz D'=>NR D' z (p[j+1]*((((j+1:Nat):Int)):Rat))) (wR ((hy.le hD).le aP) hz qI (Zcp zO) zO zO λz D' _ hz=>hz) λz2 D2 h6 bH dA fB=>?_
       refine dA.app (by unfold DS;simp;omega) fB (qI.mul (Zcp zO)) λw h7 hw=>⟨D2,Ja hD (Ja aP bH),?_⟩
       rw[Zas aA];exact hw
     . simp only at h4;have:i=0:=zO;subst this;exact⟨D,hD,ho⟩
 . have aA:i=p.length:=by simp only at h3;omega
   subst aA;refine DK ho.pl (by unfold DS;simp;omega) zO λy h' hy=>hk _ _ (Ja hD (Ja ho.dT hy.hle)) (hy.base (Ja hD ho.dT))
def BK(x:Rat):Rat:=if x<0 then -x else x
def Ad(m x:Rat):Rat:=if m<BK x then BK x else m
def Zo6(p:List Rat):Rat:=if (ft p).length<2 then (((0:Int):Rat))else ((ft p).take ((ft p).length-1)).foldl Ad (((0:Int):Rat))+(((1:Int):Rat))
def Zcz(hv:BR B v):BR B (BK v):=by
 unfold BK;split;exact hv.neg;exact hv
def Zyv(hu:BR B u)(hv:BR B v):BR B (Ad u v):=by
 unfold Ad;split;exact Zcz hv;exact hu
def zo9{f:Rat->Rat->Rat}{q:Rat}{l:List Rat}{i:Nat}(hi:i<l.length):(l.take (i+1)).foldl f q=f ((l.take i).foldl f q) l[i]:=HB hi
def Z1f{v:Rat}:v.num.sign<0↔v<0:=by
 rw[Int.sign_neg_iff];exact Zsx
def Z01(hp:PL h A l p)(hlen:p.length<=100000000)(hA:A<=50000000000)(H:∀z h',h.le h'->NR h' z (Zo6 p)->KR z h'):za (F.z4c l) KR h:=by
 refine zb _ (λK' hk=>?_) H;unfold F.z4c;refine DR hp hlen zO λr1 h1 aP eF=>?_
 obtain⟨M,hM⟩:∃M,M=ft p:=⟨_,rfl⟩;have hb:Zo6 p=if M.length<2 then (((0:Int):Rat))else (M.take (M.length-1)).foldl Ad (((0:Int):Rat))+(((1:Int):Rat)):=by rw[hM];rfl
 rw[hb]at hk;rw[<-hM]at eF;have gT:=eF.len;have ie:=eF.cap;have lM:M.length<=100000000:=by rw[hM,WI];exact Jo cF hlen
 refine zg (λh2=>?_) (λh2=>?_)
 . refine Zr zD zD λz h3 bj hz=>hk _ _ (Ja aP bj) ?_
   rw[if_pos zO];exact hz
 . rw[if_neg zO]at hk;refine Zr zD zD λz h3 bj hz=>?_
   have e:i64.wrap ((r1.len:Int)-1)=((M.length-1:Nat):Int):=by rw[gT,aM zO];omega
   refine Xg 0 (M.length-1) rfl e (Jt _) zO ?_;have cY:=(eF.le bj).cut (n:=M.length-1) zO;have lc:(r1.cut 0 (M.length-1) 4).len=M.length-1:=rfl;obtain⟨T,hT⟩:∃T,T=M.take (M.length-1):=⟨_,rfl⟩;rw[<-hT]at cY hk;have lT:T.length=M.length-1:=by rw[hT,Jk];omega
   have bT:=cY.bound;have b0:BR (A+(1+A)) (((0:Int):Rat)):=Vk.mono zO;have bF:∀i,BR (A+(1+A)) ((T.take i).foldl Ad (((0:Int):Rat))):=λi=>by
    have key:∀(L:List Rat) (m:Rat),BR (A+(1+A)) m->(∀v∈L,BR (A+(1+A)) v)->BR (A+(1+A)) (L.foldl Ad m):=by
     intro L;induction L with
     | nil=>intro m hm _;exact hm
     | cons a L ih=>intro m hm hL;exact ih _ (Zyv hm (hL a zS)) λv hv=>hL v (by simp[hv])
    exact key _ _ b0 λv hv=>bT v (List.mem_of_mem_take hv)
   refine Za (λst h'=>h3.le h'/\∃i:Nat,st.2.1=(i:Int)/\i<=T.length/\NR h' (q4 st.1) ((T.take i).foldl Ad (((0:Int):Rat)))) (λst=>(T.length-st.2.1).toNat)
    ⟨Jf _,0,rfl,Jt _,hz⟩ ?_
   rintro⟨s,_,_⟩ h4 ⟨cf,i,hi,da,hs⟩;simp only at hi hs;subst hi;refine zg (λh5=>?_) (λh5=>?_)
   . have aA:i<T.length:=by simp only[lc]at h5;omega
     refine zj (λs' h'=>h4.le h'/\NR h' (q4 s'.1) ((T.take (i+1)).foldl Ad (((0:Int):Rat)))) ?_ ?_
     . rintro⟨s',_⟩ h6 ⟨db,iQ⟩;refine⟨⟨Ja cf db,i+1,?_,aA,iQ⟩,?_⟩;simp only;rw[aM zO];rfl;simp only;rw[aM zO];omega
     . refine(cY.le cf).get i rfl aA λy hy qI=>?_
       refine zj (λs' h'=>h4.le h'/\NR h' (q4 s'.1) (BK T[i])) ?_ ?_
       . rintro⟨⟨s1,s2,s3,s4,_⟩,_⟩ h6 ⟨db,iQ⟩;refine VT iQ (hs.le db) (Zcz qI) (bF i) zO zO λh7 gj=>?_
         refine zg (λh8=>⟨Ja db gj,?_⟩) (λh8=>⟨Ja db gj,?_⟩);rw[zo9 aA,Ad,if_pos (zoh.1 h8)];exact iQ.le gj;rw[zo9 aA,Ad,if_neg (λhh=>h8 (zoh.2 hh))];exact(hs.le db).le gj
       . refine zU hy qI zO ?_;refine zg (λh6=>?_) (λh6=>⟨Jf _,?_⟩)
         . refine LV hy qI zO λw h7 gj hw=>⟨gj,?_⟩
           have:BK T[i]=- T[i]:=by unfold BK;rw[if_pos (Z1f.1 h6)]
           rw[this];exact hw
         . have:BK T[i]=T[i]:=by unfold BK;rw[if_neg (λhh=>h6 (Z1f.2 hh))]
           rw[this];exact hy
   . have aA:i=T.length:=by simp only[lc]at h5;omega
     subst aA;rw[J5]at hs;have bL:=bF T.length;rw[J5]at bL;refine Zr zD zD λo h6 db ho=>?_
     refine zX (hs.le db) ho bL Z2n zO zO λw h7 gj hw=>hk _ _ (Ja aP (Ja bj (Ja cf (Ja db gj)))) hw
end
end Den
end

section
namespace Den
open Go Iv Pq
def NI.ai{h:Hp}{a:aE}{n:Int}(hn:NI h a n):AI h a:=⟨_,hn.1,Zu _⟩
def NR.ar{h:Hp}{x:aC}{q:Rat}(hx:NR h x q):AR h x:=⟨hx.1.ai,hx.2.ai⟩
section
def bO(s:Sl):Value:=.slice s.a s.len s.cap
end
end Den
end

section
namespace Den
open Go Iv Pq
def nc(x:aE):List Value:=[.bool x.neg,.slice x.ah.a x.ah.len x.ah.cap]
def WJ(x:aE):(nc x).length=2:=rfl
def Z9d(x:aE):(nc x).all Tb=true:=rfl
def NL(h:Hp)(B:Nat)(xs:List aE)(us:List Int):Prop:=xs.length=us.length/\∀k (h1:k<xs.length) (h2:k<us.length),NI h xs[k] us[k]/\Lt B us[k]
def NL.le{h h':Hp}{B:Nat}{xs:List aE}{us:List Int}(hq:NL h B xs us)(hl:h.le h'):NL h' B xs us:=⟨hq.1,λk h1 h2=>⟨(hq.2 k h1 h2).1.le hl,(hq.2 k h1 h2).2⟩⟩
def NL.set{h:Hp}{B:Nat}{xs:List aE}{us:List Int}{x:aE}{v:Int}{k:Nat}(hq:NL h B xs us)(h1:NI h x v)(h2:Lt B v):NL h B (xs.set k x) (us.set k v):=by
 refine⟨by simp[hq.1],λj j1 j2=>?_⟩;rw[List.getElem_set,List.getElem_set];by_cases hj:k=j;rw[if_pos hj,if_pos hj];exact⟨h1,h2⟩
 . rw[if_neg hj,if_neg hj];exact hq.2 j (by simpa using j1) (by simpa using j2)
def NL.snoc{h:Hp}{B:Nat}{xs:List aE}{us:List Int}{x:aE}{v:Int}(hq:NL h B xs us)(h1:NI h x v)(h2:Lt B v):NL h B (xs++[x]) (us++[v]):=by
 refine⟨by simp[hq.1],λk k1 k2=>?_⟩;have hl:=hq.1;rcases Jx k xs.length with h3 | h3
 . rw[J2 h3,J2 zO];exact hq.2 k h3 zO
 . have h4:k=xs.length:=by simp at k1;omega
   subst h4;rw[J3 (Jd _),J3 zO];simp only[Py,Ud];have:xs.length-us.length=0:=zO;simp only[this,Ud];exact⟨h1,h2⟩
def IL(h:Hp)(B:Nat)(l:Sl)(us:List Int):Prop:=∃xs,Rd h 2 l (xs.flatMap nc)/\NL h B xs us
def OI(D h:Hp)(B:Nat)(l:Sl)(us:List Int):Prop:=∃xs,Own D h 2 l (xs.flatMap nc)/\NL D B xs us
def Zkd{h:Hp}{l:Sl}{xs:List aE}{i:Int}{K:Bool->Sl->Prop}(k:Nat)(hr:Rd h 2 l (xs.flatMap nc))(hi:i=k)(hk:k<xs.length)(H:K xs[k].neg xs[k].ah) :
 zi l i 2 λa=>aB .bool (a.add 0) (λx0=>aB .sl (a.add 1) (λx1=>K x0 x1) h) h:=by
 have hl:l.len=xs.length:=by have:=hr.1;rw[yr WJ]at this;omega
 refine C3 k hr hi zO zD λa ha=>?_
 have g:∀j v,j<2->(nc xs[k])[j]?=some v->h.cell (a.add j)=some v:=λj v hj hv=>ha j v (by rw[Hz WJ hk hj];exact hv)
 exact⟨_,g 0 _ zD rfl,_,g 1 _ zD rfl,H⟩
section
variable {B:Nat}{l m:Sl}{us:List Int}
def IL.len(hp:IL h B l us):l.len=us.length:=by
 obtain⟨xs,h1,h2⟩:=hp;have:=h1.1;rw[yr WJ,h2.1]at this;omega
def OI.il(ho:OI D h B l us):IL h B l us:=by obtain⟨xs,h1,h2⟩:=ho;exact⟨xs,h1.rd,h2.le h1.1⟩
def OI.dT(ho:OI D h B l us):D.le h:=by obtain⟨xs,h1,h2⟩:=ho;exact h1.1
def OI.get{i:Int}{K:Bool->Sl->Prop}(k:Nat)(hp:OI D h B l us)(hi:i=k)(hk:k<us.length)(H:∀x:aE,NI D x us[k]->Lt B us[k]->K x.neg x.ah) :
 zi l i 2 λa=>aB .bool (a.add 0) (λx0=>aB .sl (a.add 1) (λx1=>K x0 x1) h) h:=by
 obtain⟨xs,h1,h2⟩:=hp;have bP:k<xs.length:=by rw[h2.1];exact hk
 have:=h2.2 k bP hk;exact Zkd k h1.rd hi bP (H _ this.1 this.2)
def OI.set{i:Int}{K:Hp->Prop}{x:aE}{v:Int}(k:Nat)(hp:OI D h B l us)(hi:i=k)(hk:k<us.length)(hx:NI D x v)(bx:Lt B v)(H:∀h',OI D h' B l (us.set k v)->K h') :
 zi l i 2 λa=>bD a [.bool x.neg,.slice x.ah.a x.ah.len x.ah.cap] K h:=by
 obtain⟨xs,h1,h2⟩:=hp;exact Ma WJ zD k h1 hi (by rw[h2.1];exact hk) (Z9d x) λh' g1 g2=>H h' ⟨_,g1,h2.set hx bx⟩
def OI.call{α:Type}{G:(α->Hp->Prop)->Hp->Prop}{K1 K:α->Hp->Prop}(hp:OI D h B l us)(H:za G K1 D)
 (k:∀v D' h',D.le D'->OI D' h' B l us->K1 v D'->K v h'):za G K h:=by
 obtain⟨xs,h1,h2⟩:=hp;exact h1.call H λv D' h' g1 g2 g3=>k v D' h' g1 ⟨_,g2,h2.le g1⟩ g3
end
def Z95{k:Nat}:∀{l:List Rat} {m j:Nat},(∀x∈l,x.den<W ^ k)->m<W ^ j->fi m l<W ^ (j+l.length*k)
 | [],m,j,_,h=>by simpa [fi] using h
 | x :: r,m,j,hl,h=>by
   have h1:m*(x.den/Uq m x.den)<W ^ (j+k):=by
    rw[Gm];refine U7 (Jr _ (G6 _ _)) ?_;exact Nat.mul_lt_mul'' h (hl x zS)
   have h2:=Z95 (l:=r) (m:=m*(x.den/Uq m x.den)) (j:=j+k) (λy hy=>hl y (by simp[hy])) h1;have e:j+(x :: r).length*k=j+k+r.length*k:=by rw[Ji,J9];omega
   rw[e];exact h2
def Zmw{M:List Rat}{i:Nat}(hi:i<M.length):fi 1 (M.take (i+1))=fi 1 (M.take i)*(M[i].den/Uq (fi 1 (M.take i)) M[i].den):=by
 rw[Jc hi,jl]
def Zpk{L i:Nat}{M:List Rat}(hi:i<M.length):(Mb L M)[i]'(by unfold Mb;simpa using hi)=M[i].num*((L/M[i].den:Nat):Int):=by simp[Mb]
def Zpl{L:Nat}{M:List Rat}:(Mb L M).length=M.length:=by simp[Mb]
def Zyw{a b:Nat}:((a:Int))/((b:Int))=((a/b:Nat):Int):=rfl
def zw2{o:List Int}{x:Int}(hx:x∈o)(h0:x≠0):0<fj 0 o:=by
 rcases Gs (fj 0 o)with h1 | h1
 . have:=(fV (l:=o) (g:=0)).2 x hx;rw[h1]at this;exact absurd (Int.zero_dvd.1 this) h0
 exact h1
def zzf{α:Type}{o:List α}(h:o≠[]):o.getLast h=o[o.length-1]'(by have:=Gw.2 h;omega):=List.getLast_eq_getElem h
abbrev tI2(s:Bool×Sl×Unit):aE:=⟨s.1,s.2.1⟩
end Den
end
