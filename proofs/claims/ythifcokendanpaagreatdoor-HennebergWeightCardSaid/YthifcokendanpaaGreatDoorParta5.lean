/-
  Part 5 of the tools and contracts from which the statement is proved.
-/
import Derived.Test.YthifcokendanpaaGreatDoorParta4
import Derived.Test.YthifcokendanpaaGreatDoorChecked
import Derived.Test.YthifcokendanpaaGreatDoorTie
import Derived.LaidMore
import Derived.MakeChecks
import Derived.SevenTiedAt
set_option linter.all false
section
namespace Den
open Go Iv Lx
theorem zmr {S:Type} {body:S→(S→Hp→Prop)→Hp→Prop} {s0:S} {h0:Hp} (J:Nat→S→Hp→Prop) {n0:Nat} (h1:J n0 s0 h0)
 (h2:∀n s h,J n s h→∀K:S→Hp→Prop,(∀n' s' h',n'<n→J n' s' h'→K s' h')→body s K h):loopP body s0 h0:=by
 have least:∀s h,(∃n,J n s h)→∃n,J n s h∧∀m,J m s h→n≤m:=by
  rintro s h ⟨n,hn⟩
  induction n using Nat.strongRecOn with
  | _ n ih=>
    by_cases hh:∃m,m<n∧J m s h
    · obtain ⟨m,g1,g2⟩:=hh; exact ih m g1 g2
    · exact ⟨n,hn,fun m hm=>Nat.not_lt.1 fun hlt=>hh ⟨m,hlt,hm⟩⟩
 classical
 obtain ⟨μ,hμ⟩:∃μ:S→Hp→Nat,∀s h,(∃n,J n s h)→J (μ s h) s h∧∀m,J m s h→μ s h≤m:=
  ⟨fun s h=>if hh:∃n,J n s h then (least s h hh).choose else 0,fun s h hh=>by
   simp only [dif_pos hh]
   exact (least s h hh).choose_spec⟩
 refine ⟨fun s h=>∃n,J n s h,μ,⟨n0,h1⟩,fun s h hI=>?_⟩
 obtain ⟨g1,g2⟩:=hμ s h hI
 exact h2 _ s h g1 _ fun n' s' h' hlt hJ=>⟨⟨n',hJ⟩,Nat.lt_of_le_of_lt ((hμ s' h' ⟨n',hJ⟩).2 n' hJ) hlt⟩
section
variable {h0 h : Hp} {x y : Sl} {l : List Nat} {Ks : Sl → Hp → Prop} {Kt : ByteArray → Hp → Prop}
theorem cut_a (x:Sl) (n size:Nat):(x.cut 0 n size).a=x.a:=by
 show (if x.cap=0 then x.a else x.a.map (·.add (0*size)))=x.a
 split
 · rfl
 · cases x.a with
   | none=>rfl
   | some a=>simp only [Option.map_some,Nat.zero_mul,zb3]
theorem Own.pre {cs:List Value} (ho:Own h0 h 1 x cs) {n:Nat} (hn:n≤x.len):Own h0 h 1 (x.cut 0 n 1) (cs.take n):=by
 have hc:=ho.2.2.1
 obtain ⟨g1,g2,g3,g4⟩:=ho
 refine ⟨g1,?_,?_,?_⟩
 · show (n-0)*1=_
   rw [List.length_take]; omega
 · show n-0≤x.cap-0; omega
 · rw [cut_a]
   cases ha:x.a with
   | none=>
     rw [ha] at g4
     simp only at g4 ⊢
     show x.cap-0=0; omega
   | some a=>
     rw [ha] at g4
     obtain ⟨k1,k2,k3,b,k4,k5,k6,k7⟩:=g4
     refine ⟨k1,k2,k3,b,k4,k5,k6,?_⟩
     have e:(cs.take n).length=n:=by rw [List.length_take]; omega
     rw [e]
     have:=congrArg (List.take n) k7
     rw [List.take_take,Nat.min_eq_left (by omega)] at this
     exact this
theorem za3u (ho:OwnW h0 h x l) (hl:l.length<4611686018427387904) (H:∀y,OwnW h0 h y (trimL l)→y.a=x.a→Ks y h):callP (F.zaf x) Ks h:=by
 refine za1 (fun y h'=>h'=h∧OwnW h0 h y (trimL l)∧y.a=x.a) (fun K' hk=>?_) fun y h' _ ⟨e,hy,ha⟩=>by subst e; exact H y hy ha
 unfold F.zaf
 refine zal (fun st h'=>h'=h∧∃(y:Sl) (k:Nat),st=(y,())∧k≤l.length∧OwnW h0 h y (l.take k)∧trimL (l.take k)=trimL l∧y.a=x.a) (fun st=>st.1.len)
  ⟨rfl,x,l.length,rfl,Nat.le_refl _,by rw [List.take_of_length_le (Nat.le_refl _)]; exact ho,by rw [List.take_of_length_le (Nat.le_refl _)],rfl⟩ ?_
 rintro st h' ⟨rfl,y,k,rfl,hk2,hy,ht,ha⟩
 have hyl:=OwnW.len hy
 rw [List.length_take,Nat.min_eq_left hk2] at hyl
 refine za3 (fun _ h1=>h1=h'∧∃j,k=j+1∧∃hj:j<l.length,l[j]=0) ?_ ?_
 · rintro _ h1 ⟨rfl,j,rfl,hj,h0⟩
   have hc:=hy.2.2.1
   refine ⟨by decide,by simp only; rw [hyl,w64 (by omega)]; omega,by simp only; rw [hyl,w64 (by omega)]; omega,?_⟩
   have e:(IntKind.i64.wrap ((y.len:Int)-1)).toNat=j:=by rw [hyl,w64 (by omega)]; omega
   show ((_∧_)∧_)
   rw [e]
   have hp:=hy.pre (n:=j) (by omega)
   have e2:(wc (l.take (j+1))).take j=wc (l.take j):=by
    unfold wc; rw [←List.map_take,List.take_take]; congr 2; omega
   rw [e2] at hp
   refine ⟨⟨rfl,_,j,rfl,by omega,hp,?_,by rw [←ha]; exact cut_a _ _ _⟩,?_⟩
   · rw [←ht,List.take_succ_eq_append_getElem hj,h0,zl5]
   · show j-0<y.len; omega
 · refine za0 (fun h1=>?_) (fun h1=>?_)
   · simp only at h1
     obtain ⟨j,rfl⟩:∃j,k=j+1:=⟨k-1,by omega⟩
     have hj:j<l.length:=by omega
     refine zan j (OwnW.rdW hy) (by simp only; rw [hyl,w64 (by omega)]; omega) (by rw [List.length_take]; omega) fun a ha2=>⟨_,ha2,?_⟩
     have e:(l.take (j+1))[j]'(by rw [List.length_take]; omega)=l[j]:=by simp
     rw [e]
     refine za7 (fun h2=>⟨rfl,j,rfl,hj,by omega⟩) (fun h2=>?_)
     have h3:l[j]≠0:=by omega
     have:trimL (l.take (j+1))=l.take (j+1):=by
      rw [List.take_succ_eq_append_getElem hj,zm5 _ h3]
     refine hk _ _ (Hp.le_refl _) ⟨rfl,?_,ha⟩
     rw [←ht,this]; exact hy
   · simp only at h1
     have:k=0:=by omega
     subst this
     refine hk _ _ (Hp.le_refl _) ⟨rfl,?_,ha⟩
     rw [←ht]; exact hy
theorem za04 (hr:RdW h x l) (hl:l.length≤35184372088800) (H:∀y h',OwnW h h' y l→Ks y h'):callP (F.zb4 x) Ks h:=by
 refine za1 (fun y h'=>OwnW h h' y l) (fun K' hk=>?_) fun y h' _ hy=>H y h' hy
 unfold F.zb4
 have hlen:=hr.len
 refine za2 (fun h1=>?_) (fun h1=>?_)
 · have hn:x.a=none:=by cases hx:x.a with | none=>rfl | some a=>rw [hx] at h1; cases h1
   have:l=[]:=by
    have h2:=hr.1.2
    rw [hn] at h2
    simp only [cellsAtO] at h2
    split at h2
    · rename_i h3; rw [zj5] at h3; exact List.length_eq_zero_iff.1 h3
    · cases h2
   subst this
   exact hk _ _ (Hp.le_refl _) (Own.nil (Hp.le_refl _))
 · refine zhg (n:=0) (size:=1) rfl fun b h1 hb ho=>?_
   have hr1:=hr.le ho.1
   refine ⟨wc l,?_,?_⟩
   · have:=hr1.1.2
     rw [zj5] at this
     rw [hlen,Nat.mul_one]; exact this
   · refine zik ho (n:=x.len) (by rw [zj5]; omega) rfl ?_ (by simp only; omega) (by simp only; omega) fun y h2 hy _=>hk _ _ hy.1 hy
     simp [wc,Value.leaf]
theorem zmx {h0 h:Hp} {size bytes n:Nat} {zero new cs:List Value} {x:Sl} {K:Sl→Hp→Prop} (ho:Own h0 h size x cs) (hn:new.length=n*size) (hz:zero.length=size)
 (hleaf:new.all Value.leaf=true) (hb:(x.len+n)*bytes≤140737488355328) (hb2:x.len+n≤140737488355328)
 (H:∀y h',Own h0 h' size y (cs++new)→y.len=x.len+n→(∀j,h j≠none→(∀a,x.a=some a→j≠a.block)→h' j=h j)→(∀a,y.a=some a→(∃a',x.a=some a'∧a'.block=a.block)∨h a.block=none)→K y h'):appP size bytes zero x n new K h:=by
 have hrd:=ho.rd
 obtain ⟨h1,h2,h3,h4⟩:=ho
 refine ⟨hb,hb2,fun hfit=>?_,fun hgrow=>?_⟩
 · cases ha:x.a with
   | none=>
     rw [ha] at h4
     simp only at h4
     have hn0:n=0:=by omega
     have hnew:new=[]:=by
      cases new with
      | nil=>rfl
      | cons a b=>rw [hn0] at hn; simp at hn
     subst hnew hn0
     simp only [stO]
     refine H _ _ ⟨h1,?_,?_,?_⟩ rfl (fun j _ _=>rfl) (fun a hh=>by cases hh)
     · simpa using h2
     · show x.len+0≤x.cap; omega
     · show x.cap=0; exact h4
   | some a=>
     rw [ha] at h4
     obtain ⟨g1,g2,g3,b,g4,g5,g6,g7⟩:=h4
     have e1:(x.len+n)*size=cs.length+new.length:=by rw [Nat.add_mul,h2,hn]
     have e2:cs.length+new.length≤b.cells.length:=by rw [g6,←e1]; exact Nat.mul_le_mul_right _ hfit
     simp only [stO]
     refine ⟨b,by rw [zbg]; exact g4,zdw g2 _,g5,?_,hleaf,?_⟩
     · rw [zcs]; omega
     · rw [zbg,zcs,g1,Nat.zero_add,h2]
       refine H _ _ ⟨?_,?_,hfit,?_⟩ rfl (fun j hj hne=>Hp.ins_ne (hne a ha)) (fun a' hh=>by cases hh; exact .inl ⟨a,ha,rfl⟩)
       · intro k bk hk
         rw [Hp.ins_ne (fun hh=>by subst hh; rw [g3] at hk; cases hk)]
         exact h1 k bk hk
       · show (x.len+n)*size=_; rw [List.length_append]; exact e1
       · refine ⟨g1,g2,g3,_,Hp.ins_same _ _ _,g5,?_,?_⟩
         · show (splice b.cells cs.length new).length=_
           rw [zea (by omega)]; exact g6
         · show (splice b.cells cs.length new).take _=cs++new
           unfold splice
           rw [g7,List.length_append,List.take_append_of_le_length (by rw [List.length_append]; exact Nat.le_refl _),List.take_of_length_le (by rw [List.length_append]; exact Nat.le_refl _)]
 · refine ⟨cs,?_,fun bk e c hc hfr=>?_⟩
   · rw [h2]; exact hrd.2
   · refine H _ _ ⟨Hp.le_trans h1 (Hp.le_ins hfr),?_,hc,?_⟩ rfl (fun j hj _=>Hp.ins_ne fun hh=>hj (by rw [hh]; exact hfr)) (fun a' hh=>by cases hh; exact .inr hfr)
     · show (x.len+n)*size=_; rw [List.length_append,Nat.add_mul,h2,hn]
     · refine ⟨rfl,rfl,?_,_,Hp.ins_same _ _ _,rfl,?_,?_⟩
       · cases hk:h0 bk with
         | none=>rfl
         | some b=>have:=h1 _ _ hk; rw [hfr] at this; cases this
       · show (cs++new++repl (c-(x.len+n)) zero).length=c*size
         have hr:(repl (c-(x.len+n)) zero).length=(c-(x.len+n))*size:=by
          unfold repl
          simp [hz]
         rw [List.length_append,List.length_append,hr,hn,←h2,←Nat.add_mul,←Nat.add_mul]
         congr 1; omega
       · show (cs++new++repl (c-(x.len+n)) zero).take _=cs++new
         rw [List.take_append_of_le_length (by simp)]
         exact List.take_of_length_le (Nat.le_refl _)
theorem zaax {l:List Nat} {i v:Int} {K:Hp→Prop} (k n:Nat) (ho:OwnW h0 h x l) (hi:i=k) (hk:k<l.length) (hv:v=n)
 (H:∀h',OwnW h0 h' x (l.set k n)→(∀j,(∀a,x.a=some a→j≠a.block)→h' j=h j)→K h'):idxP x i 1 fun a=>stP a [.int .u32 v] K h:=by
 subst hv
 refine za26 k ho hi (by rw [OwnW.len ho]; exact hk) rfl (by decide) rfl fun h' h1 h2=>H h' ?_ h2
 rw [Nat.mul_one] at h1
 have e:wc (l.set k n)=splice (wc l) k [Value.int .u32 (n:Int)]:=by
  rw [zki]
  unfold wc
  rw [List.map_set,List.set_eq_take_append_cons_drop,if_pos (by simpa using hk)]
 unfold OwnW
 rw [e]; exact h1
theorem zsf {h':Hp} {size:Nat} {cs:List Value} (ho:Own h0 h size y cs) (hap:Apt x y) (hs:∀j,h j≠none→(∀a,x.a=some a→j≠a.block)→h' j=h j) (hl:h0.le h'):Own h0 h' size y cs:=by
 obtain ⟨g1,g2,g3,g4⟩:=ho
 refine ⟨hl,g2,g3,?_⟩
 cases ha:y.a with
 | none=>rw [ha] at g4; exact g4
 | some a=>
   rw [ha] at g4
   obtain ⟨k1,k2,k3,b,k4,k5⟩:=g4
   refine ⟨k1,k2,k3,b,?_,k5⟩
   rw [hs a.block (by rw [k4]; simp) fun c hc=>(hap c a hc ha).symm]; exact k4
theorem word9 {r w:Nat} (hr:r<1000000000) (hw:w<W) :
 IntKind.u32.wrap (IntKind.u64.wrap ((ibits .or .u64 (IntKind.u64.wrap ((r:Int)*2 ^ (min (32:Int).toNat IntKind.u64.bits))) (IntKind.u64.wrap (w:Int))).tdiv 1000000000))=(((r*W+w)/1000000000:Nat):Int):=by
 have:=zvr (b:=1000000000) hr (by decide) hw
 rw [show IntKind.u64.wrap ((1000000000:Nat):Int)=1000000000 from by decide] at this
 exact this
theorem zabj {C:Sl} {cc:List Value} {ls:List Nat} {Kf:Int→Hp→Prop} (ho:OwnW h0 h x ls) (okl:okW ls) (hl:ls.length≤35184372088800) (hc:Own h0 h 1 C cc) (hap:Apt x C)
 (H:∀h' ws,OwnW h0 h' x ws→okW ws→ws.length=ls.length→vl ws=vl ls/1000000000→Own h0 h' 1 C cc→Kf ((vl ls % 1000000000:Nat):Int) h') :
 (loopP (S:=Int×Int×Unit) (fun s5 k6 h4=>
 (ifP (decide (s5.2.1≥0))
 (0≤(32:Int) ∧
 (idxP x s5.2.1 1 fun a7=>
 (ldL (.int .u32) a7 (fun x8=>
 ((1000000000:Int)≠0 ∧
 (idxP x s5.2.1 1 fun a9=>
 (stP a9 [.int .u32 (IntKind.u32.wrap ((IntKind.u64.wrap (((ibits .or .u64 (IntKind.u64.wrap (s5.1*2 ^ (min (32:Int).toNat IntKind.u64.bits))) (IntKind.u64.wrap (x8))):Int).tdiv 1000000000))))] (fun h5=>
 ((1000000000:Int)≠0 ∧
 (k6 (((ibits .or .u64 (IntKind.u64.wrap (s5.1*2 ^ (min (32:Int).toNat IntKind.u64.bits))) (IntKind.u64.wrap (x8))):Int).tmod 1000000000,(IntKind.i64.wrap (s5.2.1-1)),()) h5))) h4)))) h4)))
 (Kf s5.1 h4)))
 (0,(IntKind.i64.wrap ((x.len:Int)-1)),()) h):=by
  have lx:=OwnW.len ho
  refine zal (fun st h'=>∃(k rem:Nat) (r:List Nat),st=((rem:Int),(k:Int)-1,())∧k≤ls.length∧rem<1000000000∧OwnW h0 h' x r∧okW r∧r.length=ls.length∧r.take k=ls.take k∧vl (ls.drop k)=1000000000*vl (r.drop k)+rem∧Own h0 h' 1 C cc)
   (fun st=>(st.2.1+1).toNat) ⟨ls.length,0,ls,by rw [lx,w64 (by omega)]; rfl,Nat.le_refl _,by decide,ho,okl,rfl,rfl,by rw [List.drop_eq_nil_of_le (Nat.le_refl _)]; rfl,hc⟩ ?_
  rintro st h2 ⟨k,rem,r,rfl,hk,hrem,ho2,okr,hrl,htk,hv,hc2⟩
  refine za0 (fun h3=>?_) (fun h3=>?_)
  · obtain ⟨j,rfl⟩:∃j,k=j+1:=⟨k-1,by have:(k:Int)-1≥0:=h3; omega⟩
    have hj:j<ls.length:=by omega
    have hjr:j<r.length:=by omega
    have hw:=zc1 okl hj
    have hji:((j+1:Nat):Int)-1=(j:Int):=by omega
    have ejr:r[j]=ls[j]:=by
     have:=congrArg (fun l:List Nat=>l[j]?) htk
     simp only [List.getElem?_take,Nat.lt_succ_self,if_true] at this
     rw [List.getElem?_eq_getElem hjr,List.getElem?_eq_getElem hj] at this
     exact Option.some.inj this
    simp only [hji]
    refine ⟨by decide,zan j (OwnW.rdW ho2) rfl hjr fun a ha=>⟨_,ha,by decide,?_⟩⟩
    rw [ejr]
    refine zaax j _ ho2 rfl hjr (word9 hrem hw) fun h5 ho5 hs5=>⟨by decide,?_⟩
    rw [or32 (by unfold W; omega) hw]
    have em:(((rem*W+ls[j]:Nat):Int)).tmod 1000000000=(((rem*W+ls[j]) % 1000000000:Nat):Int):=tmodn (rem*W+ls[j]) 1000000000
    rw [em]
    refine ⟨⟨j,_,_,by rw [w64 (by omega)],by omega,Nat.mod_lt _ (by decide),ho5,zd0 okr (zus hrem hw),by simp [hrl],?_,zvs hj hrl hv,zsf hc2 hap (fun i hi hne=>hs5 i hne) ho5.1⟩,by rw [w64 (by omega)]; omega⟩
    rw [List.take_set_of_le (Nat.le_refl _)]
    have:=congrArg (List.take j) htk
    rw [List.take_take,List.take_take,Nat.min_eq_left (by omega)] at this
    exact this
  · obtain rfl:k=0:=by have:¬(k:Int)-1≥0:=h3; omega
    simp only [List.drop_zero] at hv
    have e1:vl ls/1000000000=vl r:=by rw [hv,Nat.mul_add_div (by decide),Nat.div_eq_of_lt hrem]; omega
    have e2:vl ls % 1000000000=rem:=by rw [hv,Nat.mul_add_mod,Nat.mod_eq_of_lt hrem]
    have:=H h2 r ho2 okr hrl e1.symm hc2
    rw [e2] at this
    exact this
end
end Den
end

section
namespace Den
open Go Iv Lx
section
variable {h0 h : Hp} {x y : Sl} {l : List Nat} {Ks : Sl → Hp → Prop} {Kt : ByteArray → Hp → Prop} {n : Nat}
theorem BLD.rebase {h':Hp} (hb:BLD h0 h n []) (hl:h.le h'):BLD (h'.del n) h' n []:=by
 obtain ⟨q,x,h1,h2,h3,h4,h5,h6⟩:=hb
 have ha:x.a=none:=h6.elim id fun hh=>absurd rfl hh
 refine ⟨q,x,hl _ _ h1,h2,Hp.del_same _ _,⟨⟨Hp.del_le _ _,h4.1.2.1,h4.1.2.2.1,?_⟩,fun a b hh=>by rw [ha] at hh; cases hh⟩,h5,h6⟩
 have:=h4.1.2.2.2
 rw [ha] at this ⊢; exact this
theorem BLD.beside {α:Type} {D:Hp} {l:List UInt8} {G:(α→Hp→Prop)→Hp→Prop} {K1 K:α→Hp→Prop} (hb:BLD D h n l) (H:callP G K1 D) (k:∀v D' h',D.le D'→BLD D h' n l→K1 v D'→K v h'):callP G K h:=by
 refine zq8 hb.hle H fun v D' h' l1 l2 hfr hv=>k v D' h' l1 ?_ hv
 obtain ⟨q,x,h1,h2,h3,h4,h5,h6⟩:=hb
 have hn:=hfr n h3 (by rw [h1]; simp)
 refine ⟨q,x,by rw [hn.2]; exact h1,h2,h3,⟨(h4.1.move l2 hfr).base l1,fun a b ha hab=>?_⟩,h5,h6⟩
 obtain ⟨_,_,_,g4⟩:=h4.1
 rw [ha] at g4
 obtain ⟨k1,k2,k3,b2,k4,k5⟩:=g4
 have:=(hfr a.block k3 (by rw [k4]; simp)).2
 rw [this] at hab
 exact h4.2 a b ha hab
theorem zadg {b:Nat} {h h':Hp} (hl:h.le h') (hb:h b=none):h.le (h'.del b):=fun k c hk=>by
 have hn:k≠b:=fun hh=>by rw [hh,hb] at hk; cases hk
 unfold Hp.del
 rw [if_neg hn]; exact hl k c hk
def chl (cs:List Nat):Nat:=match cs.getLast? with
 | none=>0
 | some c=>dg9 c+9*(cs.length-1)
theorem za9x (cs:List Nat) (c:Nat):chl (cs++[c])=dg9 c+9*cs.length:=by unfold chl; simp
theorem zw9 {C:Sl} {cs:List Nat} {p:Nat} (hC:RdW h C cs) (hcs:∀c∈cs,c<1000000000) (hlen:cs.length≤2000) (hne:cs≠[]) (ht:P10 h) (hb:BLD h h0 p [])
 (H:∀s h',h.le h'→s.size=chl cs→Kt s h') :
 callP (F.zbs C) (fun r15 h10=>
 (backP (S:=Unit) (.leaf (.int .u32)) r15 (fun i16 v17 s18 k19 h11=>
 (callP (F.zem (IntKind.u64.wrap (v17)) 10) (fun r21 h13=>
 (joinP (S:=Unit) (fun s22 h14=>
 (callM (F.zb1 (some ⟨p,0,none⟩) r21) (fun r24 h15=>
 (k19 () h15)) h14))
 (fun k23=>
 (ifP (decide (i16<(IntKind.i64.wrap ((C.len:Int)-1))))
 (callP (F.zfb ⟨#[48]⟩ (IntKind.i64.wrap (9-((r21:ByteArray).size:Int)))) (fun r25 h16=>
 (callM (F.zb1 (some ⟨p,0,none⟩) r25) (fun r26 h17=>
 (k23 () h17)) h16)) h13)
 (k23 () h13))))) h11))
 () (fun s20 h12=>
 (callM (F.zeb (some ⟨p,0,none⟩)) (fun r27 h18=>
 (Kt r27 h18)) h12)) h10)) h0:=by
  have hCl:=hC.len
  refine za1 (fun (a:Addr) h'=>h'.cell a=some (.slice C.a C.len C.cap)∧a.block≠p) (fun K' hk=>?_) fun a h1 l1 ⟨ha,han⟩=>?_
  · unfold F.zbs
    intro b e hbf
    refine hk _ _ (Hp.le_ins hbf) ⟨?_,fun hh=>?_⟩
    · unfold Hp.cell
      simp [Hp.ins_same]
    · obtain ⟨q,x,g1,_⟩:=hb
      have hh2:b=p:=hh
      rw [←hh2,hbf] at g1; cases g1
  · have hp0:h p=none:=by obtain ⟨q,x,g1,g2,g3,_⟩:=hb; exact g3
    have hb1:=hb.rebase l1
    have hD:h.le (h1.del p):=zadg (Hp.le_trans hb.hle l1) hp0
    obtain ⟨D,hDe⟩:∃D,D=h1.del p:=⟨_,rfl⟩
    rw [←hDe] at hb1 hD
    have hCD:=hC.le hD
    have htD:=ht.le hD
    have haD:D.cell a=some (.slice C.a C.len C.cap):=by
     rw [hDe]
     unfold Hp.cell Hp.del at *
     simp only [if_neg han]
     exact ha
    obtain ⟨f,hf⟩:∃f:Nat→Nat,f=fun k=>if k=cs.length then 0 else dg9 (cs.getLastD 0)+9*(cs.length-1-k):=⟨_,rfl⟩
    refine ⟨C,fun k s h'=>k≤cs.length∧∃l,BLD D h' p l∧l.length=f k,by omega,⟨by omega,[],hb1,by rw [hf]; simp [hCl]⟩,fun i s h' hI=>?_,fun i s h' hi hI=>?_,fun s h' hI=>?_⟩
    · obtain ⟨_,l,hl,_⟩:=hI
      exact Hp.cell_le hl.hle haD
    · obtain ⟨hk,l,hl,hll⟩:=hI
      have hi':i<cs.length:=by omega
      have hr':=hCD.le hl.hle
      have h2:=hr'.1.2
      cases hxa:C.a with
      | none=>
        rw [hxa] at h2
        simp only [cellsAtO] at h2
        split at h2
        · rename_i h3; rw [zj5] at h3; omega
        · cases h2
      | some ad=>
        rw [hxa] at h2
        simp only [cellsAtO] at h2
        have hc9:=hcs _ (List.getElem_mem hi')
        refine ⟨ad,(cs[i]:Int),rfl,fun j u hj=>?_,?_⟩
        · have hj0:j=0:=by
           rcases Nat.eq_zero_or_pos j with h3 | h3
           · exact h3
           · exfalso
             have:((STy.leaf (.int .u32)).cells (cs[i]:Int))[j]?=none:=by
              apply List.getElem?_eq_none
              simp only [STy.cells,List.length_singleton]; omega
             rw [this] at hj; cases hj
          subst hj0
          simp only [STy.cells,List.getElem?_cons_zero,Option.some.injEq] at hj
          subst hj
          refine zhc h2 _ _ ?_
          simp [wc,STy.size,hi',Lf.up]
        · have hfs:l.length≤20000:=by
           rw [hll,hf]
           have:=zok (cs.getLastD 0)
           simp only
           split<;>omega
          simp only
          rw [show IntKind.u64.wrap (cs[i]:Int)=((cs[i]:Nat):Int) from u64n (by omega)]
          refine hl.beside (K1:=fun (s:ByteArray) _=>s.size=dg9 cs[i]) (zsn htD hc9 fun s h' _ hs=>hs) fun s D3 h3 _ hb3 hs=>?_
          · have d9:=zok cs[i]
            refine za3 (fun _ h''=>∃l2,BLD D h'' p l2∧l2.length+dg9 cs[i]=f i) ?_ ?_
            · rintro _ h4 ⟨l2,hb4,hl4⟩
              refine zuc hb4 (by rw [hf] at hl4; have:=zok (cs.getLastD 0); simp only at hl4; split at hl4<;>omega) (fun hh=>by have:=zcz s; rw [hh] at this; simp at this; omega) (by omega) fun h5 hb5=>⟨by omega,_,hb5,?_⟩
              rw [List.length_append,zcz,hs]; exact hl4
            · have e1:IntKind.i64.wrap ((C.len:Int)-1)=(cs.length:Int)-1:=by rw [hCl,w64 (by omega)]
              rw [e1]
              have elast:i+1=cs.length→cs.getLastD 0=cs[i]:=fun hh=>by
               rw [List.getLastD_eq_getLast?,List.getLast?_eq_getElem?]
               have:cs.length-1=i:=by omega
               rw [this,List.getElem?_eq_getElem hi']; rfl
              refine za0 (fun h5=>?_) (fun h5=>?_)
              · rw [show IntKind.i64.wrap (9-((s.size:Nat):Int))=((9-s.size:Nat):Int) from by rw [w64 (by omega)]; omega]
                refine hb3.beside (K1:=fun (t:ByteArray) _=>t.size=9-s.size) (zrg (by omega) fun s h' _ hs=>hs) fun t D6 h6 _ hb6 ht6=>?_
                · refine zsq hb6 (by omega) (.inr fun hh=>?_) (by omega) fun h7 hb7=>⟨_,hb7,?_⟩
                  · subst hh
                    rw [hf] at hll
                    simp only [List.length_nil] at hll
                    rw [if_neg (by omega)] at hll
                    have:=zok (cs.getLastD 0); omega
                  · rw [List.length_append,zcz,hll,ht6,hs,hf]
                    simp only
                    rw [if_neg (by omega),if_neg (by omega)]; omega
              · refine ⟨l,hb3,?_⟩
                have hi1:i+1=cs.length:=by omega
                rw [hll,hf]
                simp only
                rw [if_pos hi1,if_neg (by omega),elast hi1]; omega
    · obtain ⟨_,l,hl,hll⟩:=hI
      have hfs:l.length=chl cs:=by
       rw [hll,hf]
       simp only
       have hne0:¬0=cs.length:=fun hh=>hne (List.eq_nil_of_length_eq_zero hh.symm)
       rw [if_neg hne0]
       unfold chl
       rw [List.getLastD_eq_getLast?]
       cases hg:cs.getLast? with
       | none=>exact absurd (List.getLast?_eq_none_iff.1 hg) hne
       | some c=>simp
      refine za41 hl (by rw [hll,hf]; have:=zok (cs.getLastD 0); simp only; split<;>omega) fun h5 hl5=>H _ _ (Hp.le_trans hD hl5) ?_
      show l.toArray.size=_
      simpa using hfs
end
end Den
end

section
namespace Den
open Go Iv Lx
theorem W_two (e:Nat):W ^ e=2 ^ (32*e):=by rw [W_eq,Nat.pow_mul]
theorem W_ten (e:Nat):W ^ e≤10 ^ (10*e):=by
 rw [Nat.pow_mul]
 exact Nat.pow_le_pow_left (by rw [W_eq]; decide) e
theorem zacq {n E:Nat} (hE:E=32*50) (h:(dg n).length≤50):n<2 ^ E:=by
 have h1:=zb9.1 h
 have h2:=W_two 50
 rw [←hE] at h2
 rw [h2] at h1
 exact h1
theorem zwq {n:Nat} (h:(dg n).length≤50):dgt n≤1000:=by
 obtain ⟨E,hE⟩:∃E,E+1=10*50:=⟨499,rfl⟩
 have h1:=zb9.1 h
 have h2:=W_ten 50
 rw [←hE] at h2
 have:=za4e (n:=n) (k:=E) (Nat.lt_of_lt_of_le h1 h2)
 omega
section
variable {h0 h : Hp} {x y : Sl} {l : List Nat} {Ks : Sl → Hp → Prop} {Kt : ByteArray → Hp → Prop} {n : Nat} {a : TInt}
theorem zzr (ha:NI h a (n:Int)) (hl:(dg n).length≤50) (ht:P10 h) (H:∀s h',h.le h'→s.size=dgt n→Kt s h'):callP (F.zio a) Kt h:=by
 refine za1 (fun s h'=>s.size=dgt n) (fun K' hk=>?_) fun s h' hl hs=>H s h' hl hs
 unfold F.zio
 have hneg:=ha.2
 rw [decide_eq_false (by omega)] at hneg
 have ha1:=ha.1
 rw [Int.natAbs_natCast] at ha1
 refine zpv ha1 (by omega) fun r1 hr1=>?_
 refine za04 hr1 (by omega) fun r2 h2 ho2=>?_
 have hl2:=ho2.1
 have len2:=OwnW.len ho2
 refine za7 (fun h3=>hk _ _ hl2 ?_) (fun h3=>?_)
 · have:n=0:=by
    rw [←zef]
    exact List.eq_nil_of_length_eq_zero (by omega)
   subst this
   rw [zfe (by decide)]; rfl
 · have hn0:n≠0:=fun hh=>h3 (by rw [len2,zef.2 hh]; rfl)
   refine zmr (fun V st h'=>∃cs:List Nat,OwnW h h' st.1 (dg V)∧OwnW h h' st.2.1.1 cs∧Apt st.1 st.2.1.1∧(∀c∈cs,c<1000000000)∧(dg V).length≤50∧cs.length≤2000∧V*2 ^ cs.length≤n ∧
    ((0<V∧dgt n=dgt V+9*cs.length)∨(V=0∧cs≠[]∧dgt n=chl cs))) (n0:=n)
    ⟨[],ho2,Own.nil hl2,(fun a b h1 h2=>by cases h2),by simp,hl,by simp,by simp,.inl ⟨by omega,by simp⟩⟩ ?_
   rintro V ⟨m,⟨C,_⟩,_⟩ h4 ⟨cs,hm,hC,hap,hcs,hlen,hlen2,hpw,hcase⟩ K2 hK2
   simp only at hm hC hap
   have lm:=OwnW.len hm
   refine za0 (fun h5=>?_) (fun h5=>?_)
   · simp only at h5
     have hV:0<V:=by
      rcases Nat.eq_zero_or_pos V with h6 | h6
      · rw [h6,zbz] at lm; simp at lm; omega
      · exact h6
     obtain ⟨_,hd⟩:0<V∧dgt n=dgt V+9*cs.length:=hcase.resolve_right fun hh=>by omega
     refine zabj (C:=C) (cc:=wc cs) hm (ok_dg V) (by omega) hC hap (Kf:=fun s h4=>callP (F.zaf m) (fun r10 h6=>appP 1 4 [.int .u32 0] C 1 [.int .u32 (IntKind.u32.wrap s)] (fun w11 h7=>K2 (r10,(w11,()),()) h7) h6) h4) fun h6 ws hw okw hwl hv hC6=>?_
     rw [vl_dg] at hv
     rw [vl_dg]
     refine za3u hw (by omega) fun r hr hra=>?_
     rw [zc6 okw,hv] at hr
     have hr9:V % 1000000000<1000000000:=Nat.mod_lt _ (by decide)
     rw [show IntKind.u32.wrap ((V % 1000000000:Nat):Int)=((V % 1000000000:Nat):Int) from wu32 (by omega)]
     have lC:=OwnW.len hC6
     refine zmx hC6 (n:=1) (new:=[Value.int .u32 ((V % 1000000000:Nat):Int)]) rfl rfl rfl (by omega) (by omega) fun w h7 hw7 _ hs7 hb7=>?_
     have hap2:Apt w r:=fun c d hc hd=>by
      rw [hra] at hd
      rcases hb7 c hc with ⟨a',h8,h9⟩ | h8
      · rw [←h9]; exact (hap d a' hd h8).symm
      · intro hh
        obtain ⟨_,_,_,g4⟩:=hw
        rw [hd] at g4
        obtain ⟨_,_,_,b,g5,_⟩:=g4
        rw [←hh,h8] at g5; cases g5
     have hapC:Apt C r:=fun c d hc hd=>by rw [hra] at hd; exact (hap d c hd hc).symm
     obtain ⟨E,hE⟩:∃E,E=32*50:=⟨_,rfl⟩
     have hk960:cs.length<E:=Nat.not_le.1 fun hh=>by
      have g1:=zacq hE hl
      have g3:2 ^ E≤2 ^ cs.length:=Nat.pow_le_pow_right (by decide) hh
      have g4:2 ^ cs.length≤V*2 ^ cs.length:=Nat.le_mul_of_pos_left _ hV
      exact absurd (Nat.le_trans g3 (Nat.le_trans g4 hpw)) (Nat.not_le.2 g1)
     have hlt:V/1000000000<V:=Nat.div_lt_self hV (by decide)
     refine hK2 (V/1000000000) _ _ hlt ⟨cs++[V % 1000000000],zsf hr hapC hs7 hw7.1,?_,hap2.symm,?_,?_,?_,?_,?_⟩
     · show OwnW _ _ _ _
       unfold OwnW
       rw [show wc (cs++[V % 1000000000])=wc cs++[Value.int .u32 ((V % 1000000000:Nat):Int)] by unfold wc; rw [List.map_append]; rfl]
       exact hw7
     · intro c hc
       rcases List.mem_append.1 hc with hc | hc
       · exact hcs c hc
       · rw [List.mem_singleton.1 hc]; exact hr9
     · rw [zb9] at hlen ⊢
       exact Nat.lt_of_le_of_lt (Nat.le_of_lt hlt) hlen
     · simp; omega
     · rw [List.length_append,List.length_singleton,Nat.pow_succ]
       have h8:V/1000000000*2≤V:=by omega
       have h9:=Nat.mul_le_mul_right (2 ^ cs.length) h8
       have h10:V/1000000000*(2 ^ cs.length*2)=V/1000000000*2*2 ^ cs.length:=by rw [Nat.mul_comm (2 ^ cs.length) 2,Nat.mul_assoc]
       rw [h10]; omega
     · by_cases h8:1000000000≤V
       · left
         refine ⟨Nat.div_pos h8 (by decide),?_⟩
         rw [hd,zabi h8,List.length_append,List.length_singleton]; omega
       · right
         refine ⟨Nat.div_eq_of_lt (by omega),by simp,?_⟩
         rw [hd,za9x,Nat.mod_eq_of_lt (by omega),dgt_9 (by omega)]
   · simp only at h5
     have hV:V=0:=by
      rw [←zef]
      exact List.eq_nil_of_length_eq_zero (by omega)
     obtain ⟨_,hne,hd⟩:=hcase.resolve_left fun hh=>by omega
     refine zabu fun p h6 hb6=>?_
     refine za3 (fun _ h'=>h'=h6) ?_ ?_
     · rintro _ h7 rfl
       exact zw9 (h:=h4) (OwnW.rdW hC) hcs hlen2 hne (ht.le hC.1) hb6 fun s h8 hl8 hs=>hk _ _ (Hp.le_trans hC.1 hl8) (by rw [hs,hd])
     · rw [hneg]
       exact zah rfl rfl
theorem zyj (ha:NI h a (n:Int)) (hl:(dg n).length≤50) (H:∀s h',h.le h'→s.size=dgt n→Kt s h'):callP (F.zk9 a) Kt h:=by
 refine za1 (fun s h'=>s.size=dgt n) (fun K' hk=>?_) fun s h' hl hs=>H s h' hl hs
 unfold F.zk9
 refine zo7 ha (by rw [Int.natAbs_natCast]; omega) fun y hy=>?_
 have hneg:=hy.2
 rw [decide_eq_false (by omega)] at hneg
 have hy1:=hy.1
 rw [Int.natAbs_natCast] at hy1
 have dle:=zwq hl
 refine zmr (fun V st h'=>h.le h'∧RdW h' st.2.1 (dg V)∧V≤n∧((0<V∧st.1.size+dgt V=dgt n)∨(V=0∧(st.1.size=dgt n∨(n=0∧st.1.size=0))))) (n0:=n)
  ⟨Hp.le_refl _,hy1,Nat.le_refl _,by
   rcases Nat.eq_zero_or_pos n with h0 | h0
   · exact .inr ⟨h0,.inr ⟨h0,rfl⟩⟩
   · exact .inl ⟨h0,by show 0+_=_; omega⟩⟩ ?_
 rintro V ⟨s,m,_⟩ h1 ⟨hl1,hm,hVn,hcase⟩ K2 hK2
 simp only at hm hcase
 have lm:=hm.len
 refine za0 (fun h2=>?_) (fun h2=>?_)
 · simp only at h2
   have hV:0<V:=by
    rcases Nat.eq_zero_or_pos V with h6 | h6
    · rw [h6,zbz] at lm; simp at lm; omega
    · exact h6
   have hs:s.size+dgt V=dgt n:=(hcase.resolve_right fun hh=>by omega).2
   have hV30:(dg V).length≤50:=by
    rw [zb9] at hl ⊢
    omega
   refine za19 hm (ok_dg V) (by decide) (by decide) (by omega) fun z h3 hl3 hz=>?_
   rw [vl_dg] at hz ⊢
   refine zhg (n:=1) (size:=1) rfl fun b h4 hb ho=>?_
   obtain ⟨c,hc⟩:=u8r (IntKind.u32.wrap (48+((V % 10:Nat):Int)))
   refine ⟨[c],?_,?_⟩
   · have:=ho.rd.2
     show cellsAtO h4 _ 1=some [Value.int .u8 (c.toNat:Int)]
     rw [←hc]; exact this
   · have e1:(⟨[c].toArray⟩:ByteArray).size=1:=rfl
     refine ⟨by rw [e1]; simp only; omega,?_⟩
     have hlt:V/10<V:=Nat.div_lt_self hV (by decide)
     refine hK2 (V/10) _ _ hlt ⟨Hp.le_trans hl1 (Hp.le_trans hl3 ho.1),hz.le ho.1,by omega,?_⟩
     show ((0<V/10∧(_++s:ByteArray).size+_=_)∨(V/10=0∧((_++s:ByteArray).size=_∨(n=0∧(_++s:ByteArray).size=0))))
     rw [ByteArray.size_append,e1]
     by_cases h10:10≤V
     · left
       refine ⟨Nat.div_pos h10 (by decide),?_⟩
       rw [zd6 h10] at hs; omega
     · right
       refine ⟨Nat.div_eq_of_lt (by omega),.inl ?_⟩
       rw [zfe (by omega)] at hs; omega
 · simp only at h2
   have hV:V=0:=by
    rw [←zef]
    exact List.eq_nil_of_length_eq_zero (by omega)
   have dp:=zui n
   have hs:s.size=dgt n∨(n=0∧s.size=0):=(hcase.resolve_left fun hh=>by omega).2
   refine za2 (fun h3=>?_) (fun h3=>?_)
   · refine hk _ _ hl1 ?_
     rcases hs with hs | ⟨h0,hs⟩
     · exfalso
       simp only [zhv] at h3
       have:=beq_iff_eq.1 h3
       have l1:=zcz s
       rw [this] at l1
       have:(BS emptyS).length=0:=rfl
       omega
     · subst h0
       rw [zfe (by decide)]; rfl
   · refine zah hneg (hk _ _ hl1 ?_)
     rcases hs with hs | ⟨h0,hs⟩
     · exact hs
     · exfalso
       simp only [zhv] at h3
       have l1:=zcz s
       rw [hs] at l1
       have h5:BS s=[]:=List.eq_nil_of_length_eq_zero l1
       rw [h5] at h3
       exact absurd h3 (by decide)
end
end Den
end

section
namespace Den
open Go Iv Lx
theorem ziz {cells:List Value} {K:Addr→Hp→Prop} {h:Hp}
 (H:∀a h',h.le h'→(∀i v,cells[i]?=some v→h'.cell (a.add i)=some v)→K a h'):newP cells K h:=by
 intro b e hb
 refine H _ _ (Hp.le_ins hb) fun i v hv=>?_
 unfold Hp.cell
 rw [zbg,zdw rfl,zcs]
 simpa [Hp.ins_same] using hv
theorem ze0 {v:Value} {K:Addr→Hp→Prop} {h:Hp} (H:∀a h',h.le h'→h'.cell a=some v→K a h'):newP [v] K h:=
 ziz fun a h' hl hc=>H a h' hl (by have:=hc 0 v rfl; rwa [zb3] at this)
theorem zo0 {h:Hp} {a:Addr} {cells:List Value} (hc:∀i v,cells[i]?=some v→h.cell (a.add i)=some v):∀n,n≤cells.length→cellsAt h a n=some (cells.take n)
 | 0,_=>by simp [cellsAt]
 | n+1,hn=>by
   unfold cellsAt
   rw [zo0 hc n (by omega)]
   simp only
   rw [hc n _ (List.getElem?_eq_getElem (by omega))]
   simp only
   rw [List.take_add_one,List.getElem?_eq_getElem (by omega)]
   rfl
theorem zex {h:Hp} {a:Addr} {cells:List Value} {size n c:Nat} (hc:∀i v,cells[i]?=some v→h.cell (a.add i)=some v) (hn:n*size=cells.length):Rd h size ⟨some a,n,c⟩ cells:=by
 refine ⟨hn,?_⟩
 show cellsAt h a cells.length=_
 rw [zo0 hc _ (Nat.le_refl _),List.take_length]
theorem za7o {cells:List Value} {K:Addr→Hp→Prop} {h:Hp} (size n:Nat) (hn:n*size=cells.length) (H:∀a h',h.le h'→Rd h' size ⟨some a,n,n⟩ cells→K a h'):newP cells K h:=
 ziz fun a h' hl hc=>H a h' hl (zex hc hn)
section
variable {α β : Type}
def LR (c:α→List Value) (n:Nat) (P:Hp→α→β→Prop) (h:Hp) (l:Sl) (ps:List β):Prop:=
 ∃xs:List α,Rd h n l (xs.flatMap c)∧l.len≤l.cap∧xs.length=ps.length∧∀k (h1:k<xs.length) (h2:k<ps.length),P h xs[k] ps[k]
def LO (c:α→List Value) (n:Nat) (P:Hp→α→β→Prop) (D h:Hp) (l:Sl) (ps:List β):Prop:=
 ∃xs:List α,Own D h n l (xs.flatMap c)∧xs.length=ps.length∧∀k (h1:k<xs.length) (h2:k<ps.length),P D xs[k] ps[k]
structure Rec (c:α→List Value) (n:Nat) (P:Hp→α→β→Prop):Prop where
 len:∀x,(c x).length=n
 pos:0<n
 leaf:∀x,(c x).all Value.leaf=true
 mono:∀{h h':Hp} {x:α} {b:β},P h x b→h.le h'→P h' x b
variable {c : α → List Value} {n : Nat} {P : Hp → α → β → Prop} {D h h' : Hp} {l : Sl} {ps : List β}
theorem LR.le (hR:Rec c n P) (hx:LR c n P h l ps) (hl:h.le h'):LR c n P h' l ps:=by
 obtain ⟨xs,h1,h2,h3,h4⟩:=hx
 exact ⟨xs,h1.le hl,h2,h3,fun k k1 k2=>hR.mono (h4 k k1 k2) hl⟩
theorem LR.len (hR:Rec c n P) (hx:LR c n P h l ps):l.len=ps.length:=by
 obtain ⟨xs,h1,h2,h3,h4⟩:=hx
 have:=h1.1
 rw [zgt hR.len] at this
 rw [←h3]
 exact Nat.eq_of_mul_eq_mul_right hR.pos this
theorem LR.cap (hx:LR c n P h l ps):l.len≤l.cap:=by obtain ⟨xs,h1,h2,h3,h4⟩:=hx; exact h2
theorem LR.nil:LR c n P h nilS []:=⟨[],Rd.nil,Nat.le_refl _,rfl,fun k h1 _=>by simp at h1⟩
theorem LR.get {i:Int} {K:Addr→Prop} (hR:Rec c n P) (hx:LR c n P h l ps) (k:Nat) (hi:i=k) (hk:k<ps.length)
 (H:∀a x,P h x ps[k]→(∀j v,(c x)[j]?=some v→h.cell (a.add j)=some v)→K a):idxP l i n K:=by
 obtain ⟨xs,h1,h2,h3,h4⟩:=hx
 refine rd_el hR.len hR.pos h1 k hi (by omega) fun a ha=>H a xs[k] (h4 k (by omega) hk) fun j v hv=>ha j v ?_ hv
 have:=(List.getElem?_eq_some_iff.1 hv).1
 rwa [hR.len] at this
theorem LO.lr (hR:Rec c n P) (hx:LO c n P D h l ps):LR c n P h l ps:=by
 obtain ⟨xs,h1,h3,h4⟩:=hx
 exact ⟨xs,h1.rd,h1.2.2.1,h3,fun k k1 k2=>hR.mono (h4 k k1 k2) h1.1⟩
theorem LO.dle (hx:LO c n P D h l ps):D.le h:=by obtain ⟨xs,h1,_⟩:=hx; exact h1.1
theorem LO.nil:LO c n P h h nilS []:=⟨[],Own.nil (Hp.le_refl _),rfl,fun k h1 _=>by simp at h1⟩
theorem LO.len (hR:Rec c n P) (hx:LO c n P D h l ps):l.len=ps.length:=(hx.lr hR).len hR
theorem LO.call {γ:Type} {G:(γ→Hp→Prop)→Hp→Prop} {K1 K:γ→Hp→Prop} (hR:Rec c n P) (hx:LO c n P D h l ps) (H:callP G K1 D)
 (k:∀v D' h',D.le D'→LO c n P D' h' l ps→K1 v D'→K v h'):callP G K h:=by
 obtain ⟨xs,h1,h3,h4⟩:=hx
 exact h1.call H fun v D' h' g1 g2 g3=>k v D' h' g1 ⟨xs,g2,h3,fun k k1 k2=>hR.mono (h4 k k1 k2) g1⟩ g3
theorem LO.app {Ks:Sl→Hp→Prop} {x:α} {b:β} {bytes:Nat} {zero:List Value} (hR:Rec c n P) (hx:LO c n P D h l ps) (hz:zero.length=n) (hlen:(ps.length+1)*bytes≤140737488355328) (hlen2:ps.length+1≤140737488355328)
 (hp:P D x b) (H:∀y h',LO c n P D h' y (ps++[b])→Ks y h'):appP n bytes zero l 1 (c x) Ks h:=by
 have hl:=hx.len hR
 obtain ⟨xs,h1,h3,h4⟩:=hx
 refine zik h1 (n:=1) (new:=c x) (by rw [hR.len]; omega) hz (hR.leaf x) (by rw [hl]; exact hlen) (by rw [hl]; exact hlen2) fun y h' hy hyl=>H y h' ⟨xs++[x],?_,by simp [h3],fun k k1 k2=>?_⟩
 · rw [List.flatMap_append]
   simp only [List.flatMap_cons,List.flatMap_nil,List.append_nil]
   exact hy
 · rcases Nat.lt_or_ge k xs.length with h5 | h5
   · rw [List.getElem_append_left h5,List.getElem_append_left (by omega)]
     exact h4 k h5 (by omega)
   · have h6:k=xs.length:=by simp at k1; omega
     subst h6
     rw [List.getElem_append_right (Nat.le_refl _),List.getElem_append_right (by omega)]
     simp only [Nat.sub_self,List.getElem_cons_zero]
     have:xs.length-ps.length=0:=by omega
     simp only [this,List.getElem_cons_zero]
     exact hp
end
theorem za1l {n:Int} {len:Nat} {p:Prop} (h0:0≤n) (h1:n<len) (hp:p):idxC n len p:=by
 unfold idxC
 rw [decide_eq_true ⟨h0,h1⟩]; exact hp
def Fnd (g:Int→Prop) (xs:List Int) (r:Int):Prop:=(r=-1∧∀x∈xs,¬g x)∨∃k,∃hk:k<xs.length,r=(k:Int)∧g xs[k]∧∀j (hj:j<xs.length),j<k→¬g xs[j]
theorem Fnd.iff {g:Int→Prop} {xs:List Int} {r:Int} (hf:Fnd g xs r):0≤r↔∃x∈xs,g x:=by
 rcases hf with ⟨rfl,h1⟩ | ⟨k,hk,rfl,h1,_⟩
 · exact ⟨fun hh=>by omega,fun ⟨x,hx,hg⟩=>absurd hg (h1 x hx)⟩
 · exact ⟨fun _=>⟨_,List.getElem_mem hk,h1⟩,fun _=>by omega⟩
theorem zov {h:Hp} {Ki:Int→Hp→Prop} {s:Sl} {xs:List Int} {g:Int→Prop} {G:Int→(Bool→Hp→Prop)→Hp→Prop} (hx:IL h s xs) (hlen:xs.length≤1000000)
 (hG:∀x∈xs,∀h',h.le h'→∀K:Bool→Hp→Prop,(∀b h'',h'.le h''→(b=true↔g x)→K b h'')→callP (G x) K h') (H:∀r h',h.le h'→Fnd g xs r→Ki r h') :
 (loopP (S:=Int×Unit) (fun s1 k2 h1=>
 (ifP (decide (s1.1<(s.len:Int)))
 (idxP s s1.1 1 fun a3=>
 (ldL (.int .i64) a3 (fun x4=>
 (callP (G x4) (fun r5 h2=>
 (ifP r5
 (Ki s1.1 h2)
 (k2 ((IntKind.i64.wrap (s1.1+1)),()) h2))) h1)) h1))
 (Ki (-1) h1)))
 (0,()) h):=by
  have hl:=hx.len
  refine zbi (n:=xs.length) (by omega) (fun i h'=>h.le h'∧∀j (hj:j<xs.length),j<i→¬g xs[j]) ⟨Hp.le_refl _,fun j _ hj=>by omega⟩ ?_
  rintro i h1 hi ⟨hl1,hno⟩ k hk2
  refine za0 (fun h2=>?_) (fun h2=>?_)
  · have hi':i<xs.length:=by simp only at h2; omega
    refine (hx.le hl1).get i rfl hi' ?_
    refine hG _ (List.getElem_mem _) _ hl1 _ fun b h3 hl3 hb=>?_
    refine za2 (fun h4=>H _ _ (Hp.le_trans hl1 hl3) (.inr ⟨i,hi',rfl,hb.1 h4,hno⟩)) (fun h4=>hk2 _ hi' ⟨Hp.le_trans hl1 hl3,fun j hj hji=>?_⟩)
    rcases Nat.lt_or_ge j i with h5 | h5
    · exact hno j hj h5
    · have:j=i:=by omega
      subst this
      intro hg
      rw [hb.2 hg] at h4; cases h4
  · refine H _ _ hl1 (.inl ⟨rfl,fun x hx hg=>?_⟩)
    obtain ⟨j,hj,rfl⟩:=List.mem_iff_getElem.1 hx
    exact hno j hj (by simp only at h2; omega) hg
theorem NI.back {h h':Hp} {a:TInt} {n:Int} (ha:AI h a) (hl:h.le h') (hn:NI h' a n):NI h a n:=by
 obtain ⟨l,h1,_⟩:=ha
 have:=(h1.le hl).uniq hn.1
 exact ⟨by rw [←this]; exact h1,hn.2⟩
def OR (h:Hp) (x:TRat) (v:Option Rat):Prop:=AR h x∧x.num.mag.len≤35184372087808∧x.den.mag.len≤35184372087808∧∀q,NR h x q↔v=some q
theorem OR.le {h h':Hp} {x:TRat} {v:Option Rat} (hx:OR h x v) (hl:h.le h'):OR h' x v:=
 ⟨hx.1.le hl,hx.2.1,hx.2.2.1,fun q=>⟨fun hq=>(hx.2.2.2 q).1 ⟨hq.1.back hx.1.1 hl,hq.2.back hx.1.2 hl⟩,fun hq=>((hx.2.2.2 q).2 hq).le hl⟩⟩
theorem NR.inj {h:Hp} {x:TRat} {p q:Rat} (h1:NR h x p) (h2:NR h x q):p=q:=Rat.ext (h1.1.inj h2.1) (by have:=h1.2.inj h2.2; omega)
theorem OR_of {h:Hp} {x:TRat} (ha:AR h x) (h1:x.num.mag.len≤35184372087808) (h2:x.den.mag.len≤35184372087808):∃v,OR h x v:=by
 by_cases hq:∃q,NR h x q
 · obtain ⟨q,hq⟩:=hq
   exact ⟨some q,ha,h1,h2,fun p=>⟨fun hp=>by rw [hq.inj hp],fun hp=>by cases hp; exact hq⟩⟩
 · exact ⟨none,ha,h1,h2,fun p=>⟨fun hp=>absurd ⟨p,hp⟩ hq,fun hp=>by cases hp⟩⟩
theorem NR.ar {h:Hp} {x:TRat} {q:Rat} (hq:NR h x q):AR h x:=⟨⟨_,hq.1.1,ok_dg _⟩,⟨_,hq.2.1,ok_dg _⟩⟩
theorem NR.or {h:Hp} {x:TRat} {q:Rat} {k:Nat} (hq:NR h x q) (hb:BR k q) (hk:k≤35184372087808):OR h x (some q):=by
 have h1:=zb9.2 hb.1
 have h2:=zb9.2 hb.2
 have e1:=hq.1.len
 have e2:=hq.2.len
 exact ⟨hq.ar,by omega,by omega,fun p=>⟨fun hp=>by rw [hq.inj hp],fun hp=>by cases hp; exact hq⟩⟩
theorem OR.br {h:Hp} {x:TRat} {q:Rat} {k:Nat} (hx:OR h x (some q)) (h1:x.num.mag.len≤k) (h2:x.den.mag.len≤k):BR k q:=NR_BR ((hx.2.2.2 q).2 rfl) h1 h2
theorem OR.nr {h:Hp} {x:TRat} {q:Rat} (hx:OR h x (some q)):NR h x q:=(hx.2.2.2 q).2 rfl
section
variable {h : Hp} {x : TRat} {v : Option Rat} {Kb : Bool → Hp → Prop}
theorem znc (hx:OR h x v) (H:∀h',h.le h'→Kb v.isSome h'):callP (F.ze8 x) Kb h:=
 zyt hx.1 hx.2.1 hx.2.2.1 (fun q h' hl hq=>by have:=(hx.2.2.2 q).1 hq; subst this; exact H h' hl)
  (fun h' hl hq=>by
    cases v with
    | none=>exact H h' hl
    | some q=>exact absurd ⟨q,(hx.2.2.2 q).2 rfl⟩ hq)
theorem zrc (hx:OR h x v) (H:∀h',h.le h'→Kb v.isSome h'):callP (F.zda x) Kb h:=
 za0o hx.1 hx.2.1 hx.2.2.1 (fun q h' hl hq=>by have:=(hx.2.2.2 q).1 hq; subst this; exact H h' hl)
  (fun h' hl hq=>by
    cases v with
    | none=>exact H h' hl
    | some q=>exact absurd ⟨q,(hx.2.2.2 q).2 rfl⟩ hq)
theorem zoc {n:Int} (hx:OR h x v) (H:∀b h',h.le h'→Kb b h'):callP (F.zjq x n) Kb h:=by
 refine za1 (fun b h'=>True) (fun K' hk=>?_) fun b h' hl hv=>H b h' hl
 unfold F.zjq
 refine za0 (fun h1=>za0 (fun h2=>?_) (fun h2=>hk _ _ (Hp.le_refl _) trivial)) (fun h1=>hk _ _ (Hp.le_refl _) trivial)
 exact znc hx fun h' hl=>hk _ _ hl trivial
end
end Den
end

section
namespace Den
open Go Iv Lx
def siz (p d:Nat):Nat:=if p=0 then d else max d (p+1)+1
def decL:Nat→Nat→Rat→Bool
 | 0,_,_=>false
 | f+1,p,q=>if q.den=1 then decide (siz p (dgt q.num.natAbs)≤40) else decL f (p+1) (q*((10:Int):Rat))
def decOk (v:Option Rat):Bool:=match v with | none=>false | some q=>decide (0≤q.num)&&decL 40 0 q
theorem zux:∀{f p:Nat} {q:Rat},f+p=40→decL (f+1) p q=decL f p q
 | 0,p,q,h=>by
   unfold decL
   have:p=40:=by omega
   subst this
   split
   · rw [decide_eq_false_iff_not]
     unfold siz
     simp only [show ¬(40=0) by decide,if_false]
     omega
   · rfl
 | f+1,p,q,h=>by
   have ih:=zux (f:=f) (p:=p+1) (q:=q*((10:Int):Rat)) (by omega)
   conv=>lhs; unfold decL
   conv=>rhs; unfold decL
   split
   · rfl
   · exact ih
theorem zvb {q:Rat} (h:0≤q.num):0≤(q*((10:Int):Rat)).num:=by
 rw [Rat.num_nonneg] at h ⊢
 exact Rat.mul_nonneg h (by decide)
theorem BR_10:BR 1 ((10:Int):Rat):=⟨by unfold Lt; decide,by unfold Lt; decide⟩
theorem zu0 {z:Int}:0≤z.sign↔0≤z:=by
 constructor
 · intro h
   apply Classical.byContradiction
   intro hn
   rw [Int.sign_eq_neg_one_of_neg (by omega)] at h
   omega
 · intro h
   rcases Int.lt_or_eq_of_le h with h | h
   · rw [Int.sign_eq_one_of_pos h]; decide
   · rw [←h]; decide
theorem ok_one':Ok 1:=(show Lt 1 1 by unfold Lt; decide).ok (by decide)
theorem zyl {h:Hp} {a b:TInt} {m n:Int} {Kb:Bool→Hp→Prop} (ha:NI h a m) (hb:NI h b n) (om:Ok m) (on:Ok n) (H:Kb (decide (m=n)) h):callP (F.zme a b) Kb h:=by
 refine zae _ (fun K' hk=>?_) H
 unfold F.zme
 rw [ha.2,hb.2]
 have om':(dg m.natAbs).length≤8796093022208:=om
 have on':(dg n.natAbs).length≤8796093022208:=on
 refine za2 (fun h1=>?_) (fun h1=>?_)
 · refine zjb ha.1 hb.1 (by omega) (by omega) ?_
   have h2:m<0↔n<0:=by simpa using h1
   have h3:(cmpN m.natAbs n.natAbs==0)=decide (m=n):=by
    unfold cmpN
    by_cases e:m=n
    · subst e; simp
    · rw [decide_eq_false e]
      have:m.natAbs≠n.natAbs:=by omega
      rw [beq_eq_false_iff_ne]
      split<;>first | omega | (split<;>omega)
   rw [h3]; exact hk
 · have:m≠n:=fun e=>by subst e; simp at h1
   rw [decide_eq_false this] at hk; exact hk
section
variable {h : Hp} {x : TRat} {v : Option Rat} {q : Rat} {K : (ByteArray × Bool) → Hp → Prop}
theorem zwo (hx:OR h x v) (hb:∀q,v=some q→BR 4 q) (ht:P10 h) (H:∀s h',h.le h'→K (s,decOk v) h'):callP (F.zhn x) K h:=by
 refine za1 (fun r h'=>r.2=decOk v) (fun K' hk=>?_) fun r h' hl hs=>by
  obtain ⟨s,b⟩:=r
  simp only at hs
  subst hs
  exact H s h' hl
 unfold F.zhn
 refine za3 (fun _ h1=>h.le h1∧∃q,v=some q∧0≤q.num) ?_ ?_
 · rintro _ h1 ⟨hl1,q,rfl,hq0⟩
   have hbq:=hb q rfl
   have hq:=hx.nr.le hl1
   have hv:decOk (some q)=decL 40 0 q:=by unfold decOk; simp [hq0]
   refine zvx (by decide) (by decide) fun r3 h2 hl2 hr3=>?_
   refine zmw (by decide) (by decide) fun r4 h3 hl3 hr4=>?_
   refine zal (fun st h'=>∃(i:Nat) (y:TRat) (p:Rat),st=((y.num.neg,y.num.mag,y.den.neg,y.den.mag,()),(i:Int),())∧i≤40∧h3.le h'∧NR h' y p∧BR (4+i) p∧0≤p.num∧decL (40-i) i p=decL 40 0 q)
    (fun st=>(40-st.2.1).toNat) ⟨0,x,q,rfl,by omega,Hp.le_refl _,hq.le (Hp.le_trans hl2 hl3),hbq,hq0,rfl⟩ ?_
   rintro _ h4 ⟨i,y,p,rfl,hi,hl4,hy,by4,hp0,hd⟩
   refine za0 (fun h5=>?_) (fun h5=>?_)
   · simp only at h5
     obtain ⟨f,hf⟩:∃f,40-i=f+1:=⟨39-i,by omega⟩
     rw [hf] at hd
     refine za9q (m:=p.den) (n:=1) hy.2 (hr4.le hl4) (by4.2.ok (by omega)) ok_one' ?_
     refine zax (fun h6=>?_) (fun h6=>?_)
     · have hden:¬p.den=1:=fun hh=>h6 (by rw [hh]; rfl)
       refine za7x hy ((hr3.le hl3).le hl4) by4 BR_10 (by omega) (by omega) fun r8 h7 hl7 hr8=>?_
       refine ⟨⟨i+1,r8,_,by simp only; rw [w64 (by omega)]; rfl,by omega,Hp.le_trans hl4 hl7,hr8,(by4.mul BR_10).mono (by omega),zvb hp0,?_⟩,by simp only; rw [w64 (by omega)]; omega⟩
       rw [←hd,show 40-(i+1)=f by omega]
       conv=>rhs; unfold decL
       rw [if_neg hden]
     · have hden:p.den=1:=by
        rw [Int.sign_eq_zero_iff_zero] at h6
        omega
       have hd1:decL (f+1) i p=decide (siz i (dgt p.num.natAbs)≤40):=by unfold decL; rw [if_pos hden]
       have hnn:p.num=(p.num.natAbs:Int):=by omega
       have hnum:NI h4 y.num (p.num.natAbs:Int):=by have:=hy.1; rwa [hnn] at this
       refine zzr hnum (Nat.le_trans (zb9.2 by4.1) (by omega)) (ht.le (Hp.le_trans hl1 (Hp.le_trans hl2 (Hp.le_trans hl3 hl4)))) fun s h6 hl6 hs=>?_
       have hle:=Hp.le_trans hl1 (Hp.le_trans hl2 (Hp.le_trans hl3 (Hp.le_trans hl4 hl6)))
       have d0:=zui p.num.natAbs
       have d1:dgt p.num.natAbs≤1000:=zwq (Nat.le_trans (zb9.2 by4.1) (by omega))
       refine za3 (fun s h'=>h.le h'∧s.1.size=siz i (dgt p.num.natAbs)) ?_ ?_
       · rintro ⟨s,_⟩ h8 ⟨hl8,hs8⟩
         refine hk _ _ hl8 ?_
         simp only at hs8 ⊢
         rw [hv,←hd,hd1,hs8]
         exact decide_eq_decide.2 (by omega)
       · refine za0 (fun h7=>?_) (fun h7=>?_)
         · simp only at h7
           refine za3 (fun s h'=>h.le h'∧s.1.size=max (dgt p.num.natAbs) (i+1)) ?_ ?_
           · rintro ⟨t,_⟩ h8 ⟨hl8,hs8⟩
             simp only at hs8
             have e1:IntKind.i64.wrap ((t.size:Int)-(i:Int))=((t.size-i:Nat):Int):=by rw [w64 (by omega)]; omega
             simp only
             rw [e1]
             refine zjl (by omega) (by omega) (by omega) fun c hc _=>⟨?_,zjl (by omega) (by omega) (by omega) fun d hd _=>⟨?_,hl8,?_⟩⟩
             · have:(⟨#[46]⟩:ByteArray).size=1:=rfl
               rw [this]; omega
             · have:(⟨#[46]⟩:ByteArray).size=1:=rfl
               rw [ByteArray.size_append,this]; omega
             · try simp only
               rw [ByteArray.size_append,ByteArray.size_append]
               have:(⟨#[46]⟩:ByteArray).size=1:=rfl
               unfold siz
               rw [this,if_neg (by omega)]; omega
           · refine za0 (fun h8=>?_) (fun h8=>?_)
             · simp only at h8
               rw [w64 (show _ by rw [w64 (by omega)]; omega),w64 (by omega)] at h8
               have e2:IntKind.i64.wrap (IntKind.i64.wrap ((i:Int)+1)-(s.size:Int))=((i+1-s.size:Nat):Int):=by rw [w64 (show _ by rw [w64 (by omega)]; omega),w64 (by omega)]; omega
               rw [e2]
               refine zrg (by omega) fun r h9 hl9 hr=>⟨by omega,Hp.le_trans hle hl9,?_⟩
               simp only
               rw [ByteArray.size_append]; omega
             · simp only at h8
               rw [w64 (show _ by rw [w64 (by omega)]; omega),w64 (by omega)] at h8
               exact ⟨hle,by simp only; omega⟩
         · simp only at h7
           refine ⟨hle,?_⟩
           unfold siz
           rw [if_pos (by omega)]; exact hs
   · simp only at h5
     have:i=40:=by omega
     subst this
     refine hk _ _ (Hp.le_trans hl1 (Hp.le_trans hl2 (Hp.le_trans hl3 hl4))) ?_
     rw [hv,←hd]; rfl
 · refine zrc hx fun h1 hl1=>?_
   cases v with
   | none=>exact hk _ _ hl1 rfl
   | some q=>
     have hq:=hx.nr.le hl1
     refine zah rfl ?_
     refine za38 hq (hb q rfl) (by decide) ?_
     refine za0 (fun h2=>hk _ _ hl1 ?_) (fun h2=>⟨hl1,q,rfl,?_⟩)
     · have:¬0≤q.num:=by
        intro hh
        have:=zu0.2 hh
        omega
       unfold decOk; simp [this]
     · exact zu0.1 (by omega)
theorem zvy (hx:OR h x v) (hb:∀q,v=some q→BR 4 q) (H:∀s h',h.le h'→K (s,decOk v) h'):callP (F.zjd x) K h:=by
 refine za1 (fun r h'=>r.2=decOk v) (fun K' hk=>?_) fun r h' hl hs=>by
  obtain ⟨s,b⟩:=r
  simp only at hs
  subst hs
  exact H s h' hl
 unfold F.zjd
 refine za3 (fun _ h1=>h.le h1∧∃q,v=some q∧0≤q.num) ?_ ?_
 · rintro _ h1 ⟨hl1,q,rfl,hq0⟩
   have hbq:=hb q rfl
   have hq:=hx.nr.le hl1
   have hv:decOk (some q)=decL 40 0 q:=by unfold decOk; simp [hq0]
   have hv2:decL 41 0 q=decL 40 0 q:=zux (by decide)
   refine zfa (by decide) (by decide) fun r3 h2 hl2 hr3=>?_
   refine zja (by decide) (by decide) fun r4 h3 hl3 hr4=>?_
   refine zal (fun st h'=>∃(i:Nat) (y:TRat) (p:Rat),st=((y.num.neg,y.num.mag,y.den.neg,y.den.mag,()),(i:Int),())∧i≤41∧h3.le h'∧NR h' y p∧BR (4+i) p∧0≤p.num∧decL (41-i) i p=decL 41 0 q)
    (fun st=>(41-st.2.1).toNat) ⟨0,x,q,rfl,by omega,Hp.le_refl _,hq.le (Hp.le_trans hl2 hl3),hbq,hq0,rfl⟩ ?_
   rintro _ h4 ⟨i,y,p,rfl,hi,hl4,hy,by4,hp0,hd⟩
   refine za0 (fun h5=>?_) (fun h5=>?_)
   · simp only at h5
     obtain ⟨f,hf⟩:∃f,41-i=f+1:=⟨40-i,by omega⟩
     rw [hf] at hd
     refine zyl (m:=p.den) (n:=1) hy.2 (hr4.le hl4) (by4.2.ok (by omega)) ok_one' ?_
     refine za0 (fun h6=>?_) (fun h6=>?_)
     · have hden:p.den=1:=by omega
       have hd1:decL (f+1) i p=decide (siz i (dgt p.num.natAbs)≤40):=by unfold decL; rw [if_pos hden]
       have hnn:p.num=(p.num.natAbs:Int):=by omega
       have hnum:NI h4 y.num (p.num.natAbs:Int):=by have:=hy.1; rwa [hnn] at this
       refine zyj hnum (Nat.le_trans (zb9.2 by4.1) (by omega)) fun s h6 hl6 hs=>?_
       have hle:=Hp.le_trans hl1 (Hp.le_trans hl2 (Hp.le_trans hl3 (Hp.le_trans hl4 hl6)))
       have d0:=zui p.num.natAbs
       have d1:dgt p.num.natAbs≤1000:=zwq (Nat.le_trans (zb9.2 by4.1) (by omega))
       refine zal (fun st h'=>h'=h6∧∃t:ByteArray,st=(t,())∧dgt p.num.natAbs≤t.size∧(t.size=dgt p.num.natAbs∨t.size≤i+1)) (fun st=>i+1-st.1.size) ⟨rfl,s,rfl,by omega,.inl hs⟩ ?_
       rintro _ h7 ⟨rfl,t,rfl,ht1,ht2⟩
       refine za0 (fun h8=>?_) (fun h8=>?_)
       · simp only at h8
         have e1:(⟨#[48]⟩:ByteArray).size=1:=rfl
         refine ⟨by rw [e1]; simp only; omega,⟨rfl,_,rfl,by simp only; rw [ByteArray.size_append,e1]; omega,.inr (by simp only; rw [ByteArray.size_append,e1]; omega)⟩,?_⟩
         simp only
         rw [ByteArray.size_append,e1]; omega
       · simp only at h8
         have hts:t.size=max (dgt p.num.natAbs) (i+1):=by omega
         refine za3 (fun s h'=>h.le h'∧s.1.size=siz i (dgt p.num.natAbs)) ?_ ?_
         · rintro ⟨s,_⟩ h8 ⟨hl8,hs8⟩
           refine hk _ _ hl8 ?_
           simp only at hs8 ⊢
           rw [hv,←hv2,←hd,hd1,hs8]
           exact decide_eq_decide.2 (by omega)
         · refine za0 (fun h9=>?_) (fun h9=>?_)
           · simp only at h9
             have e1:IntKind.i64.wrap ((t.size:Int)-(i:Int))=((t.size-i:Nat):Int):=by rw [w64 (by omega)]; omega
             simp only
             rw [e1]
             refine zjl (by omega) (by omega) (by omega) fun c hc _=>⟨?_,zjl (by omega) (by omega) (by omega) fun d hd _=>⟨?_,hle,?_⟩⟩
             · have:(⟨#[46]⟩:ByteArray).size=1:=rfl
               rw [this]; omega
             · have:(⟨#[46]⟩:ByteArray).size=1:=rfl
               rw [ByteArray.size_append,this]; omega
             · try simp only
               rw [ByteArray.size_append,ByteArray.size_append]
               have:(⟨#[46]⟩:ByteArray).size=1:=rfl
               unfold siz
               rw [this,if_neg (by omega)]; omega
           · simp only at h9
             refine ⟨hle,?_⟩
             unfold siz
             rw [if_pos (by omega)]
             simp only; omega
     · have hden:¬p.den=1:=fun hh=>h6 (by rw [hh]; rfl)
       refine za3i hy ((hr3.le hl3).le hl4) by4 BR_10 (by omega) (by omega) fun r8 h7 hl7 hr8=>?_
       refine ⟨⟨i+1,r8,_,by simp only; rw [w64 (by omega)]; rfl,by omega,Hp.le_trans hl4 hl7,hr8,(by4.mul BR_10).mono (by omega),zvb hp0,?_⟩,by simp only; rw [w64 (by omega)]; omega⟩
       rw [←hd,show 41-(i+1)=f by omega]
       conv=>rhs; unfold decL
       rw [if_neg hden]
   · simp only at h5
     have:i=41:=by omega
     subst this
     refine hk _ _ (Hp.le_trans hl1 (Hp.le_trans hl2 (Hp.le_trans hl3 hl4))) ?_
     rw [hv,←hv2,←hd]; rfl
 · refine znc hx fun h1 hl1=>?_
   cases v with
   | none=>exact hk _ _ hl1 rfl
   | some q=>
     have hq:=hx.nr.le hl1
     refine zah rfl ?_
     refine za0v hq (hb q rfl) (by decide) ?_
     refine za0 (fun h2=>hk _ _ hl1 ?_) (fun h2=>⟨hl1,q,rfl,?_⟩)
     · have:¬0≤q.num:=by
        intro hh
        have:=zu0.2 hh
        omega
       unfold decOk; simp [this]
     · exact zu0.1 (by omega)
end
end Den
end

section
namespace Den
open Go Iv Lx
inductive PEx where
 | mk (op:Int) (x:TRat) (v:Option Rat) (name:ByteArray) (args:List PEx)
def PEx.args:PEx→List PEx | .mk _ _ _ _ l=>l
def ec (e:TExpr):List Value:=[.int .i64 e.op,.bool e.value.num.neg,Lf.sl.up e.value.num.mag,.bool e.value.den.neg,Lf.sl.up e.value.den.mag,.string e.name,Lf.sl.up e.args]
theorem zadd (e:TExpr):(ec e).length=7:=rfl
inductive EX (h:Hp):TExpr→PEx→Prop
 | mk (e:TExpr) (v:Option Rat) (xs:List TExpr) (ps:List PEx):OR h e.value v→Rd h 7 e.args (xs.flatMap ec)→e.args.len≤e.args.cap→xs.length=ps.length→(∀k (h1:k<xs.length) (h2:k<ps.length),EX h xs[k] ps[k])→EX h e (.mk e.op e.value v e.name ps)
theorem EX.le {h h':Hp} (hl:h.le h') {e:TExpr} {p:PEx} (hx:EX h e p):EX h' e p:=by
 induction hx with
 | mk e v xs ps h1 h2 h3 h4 _ ih=>exact .mk e v xs ps (h1.le hl) (h2.le hl) h3 h4 ih
theorem zch:Rec ec 7 EX:=⟨zadd,by decide,fun x=>rfl,fun hx hl=>hx.le hl⟩
theorem EX.args {h:Hp} {e:TExpr} {p:PEx} (hx:EX h e p):LR ec 7 EX h e.args p.args:=by
 cases hx with
 | mk _ v xs ps h1 h2 h3 h4 h5=>exact ⟨xs,h2,h3,h4,h5⟩
def noneR (x:TRat):Bool:=decide (x.num.mag.len=0)&&(decide (x.den.mag.len=0)&&(!x.num.neg&&!x.den.neg))
def shp (op:Int) (x:TRat) (v:Option Rat) (name:ByteArray) (n:Nat):Bool:=
 if op=1 then decOk v&&(decide (BS name=[])||isNm (BS name))&&decide (n=0)
 else if op=2 then noneR x&&isNm (BS name)&&decide (n=0)
 else if op=3 then noneR x&&decide (BS name=[])&&decide (n=1)
 else if 4≤op∧op≤7 then noneR x&&decide (BS name=[])&&decide (n=2)
 else false
mutual
def fmd:PEx→Bool
 | .mk op x v name args=>shp op x v name args.length&&fmdL args
def fmdL:List PEx→Bool
 | []=>true
 | a :: r=>fmd a&&fmdL r
end
theorem zs6:∀l:List PEx,fmdL l=l.all fmd
 | []=>rfl
 | a :: r=>by rw [fmdL,zs6 r]; rfl
mutual
def dep:PEx→Nat
 | .mk _ _ _ _ args=>depL args+1
def depL:List PEx→Nat
 | []=>0
 | a :: r=>max (dep a) (depL r)
end
theorem zr6:∀{l:List PEx} {a:PEx},a∈l→dep a≤depL l
 | _ :: _,_,h=>by
   unfold depL
   rcases List.mem_cons.1 h with rfl | h
   · omega
   · have:=zr6 h; omega
theorem zqb:∀(l:List PEx) (a:PEx),depL (l++[a])=max (depL l) (dep a)
 | [],a=>by simp [depL]
 | b :: r,a=>by rw [List.cons_append]; unfold depL; rw [zqb r a]; omega
theorem zjg (p:PEx):dep p=depL p.args+1:=by cases p; rfl
mutual
def smE:PEx→Prop
 | .mk op x v name args=>args.length≤4∧name.size≤40∧x.num.mag.len≤4∧x.den.mag.len≤4∧smEL args
def smEL:List PEx→Prop
 | []=>True
 | a :: r=>smE a∧smEL r
end
theorem zpu:∀{l:List PEx} {a:PEx},smEL l→a∈l→smE a
 | _ :: _,_,hs,h=>by
   unfold smEL at hs
   rcases List.mem_cons.1 h with rfl | h
   · exact hs.1
   · exact zpu hs.2 h
theorem za25:∀{l:List PEx},(∀a∈l,smE a)→smEL l
 | [],_=>trivial
 | a :: r,h=>⟨h a (by simp),za25 fun b hb=>h b (by simp [hb])⟩
def vE (p:PEx):Bool:=fmd p&&decide (dep p≤40)
def sE (p:PEx):Prop:=smE p∧dep p≤61
def OPT (h:Hp):Prop:=∀i:Nat,i<8→h.cell ((⟨2,0,none⟩:Addr).add i)=some (.int .i64 (([0,0,0,1,2,2,2,2]:List Int).getD i 0))
theorem OPT.le {h h':Hp} (ht:OPT h) (hl:h.le h'):OPT h':=fun i hi=>Hp.cell_le hl (ht i hi)
section
variable {h : Hp} {e : TExpr} {p : PEx} {Kb : Bool → Hp → Prop} {Ki : Int → Hp → Prop}
theorem za1t {x:TRat} (H:Kb (noneR x) h):callP (F.zi0 x) Kb h:=by
 refine zae _ (fun K' hk=>?_) H
 unfold F.zi0
 unfold noneR at hk
 refine za7 (fun h1=>za7 (fun h2=>?_) (fun h2=>?_)) (fun h1=>?_)
 · rw [decide_eq_true (show x.num.mag.len=0 by omega),decide_eq_true (show x.den.mag.len=0 by omega)] at hk
   refine za2 (fun h3=>?_) (fun h3=>?_)
   · rw [h3] at hk; exact hk
   · rw [h3] at hk; exact hk
 · rw [decide_eq_false (show ¬x.den.mag.len=0 by omega),Bool.false_and,Bool.and_false] at hk; exact hk
 · rw [decide_eq_false (show ¬x.num.mag.len=0 by omega),Bool.false_and] at hk; exact hk
theorem zrs {s:ByteArray} (H:Kb (isNm (BS s)) h):callP (F.zgd s) Kb h:=zae _ (fun K' hk=>za3x hk) H
theorem zqo {s:ByteArray} (H:Kb (isNm (BS s)) h):callP (F.zgg s) Kb h:=zae _ (fun K' hk=>za39 hk) H
theorem zou {A B:Prop} {s:ByteArray} (hA:BS s=[]→A) (hB:BS s≠[]→B):ifP ((s:ByteArray).toList==(emptyS:ByteArray).toList) A B:=by
 rw [zpx,zhv]
 refine za2 (fun hh=>hA ?_) (fun hh=>hB ?_)
 · simpa using hh
 · intro h0; rw [h0] at hh; cases hh
theorem za1j {s:Sl} {g:PEx→Bool} {ps:List PEx} {G:TExpr→(Bool→Hp→Prop)→Hp→Prop} (hx:LR ec 7 EX h s ps) (hlen:ps.length≤1000000)
 (hG:∀e p h',h.le h'→EX h' e p→p∈ps→∀K:Bool→Hp→Prop,(∀h'',h'.le h''→K (g p) h'')→callP (G e) K h') (H:∀r h',h.le h'→(0≤r↔∃p∈ps,g p=true)→Ki r h') :
 (loopP (S:=Int×Unit) (fun s1 k2 h1=>
 (ifP (decide (s1.1<(s.len:Int)))
 (idxP s s1.1 7 fun a3=>
 (ldL (.int .i64) (a3.add 0) (fun x4_0=>
 (ldL (.bool) (a3.add 1) (fun x4_1=>
 (ldL (.sl) (a3.add 2) (fun x4_2=>
 (ldL (.bool) (a3.add 3) (fun x4_3=>
 (ldL (.sl) (a3.add 4) (fun x4_4=>
 (ldL (.str) (a3.add 5) (fun x4_5=>
 (ldL (.sl) (a3.add 6) (fun x4_6=>
 (callP (G (⟨x4_0,(⟨(⟨x4_1,x4_2⟩:TInt),(⟨x4_3,x4_4⟩:TInt)⟩:TRat),x4_5,x4_6⟩:TExpr)) (fun r5 h2=>
 (ifP r5
 (Ki s1.1 h2)
 (k2 ((IntKind.i64.wrap (s1.1+1)),()) h2))) h1)) h1)) h1)) h1)) h1)) h1)) h1)) h1))
 (Ki (-1) h1)))
 (0,()) h):=by
  have hl:=hx.len zch
  refine zbi (n:=ps.length) (by omega) (fun i h'=>h.le h'∧∀j (hj:j<ps.length),j<i→g ps[j]=false) ⟨Hp.le_refl _,fun j _ hj=>by omega⟩ ?_
  rintro i h1 hi ⟨hl1,hno⟩ k hk2
  refine za0 (fun h2=>?_) (fun h2=>?_)
  · have hi':i<ps.length:=by simp only at h2; omega
    refine (hx.le zch hl1).get zch i rfl hi' fun a x hxx hc=>?_
    refine ⟨_,hc 0 _ rfl,_,hc 1 _ rfl,_,hc 2 _ rfl,_,hc 3 _ rfl,_,hc 4 _ rfl,_,hc 5 _ rfl,_,hc 6 _ rfl,?_⟩
    refine hG _ _ _ hl1 hxx (List.getElem_mem _) _ fun h3 hl3=>?_
    refine za2 (fun h4=>H _ _ (Hp.le_trans hl1 hl3) ⟨fun _=>⟨_,List.getElem_mem hi',h4⟩,fun _=>by simp only; omega⟩) (fun h4=>hk2 _ hi' ⟨Hp.le_trans hl1 hl3,fun j hj hji=>?_⟩)
    rcases Nat.lt_or_ge j i with h5 | h5
    · exact hno j hj h5
    · have:j=i:=by omega
      subst this; exact h4
  · refine H _ _ hl1 ⟨fun hh=>by omega,fun ⟨p,hp,hg⟩=>?_⟩
    obtain ⟨j,hj,rfl⟩:=List.mem_iff_getElem.1 hp
    have:j<i:=by simp only at h2; omega
    rw [hno j hj this] at hg; cases hg
theorem zabm {l:List PEx}:(∃p∈l,(!fmd p)=true)↔fmdL l=false:=by
 rw [zs6,←Bool.not_eq_true,List.all_eq_true]
 constructor
 · rintro ⟨p,hp,h1⟩ hh
   rw [hh p hp] at h1; cases h1
 · intro hh
   apply Classical.byContradiction
   intro hn
   exact hh fun p hp=>by
    cases hf:fmd p with
    | true=>rfl
    | false=>exact absurd ⟨p,hp,by rw [hf]; rfl⟩ hn
theorem za0c (hx:EX h e p) (hs:sE p) (ht:P10 h) (ho:OPT h) (H:∀h',h.le h'→Kb (fmd p) h'):callP (F.zim e) Kb h:=by
 have key:∀(fuel:Nat) (h:Hp) (e:TExpr) (p:PEx) (K:Bool→Hp→Prop),EX h e p→smE p→dep p≤fuel→P10 h→OPT h→(∀h',h.le h'→K (fmd p) h')→F.zcn fuel e K h:=by
  intro fuel
  induction fuel with
  | zero=>intro h e p K _ _ hd _ _ _; rw [zjg] at hd; omega
  | succ fuel ih=>
    intro h e p K hx hs hd ht ho H
    have hargs:=hx.args
    cases hx with
    | mk _ v xs ps g1 g2 g3 g4 g5=>
    simp only [PEx.args] at hargs
    have hal:=hargs.len zch
    have hd':depL ps≤fuel:=by have:=zjg (PEx.mk e.op e.value v e.name ps); simp only [PEx.args] at this; omega
    unfold smE at hs
    obtain ⟨s1,s2,s3,s4,s5⟩:=hs
    unfold fmd at H
    unfold F.zcn
    refine za3 (fun _ h1=>h1=h∧1≤e.op∧e.op≤7∧(ps.length:Int)=([0,0,0,1,2,2,2,2]:List Int).getD e.op.toNat 0) ?_ ?_
    · rintro _ h ⟨rfl,o1,o2,hn⟩
      refine za7 (fun h1=>?_) (fun h1=>za7 (fun h2=>?_) (fun h2=>?_))
      · rw [h1] at hn
        have hn0:ps=[]:=List.eq_nil_of_length_eq_zero (by have:(ps.length:Int)=0:=hn; omega)
        subst hn0
        unfold shp fmdL at H
        rw [if_pos h1,decide_eq_true (show ([]:List PEx).length=0 from rfl),Bool.and_true,Bool.and_true] at H
        refine zwo g1 (fun q hq=>by subst hq; exact g1.br s3 s4) ht fun s h2 hl2=>?_
        refine za2 (fun h3=>?_) (fun h3=>?_)
        · simp only at h3
          rw [h3,Bool.true_and] at H
          refine zou (fun h4=>?_) (fun h4=>?_)
          · rw [decide_eq_true h4] at H; exact H _ hl2
          · rw [decide_eq_false h4,Bool.false_or] at H
            exact zrs (H _ hl2)
        · simp only at h3
          rw [h3,Bool.false_and] at H; exact H _ hl2
      · rw [h2] at hn
        have hn0:ps=[]:=List.eq_nil_of_length_eq_zero (by have:(ps.length:Int)=0:=hn; omega)
        subst hn0
        unfold shp fmdL at H
        rw [if_neg h1,if_pos h2,decide_eq_true (show ([]:List PEx).length=0 from rfl),Bool.and_true,Bool.and_true] at H
        refine za1t ?_
        refine za2 (fun h3=>?_) (fun h3=>?_)
        · rw [h3,Bool.true_and] at H
          exact zrs (H _ (Hp.le_refl _))
        · rw [h3,Bool.false_and] at H; exact H _ (Hp.le_refl _)
      · have hsh:shp e.op e.value v e.name ps.length=(noneR e.value&&decide (BS e.name=[])):=by
         unfold shp
         rw [if_neg h1,if_neg h2]
         rcases (by omega:e.op=3∨e.op=4∨e.op=5∨e.op=6∨e.op=7) with h3 | h3 | h3 | h3 | h3<;>rw [h3] at hn ⊢
         · have:ps.length=1:=by have:(ps.length:Int)=1:=hn; omega
           simp [this]
         all_goals
          have:ps.length=2:=by have:(ps.length:Int)=2:=hn; omega
          simp [this]
        rw [hsh] at H
        refine za1t ?_
        refine za2 (fun h3=>?_) (fun h3=>?_)
        · rw [h3,Bool.true_and] at H
          refine zou (fun h4=>?_) (fun h4=>?_)
          · rw [decide_eq_true h4,Bool.true_and] at H
            refine za1 (fun b h'=>b=!fmdL ps) (fun K' hk=>?_) fun b h' hl hb=>by subst hb; rw [Bool.not_not]; exact H _ hl
            unfold F.zbj
            refine za1 (fun r h'=>(0≤r↔∃p∈ps,(!fmd p)=true)) (fun K2 hk2=>?_) fun r h' hl hr=>hk _ _ hl ?_
            · unfold F.zbr
              refine za1j (g:=fun p=>!fmd p) (ps:=ps) (G:=F.zgu (F.zcn fuel)) hargs (by omega) ?_ fun r h' hl hr=>hk2 _ _ hl hr
              intro e2 p2 h2 hl2 hx2 hm K3 hK3
              refine za1 (fun b h'=>b=!fmd p2) (fun K' hk=>?_) fun b h' hl hb=>by subst hb; exact hK3 _ hl
              unfold F.zgu
              refine za1 (fun b h'=>b=fmd p2) (fun K' hk=>?_) fun b h' hl hb=>hk _ _ hl (by rw [hb])
              exact ih _ _ _ _ hx2 (zpu s5 hm) (by have:=zr6 hm; omega) (ht.le hl2) (ho.le hl2) fun h' hl=>hk _ _ hl rfl
            · rw [zabm] at hr
              cases hf:fmdL ps with
              | true=>rw [hf] at hr; exact decide_eq_false fun hh=>by have:=hr.1 hh; cases this
              | false=>exact decide_eq_true (hr.2 hf)
          · rw [decide_eq_false h4,Bool.false_and] at H; exact H _ (Hp.le_refl _)
        · rw [h3,Bool.false_and,Bool.false_and] at H; exact H _ (Hp.le_refl _)
    · have hf:∀{q:Prop},(shp e.op e.value v e.name ps.length=true→False)→(K false h):=fun hh=>by
       have:=H _ (Hp.le_refl _)
       rwa [Bool.eq_false_iff.2 hh,Bool.false_and] at this
      refine za0 (fun h1=>hf (q:=True) fun hh=>?_) (fun h1=>za0 (fun h2=>hf (q:=True) fun hh=>?_) (fun h2=>?_))
      · unfold shp at hh
        rw [if_neg (by omega),if_neg (by omega),if_neg (by omega),if_neg (by omega)] at hh; cases hh
      · unfold shp at hh
        rw [if_neg (by omega),if_neg (by omega),if_neg (by omega),if_neg (by omega)] at hh; cases hh
      · refine za1l (by omega) (by omega) ?_
        have hc:=ho e.op.toNat (by omega)
        rw [Nat.mul_one]
        refine ⟨_,hc,?_⟩
        refine zax (fun h3=>hf (q:=True) fun hh=>?_) (fun h3=>⟨rfl,by omega,by omega,by rw [←hal]; exact h3⟩)
        unfold shp at hh
        rcases (by omega:e.op=1∨e.op=2∨e.op=3∨e.op=4∨e.op=5∨e.op=6∨e.op=7) with h4 | h4 | h4 | h4 | h4 | h4 | h4<;>rw [h4] at hh h3<;>simp at hh h3<;>first | omega | (have hz:=hh.2; rw [hz] at hal; simp at hal; omega)
 refine za1 (fun b h'=>b=fmd p) (fun K' hk=>?_) fun b h' hl hb=>by subst hb; exact H h' hl
 unfold F.zim
 exact ⟨61,key 61 h e p K' hx hs.1 hs.2 ht ho fun h' hl=>hk _ _ hl rfl⟩
theorem za0w (hx:EX h e p) (hs:smE p) (H:∀h',h.le h'→Kb (match p with | .mk op x v name args=>shp op x v name args.length) h'):callP (F.zle e) Kb h:=by
 have hargs:=hx.args
 cases hx with
 | mk _ v xs ps g1 g2 g3 g4 g5=>
 simp only [PEx.args] at hargs
 have hal:=hargs.len zch
 unfold smE at hs
 obtain ⟨s1,s2,s3,s4,s5⟩:=hs
 simp only at H
 refine za1 (fun b h'=>b=shp e.op e.value v e.name ps.length) (fun K' hk=>?_) fun b h' hl hb=>by subst hb; exact H h' hl
 unfold F.zle
 have hlast:∀n:Nat,((e.args.len:Int)==(n:Int))=decide (ps.length=n):=fun n=>by
  rw [hal]
  by_cases hh:ps.length=n
  · rw [decide_eq_true hh,hh]; simp
  · rw [decide_eq_false hh,beq_eq_false_iff_ne]; omega
 refine za3 (fun s h1=>h1=h∧s.1=noneR e.value) ?_ ?_
 · rintro ⟨b,_⟩ h ⟨rfl,hb⟩
   simp only at hb
   subst hb
   refine za7 (fun h1=>?_) (fun h1=>za7 (fun h2=>?_) (fun h2=>za7 (fun h3=>?_) (fun h3=>?_)))
   · refine zvy g1 (fun q hq=>by subst hq; exact g1.br s3 s4) fun s h2 hl2=>?_
     have e1:shp e.op e.value v e.name ps.length=(decOk v&&(decide (BS e.name=[])||isNm (BS e.name))&&decide (ps.length=0)):=by unfold shp; rw [if_pos h1]
     refine za2 (fun h3=>?_) (fun h3=>?_)
     · simp only at h3
       rw [h3,Bool.true_and] at e1
       refine zou (fun h4=>?_) (fun h4=>?_)
       · rw [decide_eq_true h4,Bool.true_or,Bool.true_and] at e1
         exact hk _ _ hl2 (by rw [e1]; exact hlast 0)
       · rw [decide_eq_false h4,Bool.false_or] at e1
         refine zqo ?_
         refine za2 (fun h5=>hk _ _ hl2 ?_) (fun h5=>hk _ _ hl2 ?_)
         · rw [e1,h5,Bool.true_and]; exact hlast 0
         · rw [e1,h5,Bool.false_and]
     · simp only at h3
       rw [h3,Bool.false_and,Bool.false_and] at e1
       exact hk _ _ hl2 e1.symm
   · have e1:shp e.op e.value v e.name ps.length=(noneR e.value&&isNm (BS e.name)&&decide (ps.length=0)):=by unfold shp; rw [if_neg h1,if_pos h2]
     refine za2 (fun h3=>?_) (fun h3=>hk _ _ (Hp.le_refl _) ?_)
     · simp only at h3
       rw [h3,Bool.true_and] at e1
       refine zqo ?_
       refine za2 (fun h5=>hk _ _ (Hp.le_refl _) ?_) (fun h5=>hk _ _ (Hp.le_refl _) ?_)
       · rw [e1,h5,Bool.true_and]; exact hlast 0
       · rw [e1,h5,Bool.false_and]
     · simp only at h3
       rw [e1,h3]; rfl
   · have e1:shp e.op e.value v e.name ps.length=(noneR e.value&&decide (BS e.name=[])&&decide (ps.length=1)):=by unfold shp; rw [if_neg h1,if_neg h2,if_pos h3]
     refine za2 (fun h4=>zou (fun h5=>hk _ _ (Hp.le_refl _) ?_) (fun h5=>hk _ _ (Hp.le_refl _) ?_)) (fun h4=>hk _ _ (Hp.le_refl _) ?_)
     · simp only at h4
       rw [e1,h4,decide_eq_true h5]; exact hlast 1
     · simp only at h4
       rw [e1,h4,decide_eq_false h5]; rfl
     · simp only at h4
       rw [e1,h4]; rfl
   · have e0:shp e.op e.value v e.name ps.length=if 4≤e.op∧e.op≤7 then noneR e.value&&decide (BS e.name=[])&&decide (ps.length=2) else false:=by unfold shp; rw [if_neg h1,if_neg h2,if_neg h3]
     refine za3 (fun s h1=>h1=h∧s.1=decide (4≤e.op∧e.op≤7)) ?_ ?_
     · rintro ⟨b,_⟩ h ⟨rfl,hb⟩
       simp only at hb
       subst hb
       refine za0 (fun h6=>?_) (fun h6=>hk _ _ (Hp.le_refl _) (by rw [e0,if_neg h6]))
       rw [if_pos h6] at e0
       refine za2 (fun h4=>zou (fun h5=>hk _ _ (Hp.le_refl _) ?_) (fun h5=>hk _ _ (Hp.le_refl _) ?_)) (fun h4=>hk _ _ (Hp.le_refl _) ?_)
       · simp only at h4
         rw [e0,h4,decide_eq_true h5]; exact hlast 2
       · simp only at h4
         rw [e0,h4,decide_eq_false h5]; rfl
       · simp only at h4
         rw [e0,h4]; rfl
     · refine za7 (fun h4=>⟨rfl,?_⟩) (fun h4=>za7 (fun h5=>⟨rfl,?_⟩) (fun h5=>za7 (fun h6=>⟨rfl,?_⟩) (fun h6=>⟨rfl,?_⟩)))
       · rw [h4]; rfl
       · rw [h5]; rfl
       · rw [h6]; rfl
       · by_cases h7:e.op=7
         · rw [h7]; rfl
         · have:(e.op==7)=false:=by rw [beq_eq_false_iff_ne]; exact h7
           simp only [this]
           rw [eq_comm,decide_eq_false_iff_not]; omega
 · have e1:noneR e.value=(!e.value.num.neg&&(!e.value.den.neg&&(decide (e.value.num.mag.len=0)&&decide (e.value.den.mag.len=0)))):=by
    unfold noneR
    cases e.value.num.neg<;>cases e.value.den.neg<;>simp
   rw [e1]
   refine za2 (fun h1=>za2 (fun h2=>za7 (fun h3=>⟨rfl,?_⟩) (fun h3=>⟨rfl,?_⟩)) (fun h2=>⟨rfl,?_⟩)) (fun h1=>⟨rfl,?_⟩)
   · rw [h1,h2,decide_eq_true (show e.value.num.mag.len=0 by omega)]
     simp only [Bool.true_and]
     by_cases hh:e.value.den.mag.len=0
     · rw [decide_eq_true hh,hh]; rfl
     · rw [decide_eq_false hh,beq_eq_false_iff_ne]; omega
   · rw [h1,h2,decide_eq_false (show ¬e.value.num.mag.len=0 by omega)]; rfl
   · rw [h1,h2]; rfl
   · rw [h1]; rfl
theorem zyk (hx:EX h e p) (hs:sE p) (H:∀h',h.le h'→Kb (fmd p) h'):callP (F.zkc e) Kb h:=by
 have key:∀(fuel:Nat) (h:Hp) (e:TExpr) (p:PEx) (K:Bool→Hp→Prop),EX h e p→smE p→dep p≤fuel→(∀h',h.le h'→K (fmd p) h')→F.zez fuel e K h:=by
  intro fuel
  induction fuel with
  | zero=>intro h e p K _ _ hd _; rw [zjg] at hd; omega
  | succ fuel ih=>
    intro h e p K hx hs hd H
    unfold F.zez
    refine za0w hx hs fun h1 hl1=>?_
    have hargs:=hx.args.le zch hl1
    cases hx with
    | mk _ v xs ps g1 g2 g3 g4 g5=>
    simp only [PEx.args] at hargs
    have hal:=hargs.len zch
    have hd':depL ps≤fuel:=by have:=zjg (PEx.mk e.op e.value v e.name ps); simp only [PEx.args] at this; omega
    unfold smE at hs
    obtain ⟨s1,s2,s3,s4,s5⟩:=hs
    unfold fmd at H
    simp only
    refine za2 (fun h2=>?_) (fun h2=>?_)
    · have:shp e.op e.value v e.name ps.length=false:=by simpa using h2
      rw [this,Bool.false_and] at H; exact H _ hl1
    · have:shp e.op e.value v e.name ps.length=true:=by simpa using h2
      rw [this,Bool.true_and,zs6] at H
      refine zbi (n:=ps.length) (by omega) (fun i h'=>h1.le h'∧∀j (hj:j<ps.length),j<i→fmd ps[j]=true) ⟨Hp.le_refl _,fun j _ hj=>by omega⟩ ?_
      rintro i h3 hi ⟨hl3,hno⟩ k hk2
      refine za0 (fun h4=>?_) (fun h4=>?_)
      · have hi':i<ps.length:=by simp only at h4; omega
        refine (hargs.le zch hl3).get zch i rfl hi' fun a x hxx hc=>?_
        refine ⟨_,hc 0 _ rfl,_,hc 1 _ rfl,_,hc 2 _ rfl,_,hc 3 _ rfl,_,hc 4 _ rfl,_,hc 5 _ rfl,_,hc 6 _ rfl,?_⟩
        refine za1 (fun b h'=>b=fmd ps[i]) (fun K' hk=>ih _ _ _ _ hxx (zpu s5 (List.getElem_mem _)) (by have:=zr6 (List.getElem_mem hi'); omega) fun h' hl=>hk _ _ hl rfl) fun b h5 hl5 hb=>?_
        subst hb
        have hle:=Hp.le_trans hl1 (Hp.le_trans hl3 hl5)
        refine za2 (fun h6=>?_) (fun h6=>hk2 _ hi' ⟨Hp.le_trans hl3 hl5,fun j hj hji=>?_⟩)
        · have:ps.all fmd=false:=by
           rw [←Bool.not_eq_true,List.all_eq_true]
           intro hh
           have:=hh _ (List.getElem_mem hi')
           rw [this] at h6; cases h6
          rw [this] at H; exact H _ hle
        · rcases Nat.lt_or_ge j i with h7 | h7
          · exact hno j hj h7
          · have:j=i:=by omega
            subst this
            simpa using h6
      · have hi':i=ps.length:=by simp only at h4; omega
        subst hi'
        have:ps.all fmd=true:=by
         rw [List.all_eq_true]
         intro q hq
         obtain ⟨j,hj,rfl⟩:=List.mem_iff_getElem.1 hq
         exact hno j hj hj
        rw [this] at H; exact H _ (Hp.le_trans hl1 hl3)
 refine za1 (fun b h'=>b=fmd p) (fun K' hk=>?_) fun b h' hl hb=>by subst hb; exact H h' hl
 unfold F.zkc
 exact ⟨61,key 61 h e p K' hx hs.1 hs.2 fun h' hl=>hk _ _ hl rfl⟩
theorem zaa8 (a b:Nat):maxI (a:Int) (b:Int)=((max a b:Nat):Int):=by unfold maxI; split<;>omega
theorem ztq:∀(fuel:Nat) (h:Hp) (e:TExpr) (p:PEx) (K:Int→Hp→Prop),EX h e p→smE p→dep p≤fuel→dep p≤1000→(∀h',h.le h'→K (dep p:Nat) h')→F.zdi fuel e K h:=by
 intro fuel
 induction fuel with
 | zero=>intro h e p K _ _ hd _ _; rw [zjg] at hd; omega
 | succ fuel ih=>
   intro h e p K hx hs hd hd2 H
   have hargs:=hx.args
   have hda:=zjg p
   cases hx with
   | mk _ v xs ps g1 g2 g3 g4 g5=>
   simp only [PEx.args] at hargs hda
   have hal:=hargs.len zch
   unfold smE at hs
   obtain ⟨s1,s2,s3,s4,s5⟩:=hs
   unfold F.zdi
   refine zc5 (n:=ps.length) (by omega) (fun i a h'=>h.le h'∧a=((depL (ps.take i):Nat):Int)) ⟨Hp.le_refl _,by simp [depL]⟩ ?_
   rintro i a h3 hi ⟨hl3,ha⟩ k hk2
   refine za0 (fun h4=>?_) (fun h4=>?_)
   · have hi':i<ps.length:=by simp only at h4; omega
     refine (hargs.le zch hl3).get zch i rfl hi' fun a' x hxx hc=>?_
     refine ⟨_,hc 0 _ rfl,_,hc 1 _ rfl,_,hc 2 _ rfl,_,hc 3 _ rfl,_,hc 4 _ rfl,_,hc 5 _ rfl,_,hc 6 _ rfl,?_⟩
     have hdm:=zr6 (List.getElem_mem hi')
     refine za1 (fun b h'=>b=((dep ps[i]:Nat):Int)) (fun K' hk=>ih _ _ _ _ hxx (zpu s5 (List.getElem_mem _)) (by omega) (by omega) fun h' hl=>hk _ _ hl rfl) fun b h5 hl5 hb=>?_
     subst hb
     refine hk2 _ _ hi' ⟨Hp.le_trans hl3 hl5,?_⟩
     simp only
     rw [ha,zaa8,←List.take_append_getElem hi',zqb]
   · have hi':i=ps.length:=by simp only at h4; omega
     subst hi'
     rw [List.take_length] at ha
     have:=H _ hl3
     rw [hda] at this
     simp only
     rw [ha,w64 (by omega)]
     exact this
theorem zw8:∀fuel,F.zdy fuel=F.zdi fuel
 | 0=>rfl
 | fuel+1=>by
   funext e K h
   unfold F.zdy F.zdi
   rw [zw8 fuel]
theorem za0p (hx:EX h e p) (hs:sE p) (H:∀h',h.le h'→Ki (dep p:Nat) h'):callP (F.zlc e) Ki h:=by
 refine za1 (fun b h'=>b=((dep p:Nat):Int)) (fun K' hk=>?_) fun b h' hl hb=>by subst hb; exact H h' hl
 unfold F.zlc
 have:=hs.2
 exact ⟨61,ztq 61 h e p K' hx hs.1 hs.2 (by omega) fun h' hl=>hk _ _ hl rfl⟩
theorem za2c (hx:EX h e p) (hs:sE p) (H:∀h',h.le h'→Ki (dep p:Nat) h'):callP (F.zj6 e) Ki h:=by
 refine za1 (fun b h'=>b=((dep p:Nat):Int)) (fun K' hk=>?_) fun b h' hl hb=>by subst hb; exact H h' hl
 unfold F.zj6
 have:=hs.2
 exact ⟨61,by rw [zw8]; exact ztq 61 h e p K' hx hs.1 hs.2 (by omega) fun h' hl=>hk _ _ hl rfl⟩
theorem za0b (hx:EX h e p) (hs:sE p) (ht:P10 h) (ho:OPT h) (H:∀r h',h.le h'→(r=0↔vE p=true)→Ki r h'):callP (F.zj7 e) Ki h:=by
 refine za1 (fun r h'=>r=0↔vE p=true) (fun K' hk=>?_) fun b h' hl hb=>H b h' hl hb
 unfold F.zj7
 refine za0c hx hs ht ho fun h1 hl1=>?_
 unfold vE at hk
 cases hf:fmd p with
 | false=>exact zbt rfl (hk _ _ hl1 (by rw [hf]; simp))
 | true=>
   refine zah rfl ?_
   refine za2c (hx.le hl1) hs fun h2 hl2=>?_
   refine za0 (fun h3=>hk _ _ (Hp.le_trans hl1 hl2) ?_) (fun h3=>hk _ _ (Hp.le_trans hl1 hl2) ?_)
   · rw [hf,decide_eq_false (by omega)]; simp
   · rw [hf,decide_eq_true (by omega)]; simp
theorem zyr (hx:EX h e p) (hs:sE p) (H:∀r h',h.le h'→(r=0↔vE p=true)→Ki r h'):callP (F.zld e) Ki h:=by
 refine za1 (fun r h'=>r=0↔vE p=true) (fun K' hk=>?_) fun b h' hl hb=>H b h' hl hb
 unfold F.zld
 refine zyk hx hs fun h1 hl1=>?_
 unfold vE at hk
 cases hf:fmd p with
 | false=>exact zbt rfl (hk _ _ hl1 (by rw [hf]; simp))
 | true=>
   refine zah rfl ?_
   refine za0p (hx.le hl1) hs fun h2 hl2=>?_
   refine za0 (fun h3=>hk _ _ (Hp.le_trans hl1 hl2) ?_) (fun h3=>hk _ _ (Hp.le_trans hl1 hl2) ?_)
   · rw [hf,decide_eq_false (by omega)]; simp
   · rw [hf,decide_eq_true (by omega)]; simp
theorem zaau:∀(fuel:Nat) (h:Hp) (e:TExpr) (p:PEx) (d:Nat) (K:Int→Hp→Prop),EX h e p→d≤61→62-d≤fuel→(∀(r:Nat) h',h.le h'→r≤1000*(62-d)→(r<1000→smE p∧dep p≤61-d)→K (r:Int) h')→F.zg7 fuel e (d:Int) K h:=by
 intro fuel
 induction fuel with
 | zero=>intro h e p d K _ _ hd _; omega
 | succ fuel ih=>
   intro h e p d K hx hd hd2 H
   have hargs:=hx.args
   have hda:=zjg p
   cases hx with
   | mk _ v xs ps g1 g2 g3 g4 g5=>
   simp only [PEx.args] at hargs hda
   have hal:=hargs.len zch
   unfold F.zg7
   have big:K 1000 h:=by
    have:=H 1000 h (Hp.le_refl _) (by omega) (fun hh=>by omega)
    simpa using this
   refine za3 (fun _ h1=>h1=h∧d≤60∧ps.length≤4∧e.name.size≤40∧e.value.num.mag.len≤4∧e.value.den.mag.len≤4) ?_ ?_
   · rintro _ h ⟨rfl,k0,k1,k2,k3,k4⟩
     refine zc5 (n:=ps.length) (by omega) (fun i a h'=>h.le h'∧∃r:Nat,a=(r:Int)∧r≤1000*(62-d)∧(r<1000→(∀q∈ps.take i,smE q)∧depL (ps.take i)≤60-d)) ⟨Hp.le_refl _,1,rfl,by omega,fun _=>⟨by simp,by simp [depL]⟩⟩ ?_
     rintro i a h3 hi ⟨hl3,r,rfl,hr,hsm⟩ k hk2
     have fin:¬(i<ps.length∧r<1000)→K (r:Int) h3:=fun hn=>H r h3 hl3 hr fun hh=>by
      have hi':i=ps.length:=by omega
      subst hi'
      have h5:=hsm hh
      rw [List.take_length] at h5
      refine ⟨?_,by omega⟩
      unfold smE
      exact ⟨k1,k2,k3,k4,za25 h5.1⟩
     refine za3 (fun _ h'=>h'=h3∧i<ps.length∧r<1000) ?_ ?_
     · rintro _ h3 ⟨rfl,hi',hr2⟩
       refine (hargs.le zch hl3).get zch i rfl hi' fun a' x hxx hc=>?_
       refine ⟨_,hc 0 _ rfl,_,hc 1 _ rfl,_,hc 2 _ rfl,_,hc 3 _ rfl,_,hc 4 _ rfl,_,hc 5 _ rfl,_,hc 6 _ rfl,?_⟩
       have e1:IntKind.i64.wrap ((d:Int)+1)=((d+1:Nat):Int):=by rw [w64 (by omega)]; rfl
       rw [e1]
       refine za1 (fun b h'=>∃r:Nat,b=(r:Int)∧r≤1000*(62-(d+1))∧(r<1000→smE ps[i]∧dep ps[i]≤61-(d+1))) (fun K' hk=>ih _ _ _ _ _ hxx (by omega) (by omega) fun r h' hl h1 h2=>hk _ _ hl ⟨r,rfl,h1,h2⟩) fun b h5 hl5 hb=>?_
       obtain ⟨r2,rfl,h6,h7⟩:=hb
       refine hk2 _ _ hi' ⟨Hp.le_trans hl3 hl5,r+r2,?_,by omega,fun hh=>?_⟩
       · simp only; rw [w64 (by omega)]; rfl
       · have h8:=hsm (by omega)
         have h9:=h7 (by omega)
         rw [←List.take_append_getElem hi']
         refine ⟨fun q hq=>?_,?_⟩
         · rcases List.mem_append.1 hq with hq | hq
           · exact h8.1 q hq
           · rw [List.mem_singleton.1 hq]; exact h9.1
         · rw [zqb]; omega
     · refine za2 (fun h4=>?_) (fun h4=>?_)
       · have h4:=of_decide_eq_true h4
         simp only at h4
         generalize h5:decide ((r:Int)<1000)=t
         cases t with
         | true=>
           have h5:=of_decide_eq_true h5
           exact ⟨rfl,by omega,by omega⟩
         | false=>
           have h5:=of_decide_eq_false h5
           exact fin (by omega)
       · have h4:=of_decide_eq_false h4
         simp only at h4
         exact fin (by omega)
   · refine za0 (fun _=>big) fun h1=>za0 (fun _=>big) fun h2=>za0 (fun _=>big) fun h3=>za0 (fun _=>big) fun h4=>za0 (fun _=>big) fun h5=>⟨rfl,by omega,by omega,by omega,by omega,by omega⟩
theorem za87 (hx:EX h e p) (H:∀(r:Int) h',h.le h'→(r≤60→sE p)→Ki r h'):callP (F.zmj e 0) Ki h:=by
 refine za1 (fun b h'=>b≤60→sE p) (fun K' hk=>?_) fun b h' hl hb=>H b h' hl hb
 unfold F.zmj
 exact ⟨62,zaau 62 h e p 0 K' hx (by omega) (by omega) fun r h' hl _ h2=>hk _ _ hl fun hh=>h2 (by omega)⟩
end
end Den
end

section
namespace Den
open Go Iv Lx
def tabK:List (Nat×Nat×Nat×Nat×Bool):=[(1,0,2,2,false),(2,0,1,1,false),(3,0,0,1,false),(3,0,1,1,true),(4,0,1,1,false),(4,0,0,1,false),(4,0,0,1,false),(4,0,0,1,false),(3,0,0,2,false),(4,0,0,2,false),(2,0,0,1,false),(2,0,0,1,false),(1,1,0,1,false),(0,1,1,1,false),(0,2,0,1,false),(2,1,0,1,true),(0,2,0,1,true)]
def shK (k:Int):Nat×Nat×Nat×Nat×Bool:=if 1≤k then tabK.getD (k.toNat-1) (0,0,0,0,false) else (0,0,0,0,false)
def eqK (k:Int):Nat:=(shK k).2.2.2.1
structure PCon where
 kind:Int
 pts:List Int
 cir:List Int
 vals:List PEx
 side:Int
def cc (x:TConstraint):List Value:=[.int .i64 x.kind,Lf.sl.up x.points,Lf.sl.up x.circles,Lf.sl.up x.values,.int .i64 x.side]
def CO (h:Hp) (x:TConstraint) (c:PCon):Prop:=x.kind=c.kind∧IL h x.points c.pts∧IL h x.circles c.cir∧LR ec 7 EX h x.values c.vals∧x.side=c.side
theorem CO.le {h h':Hp} {x:TConstraint} {c:PCon} (hx:CO h x c) (hl:h.le h'):CO h' x c:=⟨hx.1,hx.2.1.le hl,hx.2.2.1.le hl,hx.2.2.2.1.le zch hl,hx.2.2.2.2⟩
theorem zac:Rec cc 5 CO:=⟨fun _=>rfl,by decide,fun _=>rfl,fun hx hl=>hx.le hl⟩
def PairsP:List Int→Prop
 | [a,b,c,d]=>a≠b∧c≠d∧¬(a=c∧b=d)∧¬(a=d∧b=c)
 | _=>False
def fourK (k:Int):Prop:=k=5∨k=6∨k=7∨k=8
instance (k:Int):Decidable (fourK k):=by unfold fourK; infer_instance
def VC (c:PCon) (n m:Int):Prop:=
 (1≤c.kind∧c.kind≤17)∧(c.pts.length=(shK c.kind).1∧∀x∈c.pts,0≤x∧x<n)∧(c.cir.length=(shK c.kind).2.1∧∀x∈c.cir,0≤x∧x<m)∧c.vals.length=(shK c.kind).2.2.1 ∧
 (∀v∈c.vals,vE v=true)∧(if (shK c.kind).2.2.2.2=true then c.side=1∨c.side=-1 else c.side=0)∧(if fourK c.kind then PairsP c.pts else c.pts.Nodup∧c.cir.Nodup)
def sC (c:PCon):Prop:=c.pts.length≤10∧c.cir.length≤10∧c.vals.length≤10∧∀v∈c.vals,sE v
def TBL (h:Hp):Prop:=∀k:Nat,1≤k→k≤17→∃ln ps:Bool,∀j v,([.int .i64 ((shK k).1:Int),.int .i64 ((shK k).2.1:Int),.int .i64 ((shK k).2.2.1:Int),.int .i64 ((shK k).2.2.2.1:Int),.bool (shK k).2.2.2.2,.bool ln,.bool ps]:List Value)[j]?=some v →
 h.cell ((((⟨1,0,none⟩:Addr).add (k*8)).add 1).add j)=some v
theorem TBL.le {h h':Hp} (ht:TBL h) (hl:h.le h'):TBL h':=fun k h1 h2=>by
 obtain ⟨ln,ps,h3⟩:=ht k h1 h2
 exact ⟨ln,ps,fun j v hv=>Hp.cell_le hl (h3 j v hv)⟩
def GT (h:Hp):Prop:=P10 h∧OPT h∧TBL h
theorem GT.le {h h':Hp} (ht:GT h) (hl:h.le h'):GT h':=⟨ht.1.le hl,ht.2.1.le hl,ht.2.2.le hl⟩
section
variable {h : Hp} {x : TConstraint} {c : PCon} {l : Sl} {xs : List Int} {Kb : Bool → Hp → Prop} {Ki : Int → Hp → Prop}
theorem zq6 {kind:Int} {K:(Tconstraint_Shape×Bool)→Hp→Prop} (ht:TBL h) (H1:1≤kind→kind≤17→∀ln ps,K (⟨((shK kind).1:Int),((shK kind).2.1:Int),((shK kind).2.2.1:Int),((shK kind).2.2.2.1:Int),(shK kind).2.2.2.2,ln,ps⟩,true) h)
 (H0:¬(1≤kind∧kind≤17)→K (⟨0,0,0,0,false,false,false⟩,false) h):callP (F.zee kind) K h:=by
 refine za1 (fun r h'=>h'=h∧((1≤kind∧kind≤17∧∃ln ps,r=(⟨((shK kind).1:Int),((shK kind).2.1:Int),((shK kind).2.2.1:Int),((shK kind).2.2.2.1:Int),(shK kind).2.2.2.2,ln,ps⟩,true))∨(¬(1≤kind∧kind≤17)∧r=(⟨0,0,0,0,false,false,false⟩,false)))) (fun K' hk=>?_) fun r h' _ hr=>by
  obtain ⟨rfl,hr | hr⟩:=hr
  · obtain ⟨h1,h2,ln,ps,rfl⟩:=hr
    exact H1 h1 h2 ln ps
  · rw [hr.2]; exact H0 hr.1
 unfold F.zee
 refine za3 (fun _ h1=>h1=h∧1≤kind∧kind≤17) ?_ ?_
 · rintro _ h ⟨rfl,h1,h2⟩
   obtain ⟨k,rfl⟩:∃k:Nat,kind=k:=⟨kind.toNat,by omega⟩
   obtain ⟨ln,ps,hc⟩:=ht k (by omega) (by omega)
   refine za1l (by omega) (by omega) ?_
   exact ⟨_,hc 0 _ rfl,_,hc 1 _ rfl,_,hc 2 _ rfl,_,hc 3 _ rfl,_,hc 4 _ rfl,_,hc 5 _ rfl,_,hc 6 _ rfl,hk _ _ (Hp.le_refl _) ⟨rfl,.inl ⟨h1,h2,ln,ps,rfl⟩⟩⟩
 · refine za0 (fun h1=>hk _ _ (Hp.le_refl _) ⟨rfl,.inr ⟨by omega,rfl⟩⟩) fun h1=>za0 (fun h2=>hk _ _ (Hp.le_refl _) ⟨rfl,.inr ⟨by omega,rfl⟩⟩) fun h2=>⟨rfl,by omega,by omega⟩
def rowc (r:Tsetsquareref25_Row):List Value:=[.string r.name,.int .i64 r.points,.int .i64 r.circles,.int .i64 r.count,.int .i64 r.values,.int .i64 r.equations,.bool r.side]
def rows17:List Tsetsquareref25_Row:=[⟨⟨#[102,105,120]⟩,1,0,2,1,2,false⟩,⟨⟨#[100,105,115,116,97,110,99,101]⟩,2,0,1,2,1,false⟩,⟨⟨#[105,110,99,105,100,101,110,116]⟩,3,0,0,0,1,false⟩,⟨⟨#[111,102,102,115,101,116]⟩,3,0,1,2,1,true⟩,⟨⟨#[97,110,103,108,101]⟩,4,0,1,3,1,false⟩,⟨⟨#[112,97,114,97,108,108,101,108]⟩,4,0,0,0,1,false⟩,⟨⟨#[112,101,114,112,101,110,100,105,99,117,108,97,114]⟩,4,0,0,0,1,false⟩,⟨⟨#[101,113,117,97,108]⟩,4,0,0,0,1,false⟩,⟨⟨#[109,105,100,112,111,105,110,116]⟩,3,0,0,0,2,false⟩,⟨⟨#[115,121,109,109,101,116,114,105,99]⟩,4,0,0,0,2,false⟩,⟨⟨#[104,111,114,105,122,111,110,116,97,108]⟩,2,0,0,0,1,false⟩,⟨⟨#[118,101,114,116,105,99,97,108]⟩,2,0,0,0,1,false⟩,⟨⟨#[111,110,99,105,114,99,108,101]⟩,1,1,0,0,1,false⟩,⟨⟨#[114,97,100,105,117,115]⟩,0,1,1,2,1,false⟩,⟨⟨#[115,97,109,101,114,97,100,105,117,115]⟩,0,2,0,0,1,false⟩,⟨⟨#[116,97,110,103,101,110,116,108,105,110,101]⟩,2,1,0,0,1,true⟩,⟨⟨#[116,97,110,103,101,110,116,99,105,114,99,108,101]⟩,0,2,0,0,1,true⟩]
theorem zac3:∀k:Fin 17,(rows17[k].points,rows17[k].circles,rows17[k].count,rows17[k].equations,rows17[k].side)=(((shK (k+1:Nat)).1:Int),((shK (k+1:Nat)).2.1:Int),((shK (k+1:Nat)).2.2.1:Int),((shK (k+1:Nat)).2.2.2.1:Int),(shK (k+1:Nat)).2.2.2.2):=by decide +kernel
theorem zuv {K:Sl→Hp→Prop} (H:∀l h',h.le h'→Rd h' 7 l (rows17.flatMap rowc)→l.len=17→K l h'):callP F.zkd K h:=by
 refine za1 (fun l h'=>Rd h' 7 l (rows17.flatMap rowc)∧l.len=17) (fun K' hk=>?_) fun l h' hl hr=>H l h' hl hr.1 hr.2
 unfold F.zkd
 exact za7o (cells:=rows17.flatMap rowc) 7 17 rfl fun a h' hl hr=>hk _ _ hl ⟨hr,rfl⟩
theorem za15 {kind:Int} {K:(Tsetsquareref25_Row×Bool)→Hp→Prop} (H1:1≤kind→kind≤17→∀nm vs h',h.le h'→K (⟨nm,((shK kind).1:Int),((shK kind).2.1:Int),((shK kind).2.2.1:Int),vs,((shK kind).2.2.2.1:Int),(shK kind).2.2.2.2⟩,true) h')
 (H0:¬(1≤kind∧kind≤17)→∀h',h.le h'→K (⟨emptyS,0,0,0,0,0,false⟩,false) h'):callP (F.zn7 kind) K h:=by
 refine za1 (fun r h'=>((1≤kind∧kind≤17∧∃nm vs,r=(⟨nm,((shK kind).1:Int),((shK kind).2.1:Int),((shK kind).2.2.1:Int),vs,((shK kind).2.2.2.1:Int),(shK kind).2.2.2.2⟩,true))∨(¬(1≤kind∧kind≤17)∧r=(⟨emptyS,0,0,0,0,0,false⟩,false)))) (fun K' hk=>?_) fun r h' hl hr=>by
  rcases hr with hr | hr
  · obtain ⟨h1,h2,ln,ps,rfl⟩:=hr
    exact H1 h1 h2 ln ps _ hl
  · rw [hr.2]; exact H0 hr.1 _ hl
 unfold F.zn7
 refine za3 (fun _ h1=>h.le h1∧1≤kind∧kind≤17) ?_ ?_
 · rintro _ h1 ⟨hl1,h2,h3⟩
   obtain ⟨k,hk17,rfl⟩:∃k:Nat,k<17∧kind=((k+1:Nat):Int):=⟨(kind-1).toNat,by omega,by omega⟩
   refine zuv fun l h4 hl4 hr hlen=>?_
   have hk17':k<rows17.length:=hk17
   refine rd_el (c:=rowc) (fun _=>rfl) (by decide) hr k (by rw [w64 (by omega)]; omega) hk17' fun a hc=>?_
   refine ⟨_,hc 0 _ (by decide) rfl,_,hc 1 _ (by decide) rfl,_,hc 2 _ (by decide) rfl,_,hc 3 _ (by decide) rfl,_,hc 4 _ (by decide) rfl,_,hc 5 _ (by decide) rfl,_,hc 6 _ (by decide) rfl,hk _ _ (Hp.le_trans hl1 hl4) (.inl ⟨h2,h3,rows17[k].name,rows17[k].values,?_⟩)⟩
   have:=zac3 ⟨k,hk17⟩
   simp only [Prod.mk.injEq] at this
   obtain ⟨e1,e2,e3,e4,e5⟩:=this
   rw [←e1,←e2,←e3,←e4,←e5]
   rfl
 · refine za0 (fun h1=>hk _ _ (Hp.le_refl _) (.inr ⟨by omega,rfl⟩)) fun h1=>?_
   refine zuv fun l h4 hl4 hr hlen=>?_
   refine za0 (fun h2=>hk _ _ hl4 (.inr ⟨by omega,rfl⟩)) fun h2=>⟨hl4,by omega,by omega⟩
theorem zrr {n most:Int} (hx:IL h l xs) (hlen:xs.length≤1000000) (H:∀b h',h.le h'→(b=true↔(xs.length:Int)=n∧∀x∈xs,0≤x∧x<most)→Kb b h'):callP (F.zf0 l n most) Kb h:=by
 refine za1 (fun b h'=>b=true↔(xs.length:Int)=n∧∀x∈xs,0≤x∧x<most) (fun K' hk=>?_) fun b h' hl hb=>H b h' hl hb
 unfold F.zf0
 have hl:=hx.len
 refine ze0 fun a h1 hl1 hc=>?_
 refine za7 (fun h2=>?_) (fun h2=>hk _ _ hl1 ⟨fun hh=>(by cases hh),fun hh=>by omega⟩)
 refine za1 (fun b h'=>b=true↔∃x∈xs,¬(0≤x∧x<most)) (fun K' hk=>?_) fun b h3 hl3 hb=>hk _ _ (Hp.le_trans hl1 hl3) ?_
 · unfold F.zc0
   refine za1 (fun r h'=>Fnd (fun x=>¬(0≤x∧x<most)) xs r) (fun K' hk=>?_) fun r h4 hl4 hr=>hk _ _ hl4 (by rw [decide_eq_true_iff]; exact hr.iff)
   unfold F.zca
   refine zov (hx.le hl1) hlen (fun x _ h5 hl5 K hK=>?_) fun r h' hl hr=>hk _ _ hl hr
   refine zae (decide (¬(0≤x∧x<most))) (fun K' hk=>?_) (hK _ _ (Hp.le_refl _) (by rw [decide_eq_true_iff]))
   unfold F.zhk
   refine za0 (fun h6=>?_) (fun h6=>?_)
   · rw [decide_eq_true (by omega)] at hk; exact hk
   · refine ⟨_,Hp.cell_le hl5 hc,?_⟩
     have:decide (x≥most)=decide (¬(0≤x∧x<most)):=decide_eq_decide.2 (by omega)
     show K' (decide (x≥most)) h5
     rw [this]; exact hk
 · rw [Bool.not_eq_true',←Bool.not_eq_true,hb]
   constructor
   · intro hh
     exact ⟨by omega,fun x hx=>Classical.byContradiction fun hn=>hh ⟨x,hx,hn⟩⟩
   · rintro ⟨_,h4⟩ ⟨x,hx,hn⟩
     exact hn (h4 x hx)
theorem zqw {n:Int} (hx:IL h l xs) (hlen:xs.length≤1000000) (H:∀b h',h.le h'→(b=true↔∀x∈xs,0≤x∧x<n)→Kb b h'):callP (F.zic l n) Kb h:=by
 refine za1 (fun b h'=>b=true↔∀x∈xs,0≤x∧x<n) (fun K' hk=>?_) fun b h' hl hb=>H b h' hl hb
 unfold F.zic
 have hl:=hx.len
 refine zbi (n:=xs.length) (by omega) (fun i h'=>h'=h∧∀j (hj:j<xs.length),j<i→0≤xs[j]∧xs[j]<n) ⟨rfl,fun j _ hj=>by omega⟩ ?_
 rintro i h hi ⟨rfl,hno⟩ k hk2
 refine za0 (fun h2=>?_) (fun h2=>?_)
 · have hi':i<xs.length:=by simp only at h2; omega
   have bad:¬(0≤xs[i]∧xs[i]<n)→K' false h:=fun hn=>hk _ _ (Hp.le_refl _) ⟨fun hh=>(by cases hh),fun hh=>absurd (hh _ (List.getElem_mem hi')) hn⟩
   refine za3 (fun _ h'=>h'=h∧0≤xs[i]∧xs[i]<n) (fun _ h' hh=>?_) ?_
   · obtain ⟨rfl,h3⟩:=hh
     refine hk2 _ hi' ⟨rfl,fun j hj hji=>?_⟩
     rcases Nat.lt_or_ge j i with h5 | h5
     · exact hno j hj h5
     · have:j=i:=by omega
       subst this; exact h3
   · refine hx.get i rfl hi' ?_
     refine za0 (fun h3=>?_) (fun h3=>?_)
     · have h3:xs[i]<0:=h3
       exact bad (by omega)
     have h3:¬xs[i]<0:=h3
     refine hx.get i rfl hi' ?_
     refine za0 (fun h4=>?_) (fun h4=>?_)
     · have h4:xs[i]≥n:=h4
       exact bad (by omega)
     · have h4:¬xs[i]≥n:=h4
       exact ⟨rfl,by omega,by omega⟩
 · refine hk _ _ (Hp.le_refl _) ⟨fun _ x hx=>?_,fun _=>rfl⟩
   obtain ⟨j,hj,rfl⟩:=List.mem_iff_getElem.1 hx
   exact hno j hj (by simp only at h2; omega)
theorem zma {xs:List Int} {i:Nat} (hi:i<xs.length):(xs.take (i+1)).Nodup↔(xs.take i).Nodup∧xs[i]∉xs.take i:=by
 rw [←List.take_append_getElem hi,List.nodup_append]
 constructor
 · rintro ⟨h1,_,h3⟩
   exact ⟨h1,fun hm=>h3 _ hm _ (List.mem_singleton.2 rfl) rfl⟩
 · rintro ⟨h1,h2⟩
   exact ⟨h1,by simp,fun a ha b hb hab=>by rw [List.mem_singleton.1 hb] at hab; subst hab; exact h2 ha⟩
theorem zq0 {xs:List Int} {i:Nat} (h:xs.Nodup):(xs.take i).Nodup:=h.sublist (List.take_sublist _ _)
theorem zom (hx:IL h l xs) (hlen:xs.length≤1000000) (H:∀b h',h.le h'→(b=true↔xs.Nodup)→Kb b h'):callP (F.zde l) Kb h:=by
 refine za1 (fun b h'=>b=true↔xs.Nodup) (fun K' hk=>?_) fun b h' hl hb=>H b h' hl hb
 unfold F.zde
 have hl:=hx.len
 have hcap:=hx.2
 refine zbi (n:=xs.length) (by omega) (fun i h'=>h.le h'∧(xs.take i).Nodup) ⟨Hp.le_refl _,by simp⟩ ?_
 rintro i h1 hi ⟨hl1,hno⟩ k hk2
 refine za0 (fun h2=>?_) (fun h2=>?_)
 · have hi':i<xs.length:=by simp only at h2; omega
   refine (hx.le hl1).get i rfl hi' ?_
   refine ⟨by omega,by simp only; omega,by simp only; omega,?_⟩
   refine zfm ((hx.le hl1).cut (n:=i) (by omega)) (by rw [List.length_take]; omega) fun h3 hl3=>?_
   refine za0 (fun h4=>hk _ _ (Hp.le_trans hl1 hl3) ⟨fun hh=>(by cases hh),fun hh=>?_⟩) (fun h4=>hk2 _ hi' ⟨Hp.le_trans hl1 hl3,(zma hi').2 ⟨hno,h4⟩⟩)
   exact absurd h4 ((zma hi').1 (zq0 hh)).2
 · have:i=xs.length:=by simp only at h2; omega
   subst this
   rw [List.take_length] at hno
   exact hk _ _ hl1 ⟨fun _=>hno,fun _=>rfl⟩
theorem znv (hx:IL h l xs) (hlen:xs.length≤1000000) (H:∀b h',h.le h'→(b=true↔xs.Nodup)→Kb b h'):callP (F.zfz l) Kb h:=by
 refine za1 (fun b h'=>b=true↔xs.Nodup) (fun K' hk=>?_) fun b h' hl hb=>H b h' hl hb
 unfold F.zfz
 have hl:=hx.len
 refine zbi (n:=xs.length) (by omega) (fun i h'=>h.le h'∧(xs.take i).Nodup) ⟨Hp.le_refl _,by simp⟩ ?_
 rintro i h1 hi ⟨hl1,hno⟩ k hk2
 refine za0 (fun h2=>?_) (fun h2=>?_)
 · have hi':i<xs.length:=by simp only at h2; omega
   refine zbi (n:=i) (by omega) (fun j h'=>h1.le h'∧xs[i]∉xs.take j) ⟨Hp.le_refl _,by simp⟩ ?_
   rintro j h3 hj ⟨hl3,hnj⟩ k2 hk3
   have hle:=Hp.le_trans hl1 hl3
   refine za0 (fun h4=>?_) (fun h4=>?_)
   · have hj':j<i:=by simp only at h4; omega
     refine (hx.le hle).get i rfl hi' ((hx.le hle).get j rfl (by omega) ?_)
     refine za7 (fun h5=>hk _ _ hle ⟨fun hh=>(by cases hh),fun hh=>?_⟩) (fun h5=>hk3 _ hj' ⟨hl3,fun hm=>?_⟩)
     · refine absurd ?_ ((zma hi').1 (zq0 hh)).2
       rw [h5]
       exact List.mem_take_iff_getElem.2 ⟨j,by omega,rfl⟩
     · rw [←List.take_append_getElem (show j<xs.length by omega),List.mem_append,List.mem_singleton] at hm
       rcases hm with hm | hm
       · exact hnj hm
       · exact h5 hm
   · have:j=i:=by simp only at h4; omega
     subst this
     exact hk2 _ hi' ⟨hle,(zma hi').2 ⟨hno,hnj⟩⟩
 · have:i=xs.length:=by simp only at h2; omega
   subst this
   rw [List.take_length] at hno
   exact hk _ _ hl1 ⟨fun _=>hno,fun _=>rfl⟩
theorem za35 (hx:IL h l xs) (hlen:xs.length=4) (H:∀b h',h.le h'→(b=true↔PairsP xs)→Kb b h'):callP (F.zgr l) Kb h:=by
 refine za1 (fun b h'=>b=true↔PairsP xs) (fun K' hk=>?_) fun b h' hl hb=>H b h' hl hb
 unfold F.zgr
 match xs,hlen with
 | [a,b,c,d],_=>
 refine hx.get 0 rfl (by simp) (hx.get 1 rfl (by simp) (hx.get 2 rfl (by simp) (hx.get 3 rfl (by simp) ?_)))
 simp only [List.getElem_cons_zero,List.getElem_cons_succ]
 have fin:∀b',(b'=true↔PairsP [a,b,c,d])→K' b' h:=fun b' hb=>hk _ _ (Hp.le_refl _) hb
 unfold PairsP at fin
 refine zax (fun h1=>zax (fun h2=>za7 (fun h3=>za2 (fun h4=>za7 (fun h5=>fin _ ?_) (fun h5=>fin _ ?_)) (fun h4=>fin _ ?_)) (fun h3=>za7 (fun h5=>fin _ ?_) (fun h5=>fin _ ?_))) (fun h2=>fin _ ?_)) (fun h1=>fin _ ?_)
 all_goals simp_all
theorem za9i {n:Sl} {ps:List PEx} (hx:LR ec 7 EX h n ps) (hlen:ps.length≤10) (hs:∀v∈ps,sE v) (ht:GT h) (H:∀b h',h.le h'→(b=true↔¬∀v∈ps,vE v=true)→Kb b h'):callP (F.zay n) Kb h:=by
 refine za1 (fun b h'=>b=true↔¬∀v∈ps,vE v=true) (fun K' hk=>?_) fun b h' hl hb=>H b h' hl hb
 unfold F.zay
 refine za1 (fun r h'=>(0≤r↔∃p∈ps,(!vE p)=true)) (fun K2 hk2=>?_) fun r h' hl hr=>hk _ _ hl ?_
 · unfold F.zbo
   refine za1j (g:=fun p=>!vE p) (ps:=ps) (G:=F.zft) hx (by omega) ?_ fun r h' hl hr=>hk2 _ _ hl hr
   intro e2 p2 h2 hl2 hx2 hm K3 hK3
   refine za1 (fun b h'=>b=!vE p2) (fun K' hk=>?_) fun b h' hl hb=>by subst hb; exact hK3 _ hl
   unfold F.zft
   refine za0b hx2 (hs _ hm) (ht.1.le hl2) (ht.2.1.le hl2) fun r h' hl hr=>hk _ _ hl ?_
   cases hv:vE p2 with
   | true=>rw [hr.2 hv]; rfl
   | false=>
     have:r≠0:=fun hh=>by rw [hr.1 hh] at hv; cases hv
     simp [this]
 · rw [decide_eq_true_iff,ge_iff_le,hr]
   constructor
   · rintro ⟨p,hp,h1⟩ hh
     rw [hh p hp] at h1; cases h1
   · intro hh
     apply Classical.byContradiction
     intro hn
     exact hh fun p hp=>by
      cases hf:vE p with
      | true=>rfl
      | false=>exact absurd ⟨p,hp,by rw [hf]; rfl⟩ hn
theorem za24 {A B:Prop} {sd:Bool} {z:Int} (hA:¬(if sd=true then z=1∨z=-1 else z=0)→A) (hB:(if sd=true then z=1∨z=-1 else z=0)→B) :
 ifP sd (ifP (z != 1) (ifP (z != (-1)) A (ifP (!sd) (ifP (z != 0) A B) B)) (ifP (!sd) (ifP (z != 0) A B) B)) (ifP (!sd) (ifP (z != 0) A B) B):=by
 cases sd with
 | true=>
   simp only [if_true] at hA hB
   refine zbt rfl (zax (fun h1=>zax (fun h2=>hA (by omega)) (fun h2=>zah rfl (hB (by omega)))) (fun h1=>zah rfl (hB (by omega))))
 | false=>
   simp only [Bool.false_eq_true,if_false] at hA hB
   exact zah rfl (zbt rfl (zax (fun h1=>hA h1) (fun h1=>hB h1)))
theorem za1k {k:Int} {T:Bool×Unit→Hp→Prop} (H:T (decide (fourK k),()) h):ifP (k==5) (T ((k==5),()) h) (ifP (k==6) (T ((k==6),()) h) (ifP (k==7) (T ((k==7),()) h) (T ((k==8),()) h))):=by
 refine za7 (fun h1=>?_) (fun h1=>za7 (fun h2=>?_) (fun h2=>za7 (fun h3=>?_) (fun h3=>?_)))
 · subst h1; exact H
 · subst h2; exact H
 · subst h3; exact H
 · have:(k==8)=decide (fourK k):=by
    by_cases h4:k=8
    · subst h4; rfl
    · rw [decide_eq_false (show ¬fourK k by unfold fourK; omega),beq_eq_false_iff_ne]; exact h4
   rw [this]; exact H
theorem za02 {n m:Int} (hx:CO h x c) (hs:sC c) (ht:GT h) (H:∀b h',h.le h'→(b=true↔VC c n m)→Kb b h'):callP (F.zgq x n m) Kb h:=by
 refine za1 (fun b h'=>b=true↔VC c n m) (fun K' hk=>?_) fun b h' hl hb=>H b h' hl hb
 unfold F.zgq
 obtain ⟨x1,x2,x3,x4,x5⟩:=hx
 obtain ⟨s1,s2,s3,s4⟩:=hs
 have hvl:=x4.len zch
 have no:∀h',h.le h'→¬VC c n m→K' false h':=fun h' hl hn=>hk _ _ hl ⟨fun hh=>(by cases hh),fun hh=>absurd hh hn⟩
 rw [x1,x5]
 refine zq6 ht.2.2 (fun k1 k2 ln ps=>?_) (fun hn=>?_)
 · refine za3 (fun _ h1=>h.le h1∧((c.pts.length:Int)=(shK c.kind).1∧∀x∈c.pts,0≤x∧x<n)∧((c.cir.length:Int)=(shK c.kind).2.1∧∀x∈c.cir,0≤x∧x<m)∧c.vals.length=(shK c.kind).2.2.1) ?_ ?_
   · rintro _ h1 ⟨hl1,g1,g2,g3⟩
     refine za9i (x4.le zch hl1) s3 s4 (ht.le hl1) fun b h2 hl2 hb=>?_
     have hle:=Hp.le_trans hl1 hl2
     refine za2 (fun h3=>no _ hle fun hv=>hb.1 h3 hv.2.2.2.2.1) (fun h3=>?_)
     have hv:∀v∈c.vals,vE v=true:=Classical.byContradiction fun hn=>by rw [hb.2 hn] at h3; cases h3
     refine za3 (fun _ h'=>h'=h2∧(if (shK c.kind).2.2.2.2=true then c.side=1∨c.side=-1 else c.side=0)) ?_ (za24 (fun hn=>no _ hle fun hv=>hn hv.2.2.2.2.2.1) fun hy=>⟨rfl,hy⟩)
     rintro _ h2 ⟨rfl,hsd⟩
     have vc:∀{b:Bool},(b=true↔(if fourK c.kind then PairsP c.pts else c.pts.Nodup∧c.cir.Nodup))→(b=true↔VC c n m):=fun hb=>by
      rw [hb]
      exact ⟨fun hh=>⟨⟨k1,k2⟩,⟨by omega,g1.2⟩,⟨by omega,g2.2⟩,g3,hv,hsd,hh⟩,fun hh=>hh.2.2.2.2.2.2⟩
     refine za3 (fun s h'=>h'=h2∧s.1=decide (fourK c.kind)) ?_ (za1k (T:=fun s h'=>h'=h2∧s.1=decide (fourK c.kind)) ⟨rfl,rfl⟩)
     rintro ⟨b,_⟩ h2 ⟨rfl,hbb⟩
     simp only at hbb
     subst hbb
     refine za0 (fun h4=>?_) (fun h4=>?_)
     · rw [if_pos h4] at vc
       refine za35 (x2.le hle) ?_ fun b h5 hl5 hb=>hk _ _ (Hp.le_trans hle hl5) (vc hb)
       have:(shK c.kind).1=4:=by unfold fourK at h4; rcases h4 with h4 | h4 | h4 | h4<;>rw [h4]<;>rfl
       omega
     · rw [if_neg h4] at vc
       refine zom (x2.le hle) (by omega) fun b h5 hl5 hb=>?_
       refine za2 (fun h6=>?_) (fun h6=>hk _ _ (Hp.le_trans hle hl5) (vc ⟨fun hh=>(by cases hh),fun hh=>by rw [hb.2 hh.1] at h6; cases h6⟩))
       refine zom ((x3.le hle).le hl5) (by omega) fun b' h7 hl7 hb'=>hk _ _ (Hp.le_trans hle (Hp.le_trans hl5 hl7)) (vc ?_)
       rw [hb']
       exact ⟨fun hh=>⟨hb.1 h6,hh⟩,fun hh=>hh.2⟩
   · refine zah rfl ?_
     refine zrr x2 (by omega) fun b h1 hl1 hb=>?_
     refine za2 (fun h2=>no _ hl1 fun hv=>?_) (fun h2=>?_)
     · have:b=true:=hb.2 ⟨by rw [hv.2.1.1],hv.2.1.2⟩
       rw [this] at h2; cases h2
     have hb1:=hb.1 (by simpa using h2)
     refine zrr (x3.le hl1) (by omega) fun b3 h3 hl3 hb3=>?_
     have hle:=Hp.le_trans hl1 hl3
     refine za2 (fun h4=>no _ hle fun hv=>?_) (fun h4=>?_)
     · have:b3=true:=hb3.2 ⟨by rw [hv.2.2.1.1],hv.2.2.1.2⟩
       rw [this] at h4; cases h4
     have hb4:=hb3.1 (by simpa using h4)
     refine zax (fun h5=>no _ hle fun hv=>h5 ?_) (fun h5=>⟨hle,hb1,hb4,by simp only at h5; omega⟩)
     have:=hv.2.2.2.1
     simp only
     omega
 · exact za3 (fun _ _=>False) (fun _ _ hh=>hh.elim) (zbt rfl (no _ (Hp.le_refl _) fun hv=>hn hv.1))
theorem zyn {n m:Int} (hx:CO h x c) (hs:sC c) (H:∀b h',h.le h'→(b=true↔VC c n m)→Kb b h'):callP (F.zlf x n m) Kb h:=by
 refine za1 (fun b h'=>b=true↔VC c n m) (fun K' hk=>?_) fun b h' hl hb=>H b h' hl hb
 unfold F.zlf
 obtain ⟨x1,x2,x3,x4,x5⟩:=hx
 obtain ⟨s1,s2,s3,s4⟩:=hs
 have hvl:=x4.len zch
 have no:∀h',h.le h'→¬VC c n m→K' false h':=fun h' hl hn=>hk _ _ hl ⟨fun hh=>(by cases hh),fun hh=>absurd hh hn⟩
 have pl:=x2.len
 have cl:=x3.len
 rw [x1,x5]
 refine za15 (fun k1 k2 nm vs h0 hl0=>?_) (fun hn h0 hl0=>?_)
 · refine za3 (fun _ h1=>h.le h1∧((c.pts.length:Int)=(shK c.kind).1∧∀x∈c.pts,0≤x∧x<n)∧((c.cir.length:Int)=(shK c.kind).2.1∧∀x∈c.cir,0≤x∧x<m)∧c.vals.length=(shK c.kind).2.2.1) ?_ ?_
   · rintro _ h1 ⟨hl1,g1,g2,g3⟩
     refine zbi (n:=c.vals.length) (by omega) (fun i h'=>h.le h'∧∀j (hj:j<c.vals.length),j<i→vE c.vals[j]=true) ⟨hl1,fun j _ hj=>by omega⟩ ?_
     rintro i h2 hi ⟨hl2,hno⟩ k hk2
     refine za0 (fun h3=>?_) (fun h3=>?_)
     · have hi':i<c.vals.length:=by simp only at h3; omega
       refine (x4.le zch hl2).get zch i rfl hi' fun a y hxx hc=>?_
       refine ⟨_,hc 0 _ rfl,_,hc 1 _ rfl,_,hc 2 _ rfl,_,hc 3 _ rfl,_,hc 4 _ rfl,_,hc 5 _ rfl,_,hc 6 _ rfl,?_⟩
       refine zyr hxx (s4 _ (List.getElem_mem _)) fun r h4 hl4 hr=>?_
       refine zax (fun h5=>no _ (Hp.le_trans hl2 hl4) fun hv=>h5 (hr.2 (hv.2.2.2.2.1 _ (List.getElem_mem _)))) (fun h5=>hk2 _ hi' ⟨Hp.le_trans hl2 hl4,fun j hj hji=>?_⟩)
       rcases Nat.lt_or_ge j i with h6 | h6
       · exact hno j hj h6
       · have:j=i:=by omega
         subst this
         exact hr.1 h5
     · have hi':i=c.vals.length:=by simp only at h3; omega
       have hv:∀v∈c.vals,vE v=true:=fun v hv=>by
        obtain ⟨j,hj,rfl⟩:=List.mem_iff_getElem.1 hv
        exact hno j hj (by omega)
       refine za3 (fun _ h'=>h'=h2∧(if (shK c.kind).2.2.2.2=true then c.side=1∨c.side=-1 else c.side=0)) ?_ (za24 (fun hn=>no _ hl2 fun hv=>hn hv.2.2.2.2.2.1) fun hy=>⟨rfl,hy⟩)
       rintro _ h2 ⟨rfl,hsd⟩
       have vc:∀{b:Bool},(b=true↔(if fourK c.kind then PairsP c.pts else c.pts.Nodup∧c.cir.Nodup))→(b=true↔VC c n m):=fun hb=>by
        rw [hb]
        exact ⟨fun hh=>⟨⟨k1,k2⟩,⟨by omega,g1.2⟩,⟨by omega,g2.2⟩,g3,hv,hsd,hh⟩,fun hh=>hh.2.2.2.2.2.2⟩
       refine za3 (fun s h'=>h'=h2∧s.1=decide (fourK c.kind)) ?_ (za1k (T:=fun s h'=>h'=h2∧s.1=decide (fourK c.kind)) ⟨rfl,rfl⟩)
       rintro ⟨b,_⟩ h2 ⟨rfl,hbb⟩
       simp only at hbb
       subst hbb
       refine za0 (fun h4=>?_) (fun h4=>?_)
       · rw [if_pos h4] at vc
         have hlen4:c.pts.length=4:=by
          have:(shK c.kind).1=4:=by unfold fourK at h4; rcases h4 with h4 | h4 | h4 | h4<;>rw [h4]<;>rfl
          omega
         have hp:=x2.le hl2
         match hpp:c.pts,hlen4 with
         | [a,b,cc,d],_=>
         rw [hpp] at hp vc
         have g0:=fun {i:Int} {K:Int→Prop} (hi:i=((0:Nat):Int)) (hK:K a)=>hp.get (K:=K) 0 hi (by simp) hK
         have g1:=fun {i:Int} {K:Int→Prop} (hi:i=((1:Nat):Int)) (hK:K b)=>hp.get (K:=K) 1 hi (by simp) hK
         have g2:=fun {i:Int} {K:Int→Prop} (hi:i=((2:Nat):Int)) (hK:K cc)=>hp.get (K:=K) 2 hi (by simp) hK
         have g3:=fun {i:Int} {K:Int→Prop} (hi:i=((3:Nat):Int)) (hK:K d)=>hp.get (K:=K) 3 hi (by simp) hK
         refine za3 (fun s h'=>h'=h2∧(s.1=true↔(a=cc∧b=d)∨(a=d∧b=cc))) ?_ ?_
         · rintro ⟨sm,_⟩ h2 ⟨rfl,hsm⟩
           simp only at hsm
           have fin:∀b',(b'=true↔PairsP [a,b,cc,d])→K' b' h2:=fun b' hb=>hk _ _ hl2 (vc hb)
           unfold PairsP at fin
           refine g0 rfl (g1 rfl (zax (fun h6=>g2 rfl (g3 rfl (zax (fun h7=>fin _ ?_) (fun h7=>fin _ ?_)))) (fun h6=>fin _ ?_)))
           · simp only [Bool.not_eq_true',←Bool.not_eq_true,hsm]
             constructor
             · intro hh; exact ⟨h6,h7,fun h8=>hh (.inl h8),fun h8=>hh (.inr h8)⟩
             · rintro ⟨_,_,h8,h9⟩ (h10 | h10)
               · exact h8 h10
               · exact h9 h10
           · exact ⟨fun hh=>(by cases hh),fun hh=>absurd h7 hh.2.1⟩
           · exact ⟨fun hh=>(by cases hh),fun hh=>absurd h6 hh.1⟩
         · refine g0 rfl (g2 rfl (za7 (fun h6=>g1 rfl (g3 rfl (za7 (fun h7=>⟨rfl,?_⟩) (fun h7=>g0 rfl (g3 rfl (za7 (fun h8=>g1 rfl (g2 rfl ⟨rfl,?_⟩)) (fun h8=>⟨rfl,?_⟩))))))) (fun h6=>g0 rfl (g3 rfl (za7 (fun h8=>g1 rfl (g2 rfl ⟨rfl,?_⟩)) (fun h8=>⟨rfl,?_⟩))))))
           all_goals simp_all
       · rw [if_neg h4] at vc
         refine znv (x2.le hl2) (by omega) fun b h5 hl5 hb=>?_
         refine za2 (fun h6=>?_) (fun h6=>hk _ _ (Hp.le_trans hl2 hl5) (vc ⟨fun hh=>(by cases hh),fun hh=>by rw [hb.2 hh.1] at h6; cases h6⟩))
         refine znv ((x3.le hl2).le hl5) (by omega) fun b' h7 hl7 hb'=>hk _ _ (Hp.le_trans hl2 (Hp.le_trans hl5 hl7)) (vc ?_)
         rw [hb']
         exact ⟨fun hh=>⟨hb.1 h6,hh⟩,fun hh=>hh.2⟩
   · refine zah rfl ?_
     refine zax (fun h1=>no _ hl0 fun hv=>h1 ?_) (fun h1=>?_)
     · have:=hv.2.1.1
       simp only; omega
     refine zax (fun h2=>no _ hl0 fun hv=>h2 ?_) (fun h2=>?_)
     · have:=hv.2.2.1.1
       simp only; omega
     refine zax (fun h3=>no _ hl0 fun hv=>h3 ?_) (fun h3=>?_)
     · have:=hv.2.2.2.1
       simp only; omega
     simp only at h1 h2 h3
     refine zqw (x2.le hl0) (by omega) fun b h4 hl4 hb=>?_
     refine za2 (fun h5=>no _ (Hp.le_trans hl0 hl4) fun hv=>?_) (fun h5=>?_)
     · rw [hb.2 hv.2.1.2] at h5; cases h5
     refine zqw ((x3.le hl0).le hl4) (by omega) fun b6 h6 hl6 hb6=>?_
     have hle:=Hp.le_trans hl0 (Hp.le_trans hl4 hl6)
     refine za2 (fun h7=>no _ hle fun hv=>?_) (fun h7=>⟨hle,⟨by omega,hb.1 (by simpa using h5)⟩,⟨by omega,hb6.1 (by simpa using h7)⟩,by omega⟩)
     rw [hb6.2 hv.2.2.1.2] at h7; cases h7
 · exact za3 (fun _ _=>False) (fun _ _ hh=>hh.elim) (zbt rfl (no _ hl0 fun hv=>hn hv.1))
end
end Den
end

section
namespace Den
open Go Iv Lx
theorem zlr {h:Hp} {Ki:Int→Hp→Prop} {body:(Int×Unit)→((Int×Unit)→Hp→Prop)→Hp→Prop} {n:Nat} {g:Nat→Prop} (hn:n≤140737488355328)
 (hb:∀(i:Nat) h' (k:(Int×Unit)→Hp→Prop),h.le h'→i<n→(∀b h'',h'.le h''→(b=true↔g i)→ifP b (Ki (i:Int) h'') (k (IntKind.i64.wrap ((i:Int)+1),()) h''))→body ((i:Int),()) k h')
 (he:∀h' (k:(Int×Unit)→Hp→Prop),Ki (-1) h'→body ((n:Int),()) k h')
 (H:∀r h',h.le h'→(0≤r↔∃i,i<n∧g i)→Ki r h'):loopP body (0,()) h:=by
 refine zbi hn (fun i h'=>h.le h'∧∀j,j<i→¬g j) ⟨Hp.le_refl _,fun j hj=>by omega⟩ ?_
 rintro i h1 hi ⟨hl1,hno⟩ k hk2
 by_cases hi':i<n
 · refine hb i h1 k hl1 hi' fun b h2 hl2 hbg=>?_
   refine za2 (fun h3=>H _ _ (Hp.le_trans hl1 hl2) ⟨fun _=>⟨i,hi',hbg.1 h3⟩,fun _=>by omega⟩) (fun h3=>hk2 _ hi' ⟨Hp.le_trans hl1 hl2,fun j hj=>?_⟩)
   rcases Nat.lt_or_ge j i with h5 | h5
   · exact hno j h5
   · have:j=i:=by omega
     subst this
     intro hg
     rw [hbg.2 hg] at h3; cases h3
 · obtain rfl:i=n:=by omega
   exact he h1 k (H _ _ hl1 ⟨fun hh=>by omega,fun ⟨j,hj,hg⟩=>absurd hg (hno j hj)⟩)
def eqP {α:Type} (h:Hp) (x b:α):Prop:=x=b
def ptc (x:TPoint):List Value:=[.bool x.x.num.neg,Lf.sl.up x.x.num.mag,.bool x.x.den.neg,Lf.sl.up x.x.den.mag,.bool x.y.num.neg,Lf.sl.up x.y.num.mag,.bool x.y.den.neg,Lf.sl.up x.y.den.mag]
def rdc (x:TRound):List Value:=[.int .i64 x.center,.bool x.radius.num.neg,Lf.sl.up x.radius.num.mag,.bool x.radius.den.neg,Lf.sl.up x.radius.den.mag]
def sgc (x:TSegment):List Value:=[.int .i64 x.a,.int .i64 x.b]
def arcc (x:TArc):List Value:=[.int .i64 x.circle,.int .i64 x.a,.int .i64 x.b,.bool x.cw]
def pic (x:TPiece):List Value:=[.bool x.arc,.int .i64 x.index,.bool x.back]
def slc (x:Sl):List Value:=[Lf.sl.up x]
def PTT (h:Hp) (x:TPoint) (b:Option Rat×Option Rat):Prop:=OR h x.x b.1∧OR h x.y b.2
def RN (h:Hp) (x:TRound) (b:Int×Option Rat):Prop:=x.center=b.1∧OR h x.radius b.2
def CHN (h:Hp) (x:Sl) (ps:List TPiece):Prop:=LR pic 3 eqP h x ps
theorem zco:Rec ptc 8 PTT:=⟨fun _=>rfl,by decide,fun _=>rfl,fun hx hl=>⟨hx.1.le hl,hx.2.le hl⟩⟩
theorem zdk:Rec rdc 5 RN:=⟨fun _=>rfl,by decide,fun _=>rfl,fun hx hl=>⟨hx.1,hx.2.le hl⟩⟩
theorem zgi:Rec sgc 2 eqP:=⟨fun _=>rfl,by decide,fun _=>rfl,fun hx hl=>hx⟩
theorem zdo:Rec arcc 4 eqP:=⟨fun _=>rfl,by decide,fun _=>rfl,fun hx hl=>hx⟩
theorem zk2:Rec pic 3 eqP:=⟨fun _=>rfl,by decide,fun _=>rfl,fun hx hl=>hx⟩
theorem zf6:Rec slc 1 CHN:=⟨fun _=>rfl,by decide,fun _=>rfl,fun hx hl=>LR.le zk2 hx hl⟩
structure PSk where
 pts:List (Option Rat×Option Rat)
 cir:List (Int×Option Rat)
 seg:List TSegment
 arc:List TArc
 chn:List (List TPiece)
 con:List PCon
def SK (h:Hp) (s:TSketch) (S:PSk):Prop:=
 LR ptc 8 PTT h s.points S.pts∧LR rdc 5 RN h s.circles S.cir∧LR sgc 2 eqP h s.segments S.seg∧LR arcc 4 eqP h s.arcs S.arc∧LR slc 1 CHN h s.chains S.chn∧LR cc 5 CO h s.constraints S.con
theorem SK.le {h h':Hp} {s:TSketch} {S:PSk} (hx:SK h s S) (hl:h.le h'):SK h' s S:=
 ⟨hx.1.le zco hl,hx.2.1.le zdk hl,hx.2.2.1.le zgi hl,hx.2.2.2.1.le zdo hl,hx.2.2.2.2.1.le zf6 hl,hx.2.2.2.2.2.le zac hl⟩
def sSk (S:PSk):Prop:=S.pts.length≤10∧S.cir.length≤10∧S.seg.length≤10∧S.arc.length≤10∧S.chn.length≤10∧S.con.length≤20∧(∀c∈S.chn,c.length≤20)∧∀c∈S.con,sC c
def hasP (n:Nat) (i:Int):Prop:=0≤i∧i<n
def cen (S:PSk) (i:Int):Int:=(S.cir.getD i.toNat (0,none)).1
def endsP (S:PSk) (p:TPiece):Int×Int:=
 let q:=if p.arc=true then ((S.arc.getD p.index.toNat ⟨0,0,0,false⟩).a,(S.arc.getD p.index.toNat ⟨0,0,0,false⟩).b) else ((S.seg.getD p.index.toNat ⟨0,0⟩).a,(S.seg.getD p.index.toNat ⟨0,0⟩).b)
 if p.back=true then (q.2,q.1) else q
def okP (S:PSk) (p:TPiece):Prop:=hasP (if p.arc=true then S.arc.length else S.seg.length) p.index
def VCh (S:PSk) (c:List TPiece):Prop:=c≠[]∧(∀p∈c,okP S p)∧∀i (h:i+1<c.length),(endsP S c[i]).2=(endsP S c[i+1]).1
def VA (S:PSk) (a:TArc):Prop:=hasP S.cir.length a.circle∧hasP S.pts.length a.a∧hasP S.pts.length a.b∧a.a≠cen S a.circle∧a.b≠cen S a.circle
def VR (S:PSk) (c:Int×Option Rat):Prop:=hasP S.pts.length c.1∧∃q,c.2=some q∧0<q.num
def VG (S:PSk) (g:TSegment):Prop:=hasP S.pts.length g.a∧hasP S.pts.length g.b∧g.a≠g.b
def VP (p:Option Rat×Option Rat):Prop:=p.1.isSome=true∧p.2.isSome=true
def VS (S:PSk):Prop:=(∀p∈S.pts,VP p)∧(∀c∈S.cir,VR S c)∧(∀g∈S.seg,VG S g)∧(∀a∈S.arc,VA S a)∧(∀c∈S.chn,VCh S c)∧∀c∈S.con,VC c S.pts.length S.cir.length
theorem zck {α:Type} {l:List α} {i:Nat} {d:α} (h:i<l.length):l.getD i d=l[i]:=by rw [List.getD_eq_getElem?_getD,List.getElem?_eq_getElem h]; rfl
theorem zos {α:Type} {l:List α} {P:α→Prop}:(∃i,i<l.length∧∃h:i<l.length,¬P l[i])↔¬∀x∈l,P x:=by
 constructor
 · rintro ⟨i,hi,h,hn⟩ hh
   exact hn (hh _ (List.getElem_mem h))
 · intro hh
   apply Classical.byContradiction
   intro hn
   exact hh fun x hx=>by
    obtain ⟨i,hi,rfl⟩:=List.mem_iff_getElem.1 hx
    exact Classical.byContradiction fun hp=>hn ⟨i,hi,hi,hp⟩
section
variable {h : Hp} {s : TSketch} {S : PSk} {Kb : Bool → Hp → Prop} {Ki : Int → Hp → Prop} {l : Sl}
theorem zi1 {n:Nat} {i:Int} (H:∀b,(b=true↔hasP n i)→Kb b h):callP (F.ze9 (n:Int) i) Kb h:=by
 refine za1 (fun b h'=>h'=h∧(b=true↔hasP n i)) (fun K' hk=>?_) fun b h' _ hb=>by obtain ⟨rfl,hb⟩:=hb; exact H b hb
 unfold F.ze9
 refine za0 (fun h1=>hk _ _ (Hp.le_refl _) ⟨rfl,by rw [decide_eq_true_iff]; exact ⟨fun hh=>⟨h1,hh⟩,fun hh=>hh.2⟩⟩) (fun h1=>hk _ _ (Hp.le_refl _) ⟨rfl,fun hh=>(by cases hh),fun hh=>absurd hh.1 h1⟩)
theorem zgl {n:Nat} {i:Int} (H:∀b,(b=true↔hasP n i)→Kb b h):callP (F.zek (n:Int) i) Kb h:=zi1 H
theorem zwn (hx:SK h s S) (hs:sSk S) (H:∀h',h.le h'→Kb false h'):callP (F.ziw s) Kb h:=by
 refine za1 (fun b h'=>b=false) (fun K' hk=>?_) fun b h' hl hb=>by subst hb; exact H h' hl
 unfold F.ziw
 obtain ⟨x1,x2,x3,x4,x5,x6⟩:=hx
 obtain ⟨s1,s2,s3,s4,s5,s6,s7,s8⟩:=hs
 have l1:=x1.len zco
 have l2:=x2.len zdk
 have l3:=x3.len zgi
 have l4:=x4.len zdo
 have l5:=x5.len zf6
 have l6:=x6.len zac
 refine ziz fun a h1 hl1 hc=>?_
 have hr:IL h1 ⟨some a,6,6⟩ [(s.points.len:Int),s.circles.len,s.segments.len,s.arcs.len,s.chains.len,s.constraints.len]:=⟨zex hc rfl,Nat.le_refl _⟩
 refine zbi (n:=6) (by omega) (fun i h'=>h'=h1) rfl ?_
 rintro i h1 hi rfl k hk2
 refine za0 (fun h2=>?_) (fun h2=>?_)
 · have hi':i<6:=by have:(i:Int)<6:=h2; omega
   have hall:∀z∈([(s.points.len:Int),s.circles.len,s.segments.len,s.arcs.len,s.chains.len,s.constraints.len]:List Int),z≤20:=by
    simp only [List.mem_cons,List.not_mem_nil,or_false,forall_eq_or_imp,forall_eq]
    omega
   have h9:=hall _ (List.getElem_mem (show i<([(s.points.len:Int),s.circles.len,s.segments.len,s.arcs.len,s.chains.len,s.constraints.len]:List Int).length from hi'))
   refine hr.get i rfl hi' (za0 (fun h3=>?_) (fun h3=>hk2 _ hi' rfl))
   exfalso
   have h3:_>(200:Int):=h3
   omega
 · refine za1 (fun b h'=>b=false) (fun K2 hk3=>?_) fun b h' hl hb=>hk _ _ (Hp.le_trans hl1 hl) hb
   unfold F.zbh
   refine za1 (fun r h'=>¬0≤r) (fun K4 hk4=>?_) fun r h' hl hr=>hk3 _ _ hl (decide_eq_false hr)
   unfold F.zbp
   refine zlr (n:=S.chn.length) (g:=fun i=>False) (by omega) (fun i h' k hl hi' hb=>?_) (fun h' k hk=>za0 (fun hh=>by simp only at hh; omega) (fun _=>hk)) (fun r h' hl hr=>hk4 _ _ hl (fun hh=>by obtain ⟨_,_,hf⟩:=hr.1 hh; exact hf))
   refine za0 (fun _=>?_) (fun hh=>by simp only at hh; omega)
   refine (x5.le zf6 (Hp.le_trans hl1 hl)).get zf6 i rfl hi' fun b x hxx hcc=>?_
   have e0:=hcc 0 _ rfl
   rw [zb3] at e0
   refine ⟨_,e0,?_⟩
   have hxl:=LR.len zk2 hxx
   have:=s7 _ (List.getElem_mem hi')
   refine zae false (fun K' hk=>?_) (hb false _ (Hp.le_refl _) (by simp))
   unfold F.zjj
   rw [decide_eq_false (by omega)]; exact hk
theorem za7e (hx:SK h s S) (hs:sSk S) (H:∀h',h.le h'→Kb false h'):callP (F.zmi s) Kb h:=by
 refine za1 (fun b h'=>b=false) (fun K' hk=>?_) fun b h' hl hb=>by subst hb; exact H h' hl
 unfold F.zmi
 obtain ⟨x1,x2,x3,x4,x5,x6⟩:=hx
 obtain ⟨s1,s2,s3,s4,s5,s6,s7,s8⟩:=hs
 have l1:=x1.len zco
 have l2:=x2.len zdk
 have l3:=x3.len zgi
 have l4:=x4.len zdo
 have l5:=x5.len zf6
 have l6:=x6.len zac
 refine zbi (n:=S.chn.length) (by omega) (fun i h'=>h'=h) rfl ?_
 rintro i h hi rfl k hk2
 refine za0 (fun h2=>?_) (fun h2=>?_)
 · have hi':i<S.chn.length:=by simp only at h2; omega
   refine x5.get zf6 i rfl hi' fun b x hxx hcc=>?_
   have e0:=hcc 0 _ rfl
   rw [zb3] at e0
   refine ⟨_,e0,?_⟩
   have hxl:=LR.len zk2 hxx
   have:=s7 _ (List.getElem_mem hi')
   exact za0 (fun hh=>by omega) (fun _=>hk2 _ hi' rfl)
 · refine za0 (fun hh=>by omega) fun _=>za0 (fun hh=>by omega) fun _=>za0 (fun hh=>by omega) fun _=>za0 (fun hh=>by omega) fun _=>za0 (fun hh=>by omega) fun _=>hk _ _ (Hp.le_refl _) (decide_eq_false (by omega))
theorem zaao {p:TPiece} {K:(Int×Int)→Hp→Prop} (hx:SK h s S) (hp:okP S p) (H:K (endsP S p) h):F.zj4 s p K h:=by
 unfold F.zj4
 obtain ⟨x1,x2,x3,x4,x5,x6⟩:=hx
 unfold okP hasP at hp
 unfold endsP at H
 refine za3 (fun st h'=>h'=h∧(st.1,st.2.1)=(if p.arc=true then ((S.arc.getD p.index.toNat ⟨0,0,0,false⟩).a,(S.arc.getD p.index.toNat ⟨0,0,0,false⟩).b) else ((S.seg.getD p.index.toNat ⟨0,0⟩).a,(S.seg.getD p.index.toNat ⟨0,0⟩).b))) ?_ ?_
 · rintro ⟨a,b,_⟩ h ⟨rfl,hab⟩
   simp only at hab H
   rw [←hab] at H
   refine za2 (fun h1=>?_) (fun h1=>?_)
   · rw [if_pos h1] at H; exact H
   · rw [h1] at H; exact H
 · refine za2 (fun h1=>?_) (fun h1=>?_)
   · rw [if_pos h1] at hp
     have hk:p.index.toNat<S.arc.length:=by omega
     refine x4.get zdo p.index.toNat (by omega) hk fun a x hxx hc=>⟨_,hc 1 _ rfl,x4.get zdo p.index.toNat (by omega) hk fun b y hyy hc2=>⟨_,hc2 2 _ rfl,rfl,?_⟩⟩
     have e1:x=S.arc[p.index.toNat]:=hxx
     have e2:y=S.arc[p.index.toNat]:=hyy
     subst e1
     rw [if_pos h1,zck hk,e2]
   · rw [h1] at hp
     simp only [Bool.false_eq_true,if_false] at hp
     have hk:p.index.toNat<S.seg.length:=by omega
     refine x3.get zgi p.index.toNat (by omega) hk fun a x hxx hc=>⟨_,hc 0 _ rfl,x3.get zgi p.index.toNat (by omega) hk fun b y hyy hc2=>⟨_,hc2 1 _ rfl,rfl,?_⟩⟩
     have e1:x=S.seg[p.index.toNat]:=hxx
     have e2:y=S.seg[p.index.toNat]:=hyy
     subst e1
     rw [h1,zck hk,e2]
     rfl
theorem zty {p:TPiece} {K:(Int×Int)→Hp→Prop} (hx:SK h s S) (hp:okP S p) (H:K (endsP S p) h):callP (F.zj4 s p) K h:=zae _ (fun K' hk=>zaao hx hp hk) H
theorem ztr {p:TPiece} {K:(Int×Int)→Hp→Prop} (hx:SK h s S) (hp:okP S p) (H:K (endsP S p) h):callP (F.zmh s p) K h:=zty hx hp H
end
end Den
end

section
namespace Den
open Go Iv Lx Go.Proofs
open Go.ChangeShapes Go.WideShapes Go.ChangeAt Go.RowKit
theorem zage:laidOutB Tryz.prog=true:=by kernel_rfl
theorem zagc:mapsRowed Tryz.prog=true:=by kernel_rfl
theorem zagd:sizedB Tryz.prog=true:=by kernel_rfl
theorem zsr:Tryz.prog.cellsOf 4=1:=by kernel_rfl
theorem c_int:Tryz.prog.cellsOf 3=1:=by kernel_rfl
theorem c_str:Tryz.prog.cellsOf 9=1:=by kernel_rfl
theorem zaci:Tryz.prog.bytesOf 180=4:=by kernel_rfl
theorem c_u32:Tryz.prog.cellsOf 180=1:=by kernel_rfl
theorem c_W:Tryz.prog.cellsOf 59=1:=by kernel_rfl
theorem c_I:Tryz.prog.cellsOf 61=2:=by kernel_rfl
theorem c_R:Tryz.prog.cellsOf 63=4:=by kernel_rfl
theorem c_E:Tryz.prog.cellsOf 66=7:=by kernel_rfl
theorem c_sE:Tryz.prog.cellsOf 64=1:=by kernel_rfl
theorem c_sI:Tryz.prog.cellsOf 32=1:=by kernel_rfl
theorem c_C:Tryz.prog.cellsOf 101=5:=by kernel_rfl
theorem c_P:Tryz.prog.cellsOf 88=8:=by kernel_rfl
theorem c_O:Tryz.prog.cellsOf 90=5:=by kernel_rfl
theorem c_G:Tryz.prog.cellsOf 94=2:=by kernel_rfl
theorem c_A:Tryz.prog.cellsOf 96=4:=by kernel_rfl
theorem c_Pi:Tryz.prog.cellsOf 154=3:=by kernel_rfl
theorem c_sPi:Tryz.prog.cellsOf 98=1:=by kernel_rfl
theorem c_sP:Tryz.prog.cellsOf 22=1:=by kernel_rfl
theorem c_sO:Tryz.prog.cellsOf 23=1:=by kernel_rfl
theorem c_sG:Tryz.prog.cellsOf 24=1:=by kernel_rfl
theorem c_sA:Tryz.prog.cellsOf 25=1:=by kernel_rfl
theorem zacj:Tryz.prog.cellsOf 26=1:=by kernel_rfl
theorem c_sC:Tryz.prog.cellsOf 27=1:=by kernel_rfl
theorem c_S:Tryz.prog.cellsOf 29=6:=by kernel_rfl
section
variable {H : Type} {enc : TypeId × Value → H} {P : Program} {w : World}
def OktN (enc:TypeId×Value→H) (P:Program) (w:World) (n:Nat) (t:TypeId) (cs:List Value):Prop:=∃x,DataW.trod enc P w 0 (fun _=>true) true n t cs=some x∧∀k∈x.1.weights P t,k≤reachBytes
theorem Okt.n {t:TypeId} {cs:List Value} (h:Okt enc P w t cs):∃n,OktN enc P w n t cs:=h
theorem OktN.okt {n:Nat} {t:TypeId} {cs:List Value} (h:OktN enc P w n t cs):Okt enc P w t cs:=⟨n,h⟩
theorem OktN.fields {n:Nat} {t:TypeId} {fs:Array Field} {cs:List Value} (ht:P.underlying t=some (.struct fs)) (h:OktN enc P w n t cs) :
 ∃m,n=m+1∧cs.length=P.cellsOf t∧∀(i:Nat) (f:Field),fs[i]?=some f→OktN enc P w m f.type ((cs.drop f.offset).take (P.cellsOf f.type)):=by
 obtain ⟨x,h,hw⟩:=h
 obtain ⟨xs,m,en,e,hl,hx,hf⟩:=DataW.trod_struct ht h
 subst e
 simp only [DataW.weights,ht] at hw
 refine ⟨m,en,hl,fun i f hi=>?_⟩
 have h1:=hf i f hi
 have h2:i<xs.length:=by rw [hx]; exact (Array.getElem?_eq_some_iff.1 hi).1
 rw [List.getElem?_eq_getElem h2] at h1
 refine ⟨_,h1,fun k hk=>hw k (zhr (i:=i) ?_ ?_ k hk)⟩
 · rw [List.getElem?_map,Array.getElem?_toList,hi]; rfl
 · rw [List.getElem?_map,List.getElem?_eq_getElem h2]; rfl
theorem OktN.slice {n:Nat} {t e:TypeId} {cs:List Value} (ht:P.underlying t=some (.slice e)) (h:OktN enc P w n t cs) :
 ∃s:Sl,cs=[Lf.sl.up s]∧s.len≤s.cap∧s.len*P.bytesOf e≤reachBytes∧∃css:List (List Value),css.length=s.len∧(∀c∈css,c.length=P.cellsOf e∧∃m,m<n∧OktN enc P w m e c)∧Rd (hpW w) (P.cellsOf e) s css.flatten:=by
 obtain ⟨x,h,hw⟩:=h
 rcases DataW.trod_slice ht h with ⟨rfl,_⟩ | ⟨a,len,cap,elems,rest,m,en,rfl,ex,_,hl,hm,hlen,hel,_,_⟩
 · exact ⟨⟨none,0,0⟩,rfl,Nat.le_refl _,by simp,[],rfl,by simp,by simp,rfl⟩
 · subst ex
   simp only [DataW.weights,ht] at hw
   have hby:len*P.bytesOf e≤reachBytes:=by
    refine Nat.le_trans (Nat.mul_le_mul_right _ ?_) (hw _ (List.mem_cons_self ..))
    simp only [List.length_map,hlen]
    omega
   have each:∀i,i<len→∃c,w.cells? 0 (a.add (i*P.cellsOf e)) (P.cellsOf e)=some c∧OktN enc P w m e c:=fun i hi=>by
    have h1:=hel i hi
    rw [List.getElem?_eq_getElem (by omega),Option.bind_eq_some_iff] at h1
    obtain ⟨c,hc,hd⟩:=h1
    exact ⟨c,hc,_,hd,fun k hk=>hw k (List.mem_cons_of_mem _ (List.mem_append_left _ (zkq (List.mem_map.2 ⟨_,List.getElem_mem (by omega),rfl⟩) k hk)))⟩
   have hall:∀k,k≤len→∃css:List (List Value),css.length=k∧∀i (hi:i<css.length),w.cells? 0 (a.add (i*P.cellsOf e)) (P.cellsOf e)=some css[i]∧OktN enc P w m e css[i]:=by
    intro k
    induction k with
    | zero=>intro _; exact ⟨[],rfl,fun i hi=>by simp at hi⟩
    | succ k ih=>
      intro hk
      obtain ⟨css,h1,h2⟩:=ih (by omega)
      obtain ⟨c,hc,hd⟩:=each k (by omega)
      refine ⟨css++[c],by simp [h1],fun i hi=>?_⟩
      by_cases hik:i<css.length
      · rw [List.getElem_append_left hik]; exact h2 i hik
      · have:i=k:=by simp at hi; omega
        subst this
        rw [List.getElem_append_right (by omega)]
        simpa [h1] using ⟨hc,hd⟩
   obtain ⟨css,h1,h2⟩:=hall len (Nat.le_refl _)
   have hsz:∀c∈css,c.length=P.cellsOf e:=fun c hc=>by
    obtain ⟨i,hi,rfl⟩:=List.mem_iff_getElem.1 hc
    exact (World.cells?_some (h2 i hi).1).2.1
   refine ⟨⟨some a,len,cap⟩,rfl,hl,hby,css,h1,fun c hc=>⟨hsz c hc,?_⟩,?_,?_⟩
   · obtain ⟨i,hi,rfl⟩:=List.mem_iff_getElem.1 hc
     exact ⟨m,by omega,(h2 i hi).2⟩
   · rw [zno hsz,h1]
   · refine zv5 fun i hi=>?_
     rw [zno hsz] at hi
     have hk:0<P.cellsOf e:=by
      rcases Nat.eq_zero_or_pos (P.cellsOf e) with h0 | h0
      · rw [h0,Nat.mul_zero] at hi; omega
      · exact h0
     have hq:i/P.cellsOf e<css.length:=(Nat.div_lt_iff_lt_mul hk).2 hi
     have hr:i % P.cellsOf e<P.cellsOf e:=Nat.mod_lt _ hk
     have hi':i=i/P.cellsOf e*P.cellsOf e+i % P.cellsOf e:=by rw [Nat.mul_comm]; exact (Nat.div_add_mod _ _).symm
     have h3:=(World.cells?_some (h2 _ hq).1).2.2 _ hr
     rw [zce,←hi'] at h3
     have h4:css.flatten[i]?=css.flatten[i/P.cellsOf e*P.cellsOf e+i % P.cellsOf e]?:=congrArg (css.flatten[·]?) hi'
     rw [h3,h4,zv2 hsz hr,List.getElem?_eq_getElem hq]
     rfl
theorem zuk {α β:Type} {c:α→List Value} {Q:α→β→Prop} {R:List Value→Prop} (hel:∀cs,R cs→∃x b,cs=c x∧Q x b):∀{css:List (List Value)},(∀d∈css,R d) →
 ∃(xs:List α) (ps:List β),css.flatten=xs.flatMap c∧xs.length=ps.length∧css.length=xs.length∧∀k (h1:k<xs.length) (h2:k<ps.length),Q xs[k] ps[k]
 | [],_=>⟨[],[],rfl,rfl,rfl,fun k h1 _=>by simp at h1⟩
 | d :: r,h=>by
   obtain ⟨xs,ps,h1,h2,h3,h4⟩:=zuk hel (css:=r) fun x hx=>h x (List.mem_cons_of_mem _ hx)
   obtain ⟨x,b,hx,hq⟩:=hel d (h d (by simp))
   refine ⟨x :: xs,b :: ps,?_,by simp [h2],by simp [h3],fun k k1 k2=>?_⟩
   · rw [List.flatten_cons,h1,hx]; rfl
   · cases k with
     | zero=>exact hq
     | succ k=>exact h4 k (by simpa using k1) (by simpa using k2)
theorem zlu {α β:Type} {c:α→List Value} {n:Nat} {Q:Hp→α→β→Prop} {t e:TypeId} {cs:List Value} (ht:P.underlying t=some (.slice e)) (hce:P.cellsOf e=n)
 (hel:∀cs,Okt enc P w e cs→∃(x:α) (b:β),cs=c x∧Q (hpW w) x b) (h:Okt enc P w t cs):∃(s:Sl) (ps:List β),cs=[Lf.sl.up s]∧LR c n Q (hpW w) s ps:=by
 obtain ⟨s,hs,h1,h2,css,h3,h4,h5⟩:=h.slice ht
 obtain ⟨xs,ps,g1,g2,g3,g4⟩:=zuk hel (fun d hd=>(h4 d hd).2)
 rw [hce,g1] at h5
 exact ⟨s,ps,hs,xs,h5,h1,g2,g4⟩
theorem zag {cs a r:List Value} {o k:Nat} (h1:(cs.drop o).take k=a) (h2:cs.drop (o+k)=r):cs.drop o=a++r:=by
 rw [←h1,←h2,←List.drop_drop,List.take_append_drop]
theorem zed {cs:List Value} {n:Nat} (h:cs.length=n):cs.drop n=[]:=List.drop_of_length_le (by omega)
end
section
variable {H : Type} {enc : TypeId × Value → H} {w : World} {cs : List Value}
theorem wc_of:∀{css:List (List Value)},(∀c∈css,c.length=1∧Okt enc Tryz.prog w 180 c)→∃l:List Nat,css.flatten=wc l∧okW l
 | [],_=>⟨[],rfl,fun d hd=>by simp at hd⟩
 | c :: r,h=>by
   obtain ⟨l,h1,h2⟩:=wc_of (css:=r) fun x hx=>h x (List.mem_cons_of_mem _ hx)
   obtain ⟨m,rfl,hw⟩:=(h c (by simp)).2.int Tryz.underlying180
   simp [Lit.wf,IntKind.min,IntKind.max,IntKind.signed,IntKind.bits] at hw
   refine ⟨m.toNat :: l,?_,fun d hd=>?_⟩
   · rw [List.flatten_cons,h1]
     simp only [wc,List.map_cons,List.cons_append,List.nil_append]
     rw [Int.toNat_of_nonneg (by omega)]
   · rcases List.mem_cons.1 hd with rfl | hd
     · rw [W_eq]; omega
     · exact h2 d hd
theorem okt_W (h:Okt enc Tryz.prog w 59 cs):∃s:Sl,cs=[Lf.sl.up s]∧s.len≤35184372087808∧∃l,RdW (hpW w) s l∧okW l:=by
 obtain ⟨s,rfl,h1,h2,css,h3,h4,h5⟩:=h.slice Tryz.underlying59
 rw [c_u32] at h4 h5
 rw [zaci,show reachBytes=140737488351232 from rfl] at h2
 obtain ⟨l,hl,ok⟩:=wc_of h4
 rw [hl] at h5
 exact ⟨s,rfl,by omega,l,⟨h5,h1⟩,ok⟩
theorem okt_I (h:Okt enc Tryz.prog w 61 cs):∃x:TInt,cs=[.bool x.neg,Lf.sl.up x.mag]∧x.mag.len≤35184372087808∧AI (hpW w) x:=by
 obtain ⟨hl,hf⟩:=h.fields Tryz.underlying61
 rw [c_I] at hl
 have h0:Okt enc Tryz.prog w 4 ((cs.drop 0).take (Tryz.prog.cellsOf 4)):=hf 0 _ rfl
 have h1:Okt enc Tryz.prog w 59 ((cs.drop 1).take (Tryz.prog.cellsOf 59)):=hf 1 _ rfl
 rw [zsr] at h0
 rw [c_W] at h1
 obtain ⟨b,hb⟩:=h0.bool Tryz.underlying4
 obtain ⟨s,hs,hm,hr⟩:=okt_W h1
 exact ⟨⟨b,s⟩,zag hb (zag hs (zed hl)),hm,hr⟩
theorem okt_R (h:Okt enc Tryz.prog w 63 cs):∃(x:TRat) (v:Option Rat),cs=[.bool x.num.neg,Lf.sl.up x.num.mag,.bool x.den.neg,Lf.sl.up x.den.mag]∧OR (hpW w) x v:=by
 obtain ⟨hl,hf⟩:=h.fields Tryz.underlying63
 rw [c_R] at hl
 have h0:Okt enc Tryz.prog w 61 ((cs.drop 0).take (Tryz.prog.cellsOf 61)):=hf 0 _ rfl
 have h1:Okt enc Tryz.prog w 61 ((cs.drop 2).take (Tryz.prog.cellsOf 61)):=hf 1 _ rfl
 rw [c_I] at h0 h1
 obtain ⟨x,hx,mx,ax⟩:=okt_I h0
 obtain ⟨y,hy,my,ay⟩:=okt_I h1
 obtain ⟨v,hv⟩:=OR_of (x:=⟨x,y⟩) ⟨ax,ay⟩ mx my
 exact ⟨⟨x,y⟩,v,zag hx (zag hy (zed hl)),hv⟩
theorem okt_E:∀(n:Nat) (cs:List Value),OktN enc Tryz.prog w n 66 cs→∃(e:TExpr) (p:PEx),cs=ec e∧EX (hpW w) e p:=by
 intro n
 induction n using Nat.strongRecOn with
 | _ n ih=>
   intro cs h
   obtain ⟨m,rfl,hl,hf⟩:=h.fields Tryz.underlying66
   rw [c_E] at hl
   have h0:OktN enc Tryz.prog w m 3 ((cs.drop 0).take (Tryz.prog.cellsOf 3)):=hf 0 _ rfl
   have h1:OktN enc Tryz.prog w m 63 ((cs.drop 1).take (Tryz.prog.cellsOf 63)):=hf 1 _ rfl
   have h2:OktN enc Tryz.prog w m 9 ((cs.drop 5).take (Tryz.prog.cellsOf 9)):=hf 2 _ rfl
   have h3:OktN enc Tryz.prog w m 64 ((cs.drop 6).take (Tryz.prog.cellsOf 64)):=hf 3 _ rfl
   rw [c_int] at h0
   rw [c_R] at h1
   rw [c_str] at h2
   rw [c_sE] at h3
   obtain ⟨op,ho,_⟩:=h0.okt.int Tryz.underlying3
   obtain ⟨x,v,hx,hv⟩:=okt_R h1.okt
   obtain ⟨nm,hn,_⟩:=h2.okt.str Tryz.underlying9
   obtain ⟨s,hs,k1,k2,css,k3,k4,k5⟩:=h3.slice Tryz.underlying64
   obtain ⟨xs,ps,g1,g2,g3,g4⟩:=zuk (R:=fun c=>∃j,j<m∧OktN enc Tryz.prog w j 66 c) (c:=ec) (Q:=EX (hpW w)) (fun c ⟨j,hj,hc⟩=>ih j (by omega) c hc) (fun d hd=>(k4 d hd).2)
   rw [c_E,g1] at k5
   exact ⟨⟨op,x,nm,s⟩,.mk op x v nm ps,zag ho (zag hx (zag hn (zag hs (zed hl)))),EX.mk ⟨op,x,nm,s⟩ v xs ps hv k5 k1 g2 g4⟩
theorem zy5:∀{css:List (List Value)},(∀c∈css,c.length=Tryz.prog.cellsOf 3∧Okt enc Tryz.prog w 3 c)→∃l:List Int,css.flatten=l.map ic∧∀z∈l,-9223372036854775808≤z∧z≤9223372036854775807
 | [],_=>⟨[],rfl,fun d hd=>by simp at hd⟩
 | c :: r,h=>by
   obtain ⟨l,h1,h2⟩:=zy5 (css:=r) fun x hx=>h x (List.mem_cons_of_mem _ hx)
   obtain ⟨m,rfl,hw⟩:=(h c (by simp)).2.int Tryz.underlying3
   simp [Lit.wf,IntKind.min,IntKind.max,IntKind.signed,IntKind.bits] at hw
   refine ⟨m :: l,?_,fun d hd=>?_⟩
   · rw [List.flatten_cons,h1]; rfl
   · rcases List.mem_cons.1 hd with rfl | hd
     · omega
     · exact h2 d hd
theorem zy6 (h:Okt enc Tryz.prog w 32 cs):∃(s:Sl) (xs:List Int),cs=[Lf.sl.up s]∧IL (hpW w) s xs∧∀z∈xs,-9223372036854775808≤z∧z≤9223372036854775807:=by
 obtain ⟨s,hs,h1,h2,css,h3,h4,h5⟩:=h.slice Tryz.underlying32
 obtain ⟨l,g1,g2⟩:=zy5 h4
 rw [c_int,g1] at h5
 exact ⟨s,l,hs,⟨h5,h1⟩,g2⟩
theorem okt_C (h:Okt enc Tryz.prog w 101 cs):∃(x:TConstraint) (c:PCon),cs=cc x∧CO (hpW w) x c:=by
 obtain ⟨hl,hf⟩:=h.fields Tryz.underlying101
 rw [c_C] at hl
 have h0:Okt enc Tryz.prog w 3 ((cs.drop 0).take (Tryz.prog.cellsOf 3)):=hf 0 _ rfl
 have h1:Okt enc Tryz.prog w 32 ((cs.drop 1).take (Tryz.prog.cellsOf 32)):=hf 1 _ rfl
 have h2:Okt enc Tryz.prog w 32 ((cs.drop 2).take (Tryz.prog.cellsOf 32)):=hf 2 _ rfl
 have h3:Okt enc Tryz.prog w 64 ((cs.drop 3).take (Tryz.prog.cellsOf 64)):=hf 3 _ rfl
 have h4:Okt enc Tryz.prog w 3 ((cs.drop 4).take (Tryz.prog.cellsOf 3)):=hf 4 _ rfl
 rw [c_int] at h0 h4
 rw [c_sI] at h1 h2
 rw [c_sE] at h3
 obtain ⟨kd,e0,_⟩:=h0.int Tryz.underlying3
 obtain ⟨p,ps,e1,i1,_⟩:=zy6 h1
 obtain ⟨q,qs,e2,i2,_⟩:=zy6 h2
 obtain ⟨v,vs,e3,i3⟩:=zlu (c:=ec) (n:=7) (Q:=EX) Tryz.underlying64 c_E (fun cs hc=>by
  obtain ⟨n,hn⟩:=hc.n
  exact okt_E n cs hn) h3
 obtain ⟨sd,e4,_⟩:=h4.int Tryz.underlying3
 exact ⟨⟨kd,p,q,v,sd⟩,⟨kd,ps,qs,vs,sd⟩,zag e0 (zag e1 (zag e2 (zag e3 (zag e4 (zed hl))))),rfl,i1,i2,i3,rfl⟩
theorem okt_P (h:Okt enc Tryz.prog w 88 cs):∃(x:TPoint) (b:Option Rat×Option Rat),cs=ptc x∧PTT (hpW w) x b:=by
 obtain ⟨hl,hf⟩:=h.fields Tryz.underlying88
 rw [c_P] at hl
 have h0:Okt enc Tryz.prog w 63 ((cs.drop 0).take (Tryz.prog.cellsOf 63)):=hf 0 _ rfl
 have h1:Okt enc Tryz.prog w 63 ((cs.drop 4).take (Tryz.prog.cellsOf 63)):=hf 1 _ rfl
 rw [c_R] at h0 h1
 obtain ⟨x,v,e0,i0⟩:=okt_R h0
 obtain ⟨y,u,e1,i1⟩:=okt_R h1
 exact ⟨⟨x,y⟩,(v,u),zag e0 (zag e1 (zed hl)),i0,i1⟩
theorem okt_O (h:Okt enc Tryz.prog w 90 cs):∃(x:TRound) (b:Int×Option Rat),cs=rdc x∧RN (hpW w) x b:=by
 obtain ⟨hl,hf⟩:=h.fields Tryz.underlying90
 rw [c_O] at hl
 have h0:Okt enc Tryz.prog w 3 ((cs.drop 0).take (Tryz.prog.cellsOf 3)):=hf 0 _ rfl
 have h1:Okt enc Tryz.prog w 63 ((cs.drop 1).take (Tryz.prog.cellsOf 63)):=hf 1 _ rfl
 rw [c_int] at h0
 rw [c_R] at h1
 obtain ⟨z,e0,_⟩:=h0.int Tryz.underlying3
 obtain ⟨y,u,e1,i1⟩:=okt_R h1
 exact ⟨⟨z,y⟩,(z,u),zag e0 (zag e1 (zed hl)),rfl,i1⟩
theorem okt_G (h:Okt enc Tryz.prog w 94 cs):∃(x b:TSegment),cs=sgc x∧eqP (hpW w) x b:=by
 obtain ⟨hl,hf⟩:=h.fields Tryz.underlying94
 rw [c_G] at hl
 have h0:Okt enc Tryz.prog w 3 ((cs.drop 0).take (Tryz.prog.cellsOf 3)):=hf 0 _ rfl
 have h1:Okt enc Tryz.prog w 3 ((cs.drop 1).take (Tryz.prog.cellsOf 3)):=hf 1 _ rfl
 rw [c_int] at h0 h1
 obtain ⟨a,e0,_⟩:=h0.int Tryz.underlying3
 obtain ⟨b,e1,_⟩:=h1.int Tryz.underlying3
 exact ⟨⟨a,b⟩,⟨a,b⟩,zag e0 (zag e1 (zed hl)),rfl⟩
theorem okt_A (h:Okt enc Tryz.prog w 96 cs):∃(x b:TArc),cs=arcc x∧eqP (hpW w) x b:=by
 obtain ⟨hl,hf⟩:=h.fields Tryz.underlying96
 rw [c_A] at hl
 have h0:Okt enc Tryz.prog w 3 ((cs.drop 0).take (Tryz.prog.cellsOf 3)):=hf 0 _ rfl
 have h1:Okt enc Tryz.prog w 3 ((cs.drop 1).take (Tryz.prog.cellsOf 3)):=hf 1 _ rfl
 have h2:Okt enc Tryz.prog w 3 ((cs.drop 2).take (Tryz.prog.cellsOf 3)):=hf 2 _ rfl
 have h3:Okt enc Tryz.prog w 4 ((cs.drop 3).take (Tryz.prog.cellsOf 4)):=hf 3 _ rfl
 rw [c_int] at h0 h1 h2
 rw [zsr] at h3
 obtain ⟨a,e0,_⟩:=h0.int Tryz.underlying3
 obtain ⟨b,e1,_⟩:=h1.int Tryz.underlying3
 obtain ⟨c,e2,_⟩:=h2.int Tryz.underlying3
 obtain ⟨d,e3⟩:=h3.bool Tryz.underlying4
 exact ⟨⟨a,b,c,d⟩,⟨a,b,c,d⟩,zag e0 (zag e1 (zag e2 (zag e3 (zed hl)))),rfl⟩
theorem zadn (h:Okt enc Tryz.prog w 154 cs):∃(x b:TPiece),cs=pic x∧eqP (hpW w) x b:=by
 obtain ⟨hl,hf⟩:=h.fields Tryz.underlying154
 rw [c_Pi] at hl
 have h0:Okt enc Tryz.prog w 4 ((cs.drop 0).take (Tryz.prog.cellsOf 4)):=hf 0 _ rfl
 have h1:Okt enc Tryz.prog w 3 ((cs.drop 1).take (Tryz.prog.cellsOf 3)):=hf 1 _ rfl
 have h2:Okt enc Tryz.prog w 4 ((cs.drop 2).take (Tryz.prog.cellsOf 4)):=hf 2 _ rfl
 rw [c_int] at h1
 rw [zsr] at h0 h2
 obtain ⟨a,e0⟩:=h0.bool Tryz.underlying4
 obtain ⟨b,e1,_⟩:=h1.int Tryz.underlying3
 obtain ⟨c,e2⟩:=h2.bool Tryz.underlying4
 exact ⟨⟨a,b,c⟩,⟨a,b,c⟩,zag e0 (zag e1 (zag e2 (zed hl))),rfl⟩
theorem okt_S (h:Okt enc Tryz.prog w 29 cs):∃x:TSketch,cs=[Lf.sl.up x.points,Lf.sl.up x.circles,Lf.sl.up x.segments,Lf.sl.up x.arcs,Lf.sl.up x.chains,Lf.sl.up x.constraints]∧∃S,SK (hpW w) x S:=by
 obtain ⟨hl,hf⟩:=h.fields Tryz.underlying29
 rw [c_S] at hl
 have h0:Okt enc Tryz.prog w 22 ((cs.drop 0).take (Tryz.prog.cellsOf 22)):=hf 0 _ rfl
 have h1:Okt enc Tryz.prog w 23 ((cs.drop 1).take (Tryz.prog.cellsOf 23)):=hf 1 _ rfl
 have h2:Okt enc Tryz.prog w 24 ((cs.drop 2).take (Tryz.prog.cellsOf 24)):=hf 2 _ rfl
 have h3:Okt enc Tryz.prog w 25 ((cs.drop 3).take (Tryz.prog.cellsOf 25)):=hf 3 _ rfl
 have h4:Okt enc Tryz.prog w 26 ((cs.drop 4).take (Tryz.prog.cellsOf 26)):=hf 4 _ rfl
 have h5:Okt enc Tryz.prog w 27 ((cs.drop 5).take (Tryz.prog.cellsOf 27)):=hf 5 _ rfl
 rw [c_sP] at h0
 rw [c_sO] at h1
 rw [c_sG] at h2
 rw [c_sA] at h3
 rw [zacj] at h4
 rw [c_sC] at h5
 obtain ⟨s0,p0,e0,i0⟩:=zlu (c:=ptc) (n:=8) (Q:=PTT) Tryz.underlying22 c_P (fun _ h=>okt_P h) h0
 obtain ⟨s1,p1,e1,i1⟩:=zlu (c:=rdc) (n:=5) (Q:=RN) Tryz.underlying23 c_O (fun _ h=>okt_O h) h1
 obtain ⟨s2,p2,e2,i2⟩:=zlu (c:=sgc) (n:=2) (Q:=eqP) Tryz.underlying24 c_G (fun _ h=>okt_G h) h2
 obtain ⟨s3,p3,e3,i3⟩:=zlu (c:=arcc) (n:=4) (Q:=eqP) Tryz.underlying25 c_A (fun _ h=>okt_A h) h3
 obtain ⟨s4,p4,e4,i4⟩:=zlu (c:=slc) (n:=1) (Q:=CHN) Tryz.underlying26 c_sPi (fun _ h=>by
  obtain ⟨x,ps,e,i⟩:=zlu (c:=pic) (n:=3) (Q:=eqP) Tryz.underlying98 c_Pi (fun _ h=>zadn h) h
  exact ⟨x,ps,e,i⟩) h4
 obtain ⟨s5,p5,e5,i5⟩:=zlu (c:=cc) (n:=5) (Q:=CO) Tryz.underlying27 c_C (fun _ h=>okt_C h) h5
 exact ⟨⟨s0,s1,s2,s3,s4,s5⟩,zag e0 (zag e1 (zag e2 (zag e3 (zag e4 (zag e5 (zed hl)))))),⟨p0,p1,p2,p3,p4,p5⟩,i0,i1,i2,i3,i4,i5⟩
end
theorem zagj {P:Program} {W:World} {r:Reach} {b:Nat} {t:TypeId} {v:Value} (h:Value.okWide P W r b t v) (hu:isAgg? P t=some true):∃c:List Value,v=.agg c.toArray∧v.cells.toList=c:=by
 unfold isAgg? at hu
 unfold Value.okWide at h
 split at h
 · obtain ⟨cs,rfl,_⟩:=h; exact ⟨cs.toList,by simp,by simp [Value.cells]⟩
 · obtain ⟨cs,rfl,_⟩:=h; exact ⟨cs.toList,by simp,by simp [Value.cells]⟩
 · rename_i h1 h2
   split at hu
   · rename_i hh; exact absurd hh (h1 _)
   · rename_i hh; exact absurd hh (h2 _ _)
   · cases hu
   · cases hu
end Den
end

section
namespace Den
open Go Iv Lx Go.Proofs Go.Proofs.YthifcokendanpaaGreatDoor
open Go.ChangeShapes Go.WideShapes Go.ChangeAt Go.RowKit
theorem zjw {P:Program} {w:World}:∀{l:List (String×DataW Unit)} {ps:List MemPlace},DataW.LaidVars P w l ps→∀{n:String} {d:DataW Unit},(n,d)∈l →
 ∃g t cs fuel p,P.globalNamed n=some g∧(P.globals[g]?).map (·.type)=some t∧w.var? P n=some cs∧DataW.trod (fun _=>()) P w 0 (fun _=>true) false fuel t cs.toList=some (d,p)
 | [],_,_,_,_,hm=>by simp at hm
 | (n0,d0) :: r,_,⟨g,t,cs,fuel,p,q,h1,h2,h3,h4,h5,_⟩,n,d,hm=>by
   rcases List.mem_cons.1 hm with e | hm
   · cases e
     exact ⟨g,t,cs,fuel,p,h1,h2,h3,h4⟩
   · exact zjw h5 hm
section
variable {H : Type} {enc : TypeId × Value → H} {P : Program} {w : World} {base : Nat} {sp : Nat → Bool} {held : Bool} {n : Nat} {t e : TypeId} {cs : List Value} {ps : List MemPlace}
theorem zqi {k:IntKind} {ns:List Int} {m:Nat} (ht:P.underlying t=some (.array m e)) (he:P.underlying e=some (.int k)) (hc:P.cellsOf e=1)
 (h:DataW.trod enc P w base sp held n t cs=some (.agg (ns.map fun z=>.lit (.int k z)),ps)):∀i,i<ns.length→cs[i]?=some (.int k (ns.getD i 0)):=by
 obtain ⟨xs,q,_,hx,hl,hxl,hf⟩:=DataW.trod_array ht h
 simp only [Prod.mk.injEq,DataW.agg.injEq] at hx
 intro i hi
 have hxs:xs.length=ns.length:=by have:=congrArg List.length hx.1; simpa using this.symm
 have h1:=hf i (by omega)
 rw [hc,Nat.mul_one,List.getElem?_eq_getElem (by omega)] at h1
 have h2:xs[i].1=.lit (.int k ns[i]):=by
  have:=congrArg (fun l:List (DataW H)=>l[i]?) hx.1
  simp only [List.getElem?_map] at this
  rw [List.getElem?_eq_getElem hi,List.getElem?_eq_getElem (by omega)] at this
  exact (Option.some.inj this).symm
 obtain ⟨z,e1,e2,_⟩:=DataW.trod_int he h1
 rw [e2] at h2
 have hz:z=ns[i]:=by simpa using h2
 have h3:((cs.drop i).take 1)[0]?=some (.int k z):=by rw [e1]; rfl
 rw [hz] at h3
 have e4:ns.getD i 0=ns[i]:=by rw [List.getD_eq_getElem?_getD,List.getElem?_eq_getElem hi]; rfl
 rw [e4]
 simpa [List.getElem?_take,List.getElem?_drop] using h3
theorem zzd {cs a:List Value} {o k j:Nat} {v:Value} (h:(cs.drop o).take k=a) (hv:a[j]?=some v):cs[o+j]?=some v:=by
 rw [←h] at hv
 rw [List.getElem?_take] at hv
 split at hv
 · rw [List.getElem?_drop] at hv; exact hv
 · cases hv
theorem znq {k:IntKind} {z:Int} (he:P.underlying t=some (.int k)) (h:DataW.trod enc P w base sp held n t cs=some (.lit (.int k z),ps)):cs=[.int k z]:=by
 obtain ⟨y,e1,e2,_⟩:=DataW.trod_int he h
 simp only [Prod.mk.injEq,DataW.lit.injEq,Lit.int.injEq] at e2
 rw [e1,e2.1.2]
theorem zp9 {b:Bool} (he:P.underlying t=some .bool) (h:DataW.trod enc P w base sp held n t cs=some (.lit (.bool b),ps)):cs=[.bool b]:=by
 obtain ⟨y,e1,e2⟩:=DataW.trod_bool he h
 simp only [Prod.mk.injEq,DataW.lit.injEq,Lit.bool.injEq] at e2
 rw [e1,e2.1]
end
theorem zwe (g i:Nat):(⟨g,0,none⟩:Addr).add i=⟨g,i,none⟩:=by
 have h1:=zbg (⟨g,0,none⟩:Addr) i
 have h2:=zcs (⟨g,0,none⟩:Addr) i
 have h3:=zdw (a:=(⟨g,0,none⟩:Addr)) rfl i
 cases hh:(⟨g,0,none⟩:Addr).add i with
 | mk a b c=>
   rw [hh] at h1 h2 h3
   simp only at h1 h2 h3
   subst h1 h2 h3
   simp
theorem gP10:Tryz.prog.globalNamed "internal/strconv.uint64pow10"=some 3:=by kernel_rfl
theorem gOps:Tryz.prog.globalNamed "setsquare/formula.operands"=some 2:=by kernel_rfl
theorem gTab:Tryz.prog.globalNamed "setsquare/constraint.table"=some 1:=by kernel_rfl
theorem tP10:(Tryz.prog.globals[3]?).map (·.type)=some 269:=by kernel_rfl
theorem tOps:(Tryz.prog.globals[2]?).map (·.type)=some 219:=by kernel_rfl
theorem tTab:(Tryz.prog.globals[1]?).map (·.type)=some 171:=by kernel_rfl
theorem c_u64:Tryz.prog.cellsOf 190=1:=by kernel_rfl
theorem c_ent:Tryz.prog.cellsOf 170=8:=by kernel_rfl
theorem c_shp:Tryz.prog.cellsOf 124=7:=by kernel_rfl
section
variable {W : World}
theorem zade {H:Type} {enc:TypeId×Value→H} {n:Nat} {c:List Value} {nm:DataW H} {a b d e:Int} {f g k:Bool} {ps:List MemPlace}
 (h:DataW.trod enc Tryz.prog W 0 (fun _=>true) false n 170 c=some (.agg [nm,.agg [.lit (.int .i64 a),.lit (.int .i64 b),.lit (.int .i64 d),.lit (.int .i64 e),.lit (.bool f),.lit (.bool g),.lit (.bool k)]],ps)) :
 ∀j v,([.int .i64 a,.int .i64 b,.int .i64 d,.int .i64 e,.bool f,.bool g,.bool k]:List Value)[j]?=some v→c[1+j]?=some v:=by
 obtain ⟨xs,m,_,hx,hl,hxl,hf⟩:=DataW.trod_struct Tryz.underlying170 h
 simp only [Prod.mk.injEq,DataW.agg.injEq] at hx
 have h1:DataW.trod enc Tryz.prog W 0 (fun _=>true) false m 124 ((c.drop 1).take (Tryz.prog.cellsOf 124))=xs[1]?:=hf 1 _ rfl
 rw [c_shp] at h1
 match xs,hx with
 | [x0,x1],hx=>
   simp only [List.map_cons,List.map_nil,List.cons.injEq,and_true] at hx
   obtain ⟨⟨_,hx1⟩,_⟩:=hx
   simp only [List.getElem?_cons_succ,List.getElem?_cons_zero] at h1
   obtain ⟨d1,p1⟩:=x1
   simp only at hx1
   subst hx1
   obtain ⟨ys,q,_,hy,hyl,hyl2,hg⟩:=DataW.trod_struct Tryz.underlying124 h1
   simp only [Prod.mk.injEq,DataW.agg.injEq] at hy
   match ys,hy with
   | [y0,y1,y2,y3,y4,y5,y6],hy=>
     simp only [List.map_cons,List.map_nil,List.cons.injEq,and_true] at hy
     obtain ⟨⟨z0,z1,z2,z3,z4,z5,z6⟩,_⟩:=hy
     have g0:DataW.trod enc Tryz.prog W 0 (fun _=>true) false q 3 ((((c.drop 1).take 7).drop 0).take (Tryz.prog.cellsOf 3))=some y0:=hg 0 _ rfl
     have g1:DataW.trod enc Tryz.prog W 0 (fun _=>true) false q 3 ((((c.drop 1).take 7).drop 1).take (Tryz.prog.cellsOf 3))=some y1:=hg 1 _ rfl
     have g2:DataW.trod enc Tryz.prog W 0 (fun _=>true) false q 3 ((((c.drop 1).take 7).drop 2).take (Tryz.prog.cellsOf 3))=some y2:=hg 2 _ rfl
     have g3:DataW.trod enc Tryz.prog W 0 (fun _=>true) false q 3 ((((c.drop 1).take 7).drop 3).take (Tryz.prog.cellsOf 3))=some y3:=hg 3 _ rfl
     have g4:DataW.trod enc Tryz.prog W 0 (fun _=>true) false q 4 ((((c.drop 1).take 7).drop 4).take (Tryz.prog.cellsOf 4))=some y4:=hg 4 _ rfl
     have g5:DataW.trod enc Tryz.prog W 0 (fun _=>true) false q 4 ((((c.drop 1).take 7).drop 5).take (Tryz.prog.cellsOf 4))=some y5:=hg 5 _ rfl
     have g6:DataW.trod enc Tryz.prog W 0 (fun _=>true) false q 4 ((((c.drop 1).take 7).drop 6).take (Tryz.prog.cellsOf 4))=some y6:=hg 6 _ rfl
     rw [c_int] at g0 g1 g2 g3
     rw [zsr] at g4 g5 g6
     obtain ⟨u0,w0⟩:=y0; obtain ⟨u1,w1⟩:=y1; obtain ⟨u2,w2⟩:=y2; obtain ⟨u3,w3⟩:=y3; obtain ⟨u4,w4⟩:=y4; obtain ⟨u5,w5⟩:=y5; obtain ⟨u6,w6⟩:=y6
     simp only at z0 z1 z2 z3 z4 z5 z6
     subst z0 z1 z2 z3 z4 z5 z6
     have r0:=znq Tryz.underlying3 g0
     have r1:=znq Tryz.underlying3 g1
     have r2:=znq Tryz.underlying3 g2
     have r3:=znq Tryz.underlying3 g3
     have r4:=zp9 Tryz.underlying4 g4
     have r5:=zp9 Tryz.underlying4 g5
     have r6:=zp9 Tryz.underlying4 g6
     have hall:(c.drop 1).take 7=[.int .i64 a,.int .i64 b,.int .i64 d,.int .i64 e,.bool f,.bool g,.bool k]:=by
      have hl7:((c.drop 1).take 7).length=7:=by rw [c_shp] at hyl; exact hyl
      exact zag r0 (zag r1 (zag r2 (zag r3 (zag r4 (zag r5 (zag r6 (zed hl7)))))))
     intro j v hv
     exact zzd hall hv
def pow20:List Int:=[1,10,100,1000,10000,100000,1000000,10000000,100000000,1000000000,10000000000,100000000000,1000000000000,10000000000000,100000000000000,1000000000000000,10000000000000000,100000000000000000,1000000000000000000,10000000000000000000]
theorem zaai:∀i:Fin 20,pow20.getD i 0=((10 ^ (i:Nat):Nat):Int):=by decide
theorem gt_of {l:List (String×DataW Unit)} (h:laidMet Tryz.prog l W) (h1:("internal/strconv.uint64pow10",Rows.laid_internal_strconv_uint64pow10)∈l)
 (h2:("setsquare/formula.operands",Rows.laid_setsquare_formula_operands)∈l) (h3:("setsquare/constraint.table",Rows.laid_setsquare_constraint_table)∈l):GT (hpW W):=by
 obtain ⟨ps,hv,_⟩:=h
 refine ⟨fun i hi=>?_,fun i hi=>?_,fun k hk1 hk2=>?_⟩
 · obtain ⟨g,t,cs,fuel,p,hg,ht,hvar,hd⟩:=zjw hv h1
   obtain rfl:=Option.some.inj (gP10.symm.trans hg)
   obtain rfl:=Option.some.inj (tP10.symm.trans ht)
   have hd':DataW.trod (fun _=>()) Tryz.prog W 0 (fun _=>true) false fuel 269 cs.toList=some (.agg (pow20.map fun z=>.lit (.int .u64 z)),p):=hd
   have:=zqi Tryz.underlying269 Tryz.underlying190 c_u64 hd' i hi
   rw [zpf,zwe,World.var?_cell hg hvar i,←Array.getElem?_toList,this]
   have e:=zaai ⟨i,hi⟩
   rw [←e]
 · obtain ⟨g,t,cs,fuel,p,hg,ht,hvar,hd⟩:=zjw hv h2
   obtain rfl:=Option.some.inj (gOps.symm.trans hg)
   obtain rfl:=Option.some.inj (tOps.symm.trans ht)
   have hd':DataW.trod (fun _=>()) Tryz.prog W 0 (fun _=>true) false fuel 219 cs.toList=some (.agg (([0,0,0,1,2,2,2,2]:List Int).map fun z=>.lit (.int .i64 z)),p):=hd
   have:=zqi Tryz.underlying219 Tryz.underlying3 c_int hd' i hi
   rw [zpf,zwe,World.var?_cell hg hvar i,←Array.getElem?_toList,this]
 · obtain ⟨g,t,cs,fuel,p,hg,ht,hvar,hd⟩:=zjw hv h3
   obtain rfl:=Option.some.inj (gTab.symm.trans hg)
   obtain rfl:=Option.some.inj (tTab.symm.trans ht)
   obtain ⟨xs,q,_,hx,hl,hxl,hf⟩:=DataW.trod_array Tryz.underlying171 hd
   simp only [Prod.mk.injEq] at hx
   have hk:=hf k (by omega)
   rw [c_ent] at hk
   rw [List.getElem?_eq_getElem (by omega)] at hk
   have hx1:(xs.map (·.1))=(match (Rows.laid_setsquare_constraint_table:DataW Unit) with | .agg l=>l | _=>[]):=by rw [hx.1]
   have hxk:(xs[k]'(by omega)).1=((match (Rows.laid_setsquare_constraint_table:DataW Unit) with | .agg l=>l | _=>[]):List (DataW Unit)).getD k .nil:=by
    rw [←hx1,List.getD_eq_getElem?_getD,List.getElem?_map,List.getElem?_eq_getElem (by omega)]
    rfl
   have fin:∀(nm:DataW Unit) (a b d e:Int) (f g kk:Bool),(xs[k]'(by omega)).1=.agg [nm,.agg [.lit (.int .i64 a),.lit (.int .i64 b),.lit (.int .i64 d),.lit (.int .i64 e),.lit (.bool f),.lit (.bool g),.lit (.bool kk)]] →
    ((shK k).1:Int)=a→((shK k).2.1:Int)=b→((shK k).2.2.1:Int)=d→((shK k).2.2.2.1:Int)=e→(shK k).2.2.2.2=f →
    ∃ln ps:Bool,∀j v,([.int .i64 ((shK k).1:Int),.int .i64 ((shK k).2.1:Int),.int .i64 ((shK k).2.2.1:Int),.int .i64 ((shK k).2.2.2.1:Int),.bool (shK k).2.2.2.2,.bool ln,.bool ps]:List Value)[j]?=some v →
     (hpW W).cell ((((⟨1,0,none⟩:Addr).add (k*8)).add 1).add j)=some v:=by
    intro nm a b d e f g kk he ea eb ed ee ef
    refine ⟨g,kk,fun j v hv=>?_⟩
    have hk':DataW.trod (fun _=>()) Tryz.prog W 0 (fun _=>true) false q 170 ((cs.toList.drop (k*8)).take 8)=some (.agg [nm,.agg [.lit (.int .i64 a),.lit (.int .i64 b),.lit (.int .i64 d),.lit (.int .i64 e),.lit (.bool f),.lit (.bool g),.lit (.bool kk)]],(xs[k]'(by omega)).2):=by
     rw [hk]
     congr 1
     exact Prod.ext he rfl
    rw [ea,eb,ed,ee,ef] at hv
    have h5:=zade hk' j v hv
    have h6:cs.toList[k*8+(1+j)]?=some v:=zzd rfl h5
    rw [zpf,zce,zce,zwe,World.var?_cell hg hvar,←Array.getElem?_toList]
    exact h6
   clear hd hf hk hl hx hx1
   rcases (by omega:k=1∨k=2∨k=3∨k=4∨k=5∨k=6∨k=7∨k=8∨k=9∨k=10∨k=11∨k=12∨k=13∨k=14∨k=15∨k=16∨k=17) with rfl | rfl | rfl | rfl | rfl | rfl | rfl | rfl | rfl | rfl | rfl | rfl | rfl | rfl | rfl | rfl | rfl <;>
    exact fin _ _ _ _ _ _ _ _ hxk rfl rfl rfl rfl rfl
end
end Den
end

section
namespace Den
open Go Iv Lx
section
variable {h : Hp} {s : TSketch} {S : PSk} {Kb : Bool → Hp → Prop} {Ki : Int → Hp → Prop} {l : Sl}
theorem zms {b:Bool} {P:Prop} (h:b=true↔¬P):(!b)=true↔P:=by
 rw [Bool.not_eq_true',←Bool.not_eq_true,h]
 exact ⟨fun hh=>Classical.byContradiction hh,fun hh hn=>hn hh⟩
theorem zzv {ps:List (Option Rat×Option Rat)} (hx:LR ptc 8 PTT h l ps) (hlen:ps.length≤1000000) (H:∀b h',h.le h'→(b=true↔∀p∈ps,VP p)→Kb b h'):callP (F.zcc l) Kb h:=by
 refine za1 (fun b h'=>(b=true↔∀p∈ps,VP p)) (fun K' hk=>?_) fun b h' hl hb=>H b h' hl hb
 unfold F.zcc
 refine ze0 fun a h1 hl1 hc1=>?_
 have hl:=hx.len zco
 refine za1 (fun b h'=>(b=true↔¬∀p∈ps,VP p)) (fun K2 hk2=>?_) fun b h' hl hb=>hk _ _ (Hp.le_trans hl1 hl) (zms hb)
 unfold F.zap
 refine za1 (fun r h'=>(0≤r↔¬∀p∈ps,VP p)) (fun K3 hk3=>?_) fun r h' hl hr=>hk2 _ _ hl (by rw [decide_eq_true_iff]; exact hr)
 unfold F.zat
 refine zlr (n:=ps.length) (g:=fun i=>∃h:i<ps.length,¬VP ps[i]) (by omega) (fun i h' k hl' hi' hb=>?_) (fun h' k hk=>za0 (fun hh=>by simp only at hh; omega) (fun _=>hk)) (fun r h' hl hr=>hk3 _ _ hl (by rw [hr,zos]))
 refine za0 (fun _=>?_) (fun hh=>by simp only at hh; omega)
 refine (hx.le zco (Hp.le_trans hl1 hl')).get zco i rfl hi' fun b x hxx hc=>?_
 refine ⟨_,hc 0 _ rfl,_,hc 1 _ rfl,_,hc 2 _ rfl,_,hc 3 _ rfl,_,hc 4 _ rfl,_,hc 5 _ rfl,_,hc 6 _ rfl,_,hc 7 _ rfl,?_⟩
 refine za1 (fun b h'=>(b=true↔¬VP ps[i])) (fun K4 hk4=>?_) fun b h'' hl'' hbb=>hb b h'' hl'' (by rw [hbb]; exact ⟨fun hh=>⟨hi',hh⟩,fun ⟨_,hh⟩=>hh⟩)
 unfold F.zcq
 refine ⟨_,Hp.cell_le hl' hc1,rfl,?_⟩
 refine za1 (fun b h'=>(b=true↔VP ps[i])) (fun K5 hk5=>?_) fun b h'' hl'' hbb=>hk4 _ _ hl'' (by rw [Bool.not_eq_true',←Bool.not_eq_true,hbb])
 unfold F.zky
 refine zrc hxx.1 fun h2 hl2=>?_
 refine za2 (fun h3=>zrc (hxx.2.le hl2) fun h4 hl4=>hk5 _ _ (Hp.le_trans hl2 hl4) ⟨fun hh=>⟨h3,hh⟩,fun hh=>hh.2⟩) (fun h3=>hk5 _ _ hl2 ⟨fun hh=>(by cases hh),fun hh=>by rw [hh.1] at h3; cases h3⟩)
theorem posq {q:Rat}:q.num.sign>0↔0<q.num:=by
 constructor
 · intro hh; exact Int.sign_pos_iff.1 hh
 · intro hh; exact Int.sign_pos_iff.2 hh
theorem za0n {x:TRat} {q:Rat} (hx:NR h x q) (hl1:x.num.mag.len≤35184372087808) (H:Ki q.num.sign h):callP (F.zfn x) Ki h:=
 zae _ (fun K' hk=>zp7 hx.1 (zls hx.1 hl1) hk) H
theorem zys {x:TRat} {q:Rat} (hx:NR h x q) (hl1:x.num.mag.len≤35184372087808) (H:Ki q.num.sign h):callP (F.zir x) Ki h:=
 zae _ (fun K' hk=>zo8 hx.1 (zls hx.1 hl1) hk) H
theorem zzw {ps:List (Int×Option Rat)} {a0:Addr} (hx:LR rdc 5 RN h l ps) (hlen:ps.length≤1000000) (h0:h.cell a0=some (.int .i64 (S.pts.length:Int))) (H:∀b h',h.le h'→(b=true↔∀p∈ps,VR S p)→Kb b h'):callP (F.zcd l (some a0,())) Kb h:=by
 refine za1 (fun b h'=>(b=true↔∀p∈ps,VR S p)) (fun K' hk=>?_) fun b h' hl hb=>H b h' hl hb
 unfold F.zcd
 refine ze0 fun a h1 hl1 hc1=>?_
 have hl:=hx.len zdk
 refine za1 (fun b h'=>(b=true↔¬∀p∈ps,VR S p)) (fun K2 hk2=>?_) fun b h' hl hb=>hk _ _ (Hp.le_trans hl1 hl) (zms hb)
 unfold F.zaq
 refine za1 (fun r h'=>(0≤r↔¬∀p∈ps,VR S p)) (fun K3 hk3=>?_) fun r h' hl hr=>hk2 _ _ hl (by rw [decide_eq_true_iff]; exact hr)
 unfold F.zau
 refine zlr (n:=ps.length) (g:=fun i=>∃h:i<ps.length,¬VR S ps[i]) (by omega) (fun i h' k hl' hi' hb=>?_) (fun h' k hk=>za0 (fun hh=>by simp only at hh; omega) (fun _=>hk)) (fun r h' hl hr=>hk3 _ _ hl (by rw [hr,zos]))
 refine za0 (fun _=>?_) (fun hh=>by simp only at hh; omega)
 refine (hx.le zdk (Hp.le_trans hl1 hl')).get zdk i rfl hi' fun b x hxx hc=>?_
 refine ⟨_,hc 0 _ rfl,_,hc 1 _ rfl,_,hc 2 _ rfl,_,hc 3 _ rfl,_,hc 4 _ rfl,?_⟩
 refine za1 (fun b h'=>(b=true↔¬VR S ps[i])) (fun K4 hk4=>?_) fun b h'' hl'' hbb=>hb b h'' hl'' (by rw [hbb]; exact ⟨fun hh=>⟨hi',hh⟩,fun ⟨_,hh⟩=>hh⟩)
 unfold F.zcr
 refine ⟨_,Hp.cell_le hl' hc1,some a0,rfl,?_⟩
 refine za1 (fun b h'=>(b=true↔VR S ps[i])) (fun K5 hk5=>?_) fun b h'' hl'' hbb=>hk4 _ _ hl'' (by rw [Bool.not_eq_true',←Bool.not_eq_true,hbb])
 unfold F.zkz
 refine ⟨_,Hp.cell_le (Hp.le_trans hl1 hl') h0,?_⟩
 have hx1:=hxx.1
 have hx2:=hxx.2
 have no:∀h'',h'.le h''→¬VR S ps[i]→K5 false h'':=fun h'' hl hn=>hk5 _ _ hl ⟨fun hh=>(by cases hh),fun hh=>absurd hh hn⟩
 simp only
 rw [hx1]
 refine zi1 fun b hb=>?_
 refine za2 (fun h2=>?_) (fun h2=>no _ (Hp.le_refl _) fun hv=>by rw [hb.2 hv.1] at h2; cases h2)
 refine zrc hx2 fun h3 hl3=>?_
 refine za2 (fun h4=>?_) (fun h4=>no _ hl3 fun hv=>by obtain ⟨q,hq,_⟩:=hv.2; rw [hq] at h4; cases h4)
 obtain ⟨q,hq⟩:=Option.isSome_iff_exists.1 h4
 rw [hq] at hx2
 refine za0n (hx2.nr.le hl3) hx2.2.1 (hk5 _ _ hl3 ?_)
 rw [decide_eq_true_iff,posq]
 exact ⟨fun hh=>⟨hb.1 h2,q,hq,hh⟩,fun hh=>by obtain ⟨q',hq',h5⟩:=hh.2; rw [hq] at hq'; cases hq'; exact h5⟩
theorem zzx {ps:List TSegment} {a0:Addr} (hx:LR sgc 2 eqP h l ps) (hlen:ps.length≤1000000) (h0:h.cell a0=some (.int .i64 (S.pts.length:Int))) (H:∀b h',h.le h'→(b=true↔∀p∈ps,VG S p)→Kb b h'):callP (F.zc2 l (some a0,())) Kb h:=by
 refine za1 (fun b h'=>(b=true↔∀p∈ps,VG S p)) (fun K' hk=>?_) fun b h' hl hb=>H b h' hl hb
 unfold F.zc2
 refine ze0 fun a h1 hl1 hc1=>?_
 have hl:=hx.len zgi
 refine za1 (fun b h'=>(b=true↔¬∀p∈ps,VG S p)) (fun K2 hk2=>?_) fun b h' hl hb=>hk _ _ (Hp.le_trans hl1 hl) (zms hb)
 unfold F.zak
 refine za1 (fun r h'=>(0≤r↔¬∀p∈ps,VG S p)) (fun K3 hk3=>?_) fun r h' hl hr=>hk2 _ _ hl (by rw [decide_eq_true_iff]; exact hr)
 unfold F.zam
 refine zlr (n:=ps.length) (g:=fun i=>∃h:i<ps.length,¬VG S ps[i]) (by omega) (fun i h' k hl' hi' hb=>?_) (fun h' k hk=>za0 (fun hh=>by simp only at hh; omega) (fun _=>hk)) (fun r h' hl hr=>hk3 _ _ hl (by rw [hr,zos]))
 refine za0 (fun _=>?_) (fun hh=>by simp only at hh; omega)
 refine (hx.le zgi (Hp.le_trans hl1 hl')).get zgi i rfl hi' fun b x hxx hc=>?_
 refine ⟨_,hc 0 _ rfl,_,hc 1 _ rfl,?_⟩
 have hxx:x=ps[i]:=hxx
 subst hxx
 refine za1 (fun b h'=>(b=true↔¬VG S ps[i])) (fun K4 hk4=>?_) fun b h'' hl'' hbb=>hb b h'' hl'' (by rw [hbb]; exact ⟨fun hh=>⟨hi',hh⟩,fun ⟨_,hh⟩=>hh⟩)
 unfold F.zcj
 refine ⟨_,Hp.cell_le hl' hc1,some a0,rfl,?_⟩
 refine za1 (fun b h'=>(b=true↔VG S ps[i])) (fun K5 hk5=>?_) fun b h'' hl'' hbb=>hk4 _ _ hl'' (by rw [Bool.not_eq_true',←Bool.not_eq_true,hbb])
 unfold F.zl0
 have c0:=Hp.cell_le (Hp.le_trans hl1 hl') h0
 have no:¬VG S ps[i]→K5 false h':=fun hn=>hk5 _ _ (Hp.le_refl _) ⟨fun hh=>(by cases hh),fun hh=>absurd hh hn⟩
 refine ⟨_,c0,?_⟩
 refine zi1 fun b hb=>?_
 refine za2 (fun h2=>?_) (fun h2=>no fun hv=>by rw [hb.2 hv.1] at h2; cases h2)
 refine ⟨_,c0,?_⟩
 refine zi1 fun b3 hb3=>?_
 refine za2 (fun h4=>?_) (fun h4=>no fun hv=>by rw [hb3.2 hv.2.1] at h4; cases h4)
 refine hk5 _ _ (Hp.le_refl _) ?_
 rw [bne_iff_ne]
 exact ⟨fun hh=>⟨hb.1 h2,hb3.1 h4,hh⟩,fun hh=>hh.2.2⟩
theorem zud {i:Int} {K:Int→Prop} (hx:SK h s S) (hi:hasP S.cir.length i) (H:K (cen S i)):idxP s.circles i 5 fun a=>ldL (.int .i64) (a.add 0) K h:=by
 obtain ⟨h0,h1⟩:=hi
 have hk:i.toNat<S.cir.length:=by omega
 refine hx.2.1.get zdk i.toNat (by omega) hk fun a x hxx hc=>⟨_,hc 0 _ rfl,?_⟩
 rw [hxx.1]
 unfold cen at H
 rw [List.getD_eq_getElem?_getD,List.getElem?_eq_getElem hk] at H
 exact H
theorem zw4 {a:TArc} (hx:SK h s S) (H:∀b,(b=true↔VA S a)→Kb b h):callP (F.zht s a) Kb h:=by
 refine za1 (fun b h'=>h'=h∧(b=true↔VA S a)) (fun K' hk=>?_) fun b h' _ hb=>by obtain ⟨rfl,hb⟩:=hb; exact H b hb
 unfold F.zht
 have l1:=hx.1.len zco
 have l2:=hx.2.1.len zdk
 have no:¬VA S a→K' false h:=fun hn=>hk _ _ (Hp.le_refl _) ⟨rfl,fun hh=>(by cases hh),fun hh=>absurd hh hn⟩
 refine za3 (fun _ h'=>h'=h∧hasP S.cir.length a.circle∧hasP S.pts.length a.a∧hasP S.pts.length a.b) ?_ ?_
 · rintro _ h ⟨rfl,g1,g2,g3⟩
   refine zud hx g1 ?_
   refine zax (fun h1=>hk _ _ (Hp.le_refl _) ⟨rfl,?_⟩) (fun h1=>no fun hv=>hv.2.2.2.1 h1)
   rw [bne_iff_ne]
   exact ⟨fun hh=>⟨g1,g2,g3,h1,hh⟩,fun hh=>hh.2.2.2.2⟩
 · rw [l1,l2]
   refine zi1 fun b hb=>za2 (fun h2=>no fun hv=>by rw [hb.2 hv.1] at h2; cases h2) fun h2=>?_
   refine zi1 fun b3 hb3=>za2 (fun h4=>no fun hv=>by rw [hb3.2 hv.2.1] at h4; cases h4) fun h4=>?_
   refine zi1 fun b5 hb5=>za2 (fun h6=>no fun hv=>by rw [hb5.2 hv.2.2.1] at h6; cases h6) fun h6=>?_
   exact ⟨rfl,hb.1 (by simpa using h2),hb3.1 (by simpa using h4),hb5.1 (by simpa using h6)⟩
def SKC (h:Hp) (a:Addr) (s:TSketch):Prop:=∀i v,([Lf.sl.up s.points,Lf.sl.up s.circles,Lf.sl.up s.segments,Lf.sl.up s.arcs,Lf.sl.up s.chains,Lf.sl.up s.constraints]:List Value)[i]?=some v→h.cell (a.add i)=some v
theorem SKC.le {h h':Hp} {a:Addr} {s:TSketch} (hx:SKC h a s) (hl:h.le h'):SKC h' a s:=fun i v hv=>Hp.cell_le hl (hx i v hv)
theorem zzs {ps:List TArc} {a0:Addr} (hx:LR arcc 4 eqP h l ps) (hlen:ps.length≤1000000) (h0:SKC h a0 s) (hS:SK h s S) (H:∀b h',h.le h'→(b=true↔∀p∈ps,VA S p)→Kb b h'):callP (F.zcg l (some a0,())) Kb h:=by
 refine za1 (fun b h'=>(b=true↔∀p∈ps,VA S p)) (fun K' hk=>?_) fun b h' hl hb=>H b h' hl hb
 unfold F.zcg
 refine ze0 fun a h1 hl1 hc1=>?_
 have hl:=hx.len zdo
 refine za1 (fun b h'=>(b=true↔¬∀p∈ps,VA S p)) (fun K2 hk2=>?_) fun b h' hl hb=>hk _ _ (Hp.le_trans hl1 hl) (zms hb)
 unfold F.zaw
 refine za1 (fun r h'=>(0≤r↔¬∀p∈ps,VA S p)) (fun K3 hk3=>?_) fun r h' hl hr=>hk2 _ _ hl (by rw [decide_eq_true_iff]; exact hr)
 unfold F.zb0
 refine zlr (n:=ps.length) (g:=fun i=>∃h:i<ps.length,¬VA S ps[i]) (by omega) (fun i h' k hl' hi' hb=>?_) (fun h' k hk=>za0 (fun hh=>by simp only at hh; omega) (fun _=>hk)) (fun r h' hl hr=>hk3 _ _ hl (by rw [hr,zos]))
 refine za0 (fun _=>?_) (fun hh=>by simp only at hh; omega)
 refine (hx.le zdo (Hp.le_trans hl1 hl')).get zdo i rfl hi' fun b x hxx hc=>?_
 refine ⟨_,hc 0 _ rfl,_,hc 1 _ rfl,_,hc 2 _ rfl,_,hc 3 _ rfl,?_⟩
 have hxx:x=ps[i]:=hxx
 subst hxx
 refine za1 (fun b h'=>(b=true↔¬VA S ps[i])) (fun K4 hk4=>?_) fun b h'' hl'' hbb=>hb b h'' hl'' (by rw [hbb]; exact ⟨fun hh=>⟨hi',hh⟩,fun ⟨_,hh⟩=>hh⟩)
 unfold F.zcw
 refine ⟨_,Hp.cell_le hl' hc1,some a0,rfl,?_⟩
 refine za1 (fun b h'=>(b=true↔VA S ps[i])) (fun K5 hk5=>?_) fun b h'' hl'' hbb=>hk4 _ _ hl'' (by rw [Bool.not_eq_true',←Bool.not_eq_true,hbb])
 unfold F.zl1
 have c0:=h0.le (Hp.le_trans hl1 hl')
 refine ⟨_,c0 0 _ rfl,_,c0 1 _ rfl,_,c0 2 _ rfl,_,c0 3 _ rfl,_,c0 4 _ rfl,_,c0 5 _ rfl,?_⟩
 exact zw4 (s:=s) (hS.le (Hp.le_trans hl1 hl')) fun b hb=>hk5 _ _ (Hp.le_refl _) hb
theorem zua {ps:List TPiece} (hx:SK h s S) (hc:LR pic 3 eqP h l ps) (hlen:ps.length≤1000) (hs:sSk S) (H:∀b,(b=true↔VCh S ps)→Kb b h):callP (F.zgb s l) Kb h:=by
 refine za1 (fun b h'=>h'=h∧(b=true↔VCh S ps)) (fun K' hk=>?_) fun b h' _ hb=>by obtain ⟨rfl,hb⟩:=hb; exact H b hb
 unfold F.zgb
 have l3:=hx.2.2.1.len zgi
 have l4:=hx.2.2.2.1.len zdo
 have lc:=hc.len zk2
 have no:¬VCh S ps→K' false h:=fun hn=>hk _ _ (Hp.le_refl _) ⟨rfl,fun hh=>(by cases hh),fun hh=>absurd hh hn⟩
 refine zc5 (n:=ps.length) (by omega) (fun i a h'=>h'=h∧(∀j (hj:j<ps.length),j<i→okP S ps[j])∧(∀j (hj:j+1<ps.length),j+1<i→(endsP S ps[j]).2=(endsP S ps[j+1]).1)∧∀j (hj:j<ps.length),j+1=i→a=(endsP S ps[j]).2) ⟨rfl,fun j _ hj=>by omega,fun j _ hj=>by omega,fun j _ hj=>by omega⟩ ?_
 rintro i a h hi ⟨rfl,g1,g2,g3⟩ k hk2
 refine za0 (fun h2=>?_) (fun h2=>?_)
 · have hi':i<ps.length:=by simp only at h2; omega
   refine za3 (fun st h'=>h'=h∧okP S ps[i]∧(∀j (hj:j<ps.length),j+1=i→(endsP S ps[j]).2=(endsP S ps[i]).1)∧st.1=(endsP S ps[i]).2) ?_ ?_
   · rintro ⟨z,_⟩ h ⟨rfl,k1,k2,k3⟩
     refine hk2 _ _ hi' ⟨rfl,fun j hj hji=>?_,fun j hj hji=>?_,fun j hj hji=>?_⟩
     · rcases Nat.lt_or_ge j i with h5 | h5
       · exact g1 j hj h5
       · have:j=i:=by omega
         subst this; exact k1
     · rcases Nat.lt_or_ge (j+1) i with h5 | h5
       · exact g2 j hj h5
       · have:j+1=i:=by omega
         subst this; exact k2 j (by omega) rfl
     · have:j=i:=by omega
       subst this; exact k3
   · refine hc.get zk2 i rfl hi' fun b x hxx hcc=>?_
     refine ⟨_,hcc 0 _ rfl,_,hcc 1 _ rfl,_,hcc 2 _ rfl,?_⟩
     have hxx:x=ps[i]:=hxx
     rw [←hxx]
     refine za3 (fun st h'=>h'=h∧st.1=(((if x.arc=true then S.arc.length else S.seg.length):Nat):Int)) ?_ ?_
     · rintro ⟨z,_⟩ h ⟨rfl,hz⟩
       simp only at hz
       subst hz
       refine zi1 fun b hb=>za2 (fun h4=>no fun hv=>?_) fun h4=>?_
       · have:=hv.2.1 _ (List.getElem_mem hi')
         rw [←hxx] at this
         rw [hb.2 this] at h4; cases h4
       have hok:okP S x:=hb.1 (by simpa using h4)
       refine zty hx (p:=x) hok ?_
       refine za0 (fun h5=>?_) (fun h5=>⟨rfl,hok,fun j hj hji=>by simp only at h5; omega,rfl⟩)
       simp only at h5
       obtain ⟨j,rfl⟩:∃j,i=j+1:=⟨i-1,by omega⟩
       have ha:=g3 j (by omega) rfl
       refine zax (fun h6=>no fun hv=>?_) (fun h6=>⟨rfl,hok,fun j' hj' hji=>?_,rfl⟩)
       · have:=hv.2.2 j hi'
         rw [←hxx] at this
         simp only at h6
         rw [ha] at h6
         exact h6 this.symm
       · have:j'=j:=by omega
         subst this
         simp only at h6
         rw [←ha,h6]
     · refine za2 (fun h3=>⟨rfl,?_⟩) (fun h3=>⟨rfl,?_⟩)
       · simp only; rw [if_pos h3,l4]
       · simp only; rw [h3,l3]; rfl
 · have hi':i=ps.length:=by simp only at h2; omega
   subst hi'
   refine hk _ _ (Hp.le_refl _) ⟨rfl,?_⟩
   rw [decide_eq_true_iff]
   constructor
   · intro hh
     refine ⟨fun h0=>by rw [h0] at lc; simp at lc; omega,fun p hp=>?_,fun j hj=>g2 j hj (by omega)⟩
     obtain ⟨j,hj,rfl⟩:=List.mem_iff_getElem.1 hp
     exact g1 j hj hj
   · intro hh
     have:=List.length_pos_iff.2 hh.1
     omega
theorem zzt {ps:List (List TPiece)} {a0:Addr} (hx:LR slc 1 CHN h l ps) (hlen:ps.length≤1000000) (hp20:∀c∈ps,c.length≤20) (h0:SKC h a0 s) (hS:SK h s S) (hs:sSk S) (H:∀b h',h.le h'→(b=true↔∀p∈ps,VCh S p)→Kb b h'):callP (F.zcb l (some a0,())) Kb h:=by
 refine za1 (fun b h'=>(b=true↔∀p∈ps,VCh S p)) (fun K' hk=>?_) fun b h' hl hb=>H b h' hl hb
 unfold F.zcb
 refine ze0 fun a h1 hl1 hc1=>?_
 have hl:=hx.len zf6
 refine za1 (fun b h'=>(b=true↔¬∀p∈ps,VCh S p)) (fun K2 hk2=>?_) fun b h' hl hb=>hk _ _ (Hp.le_trans hl1 hl) (zms hb)
 unfold F.zao
 refine za1 (fun r h'=>(0≤r↔¬∀p∈ps,VCh S p)) (fun K3 hk3=>?_) fun r h' hl hr=>hk2 _ _ hl (by rw [decide_eq_true_iff]; exact hr)
 unfold F.zas
 refine zlr (n:=ps.length) (g:=fun i=>∃h:i<ps.length,¬VCh S ps[i]) (by omega) (fun i h' k hl' hi' hb=>?_) (fun h' k hk=>za0 (fun hh=>by simp only at hh; omega) (fun _=>hk)) (fun r h' hl hr=>hk3 _ _ hl (by rw [hr,zos]))
 refine za0 (fun _=>?_) (fun hh=>by simp only at hh; omega)
 refine (hx.le zf6 (Hp.le_trans hl1 hl')).get zf6 i rfl hi' fun b x hxx hc=>?_
 have e0:=hc 0 _ rfl
 rw [zb3] at e0
 refine ⟨_,e0,?_⟩
 refine za1 (fun b h'=>(b=true↔¬VCh S ps[i])) (fun K4 hk4=>?_) fun b h'' hl'' hbb=>hb b h'' hl'' (by rw [hbb]; exact ⟨fun hh=>⟨hi',hh⟩,fun ⟨_,hh⟩=>hh⟩)
 unfold F.zcp
 refine ⟨_,Hp.cell_le hl' hc1,some a0,rfl,?_⟩
 refine za1 (fun b h'=>(b=true↔VCh S ps[i])) (fun K5 hk5=>?_) fun b h'' hl'' hbb=>hk4 _ _ hl'' (by rw [Bool.not_eq_true',←Bool.not_eq_true,hbb])
 unfold F.zl2
 have c0:=h0.le (Hp.le_trans hl1 hl')
 refine ⟨_,c0 0 _ rfl,_,c0 1 _ rfl,_,c0 2 _ rfl,_,c0 3 _ rfl,_,c0 4 _ rfl,_,c0 5 _ rfl,?_⟩
 exact zua (s:=s) (hS.le (Hp.le_trans hl1 hl')) hxx (by have:=hp20 _ (List.getElem_mem hi'); omega) hs fun b hb=>hk5 _ _ (Hp.le_refl _) hb
theorem zzu {ps:List PCon} {a0 a1:Addr} {n m:Int} (hx:LR cc 5 CO h l ps) (hlen:ps.length≤1000000) (hps:∀c∈ps,sC c) (h0:h.cell a0=some (.int .i64 n)) (h1:h.cell a1=some (.int .i64 m)) (ht:GT h) (H:∀b h',h.le h'→(b=true↔∀p∈ps,VC p n m)→Kb b h'):callP (F.zbu l (some a0,some a1,())) Kb h:=by
 refine za1 (fun b h'=>(b=true↔∀p∈ps,VC p n m)) (fun K' hk=>?_) fun b h' hl hb=>H b h' hl hb
 unfold F.zbu
 refine ze0 fun a h2 hl2 hc1=>?_
 have hl:=hx.len zac
 refine za1 (fun b h'=>(b=true↔¬∀p∈ps,VC p n m)) (fun K2 hk2=>?_) fun b h' hl hb=>hk _ _ (Hp.le_trans hl2 hl) (zms hb)
 unfold F.zai
 refine za1 (fun r h'=>(0≤r↔¬∀p∈ps,VC p n m)) (fun K3 hk3=>?_) fun r h' hl hr=>hk2 _ _ hl (by rw [decide_eq_true_iff]; exact hr)
 unfold F.zaj
 refine zlr (n:=ps.length) (g:=fun i=>∃h:i<ps.length,¬VC ps[i] n m) (by omega) (fun i h' k hl' hi' hb=>?_) (fun h' k hk=>za0 (fun hh=>by simp only at hh; omega) (fun _=>hk)) (fun r h' hl hr=>hk3 _ _ hl (by rw [hr]; exact zos (P:=fun c=>VC c n m)))
 refine za0 (fun _=>?_) (fun hh=>by simp only at hh; omega)
 refine (hx.le zac (Hp.le_trans hl2 hl')).get zac i rfl hi' fun b x hxx hc=>?_
 refine ⟨_,hc 0 _ rfl,_,hc 1 _ rfl,_,hc 2 _ rfl,_,hc 3 _ rfl,_,hc 4 _ rfl,?_⟩
 refine za1 (fun b h'=>(b=true↔¬VC ps[i] n m)) (fun K4 hk4=>?_) fun b h'' hl'' hbb=>hb b h'' hl'' (by rw [hbb]; exact ⟨fun hh=>⟨hi',hh⟩,fun ⟨_,hh⟩=>hh⟩)
 unfold F.zcf
 refine ⟨_,Hp.cell_le hl' hc1,some a0,some a1,rfl,?_⟩
 refine za1 (fun b h'=>(b=true↔VC ps[i] n m)) (fun K5 hk5=>?_) fun b h'' hl'' hbb=>hk4 _ _ hl'' (by rw [Bool.not_eq_true',←Bool.not_eq_true,hbb])
 unfold F.zl3
 have hle:=Hp.le_trans hl2 hl'
 refine ⟨_,Hp.cell_le hle h0,_,Hp.cell_le hle h1,?_⟩
 exact za02 hxx (hps _ (List.getElem_mem hi')) (ht.le hle) fun b h'' hl hb=>hk5 _ _ hl hb
theorem zqx (hx:SK h s S) (hs:sSk S) (ht:GT h) (H:∀r h',h.le h'→(r=0↔VS S)→(r=0∨r=1)→Ki r h'):callP (F.zel s) Ki h:=by
 refine za1 (fun r h'=>(r=0↔VS S)∧(r=0∨r=1)) (fun K' hk0=>?_) fun b h' hl hb=>H b h' hl hb.1 hb.2
 have hk:∀v h',h.le h'→(v=0↔VS S)→(v=0∨v=1)→K' v h':=fun v h' hl h1 h2=>hk0 v h' hl ⟨h1,h2⟩
 unfold F.zel
 refine ziz fun p1 h1 hl1 hc=>?_
 have c0:SKC h1 p1 s:=hc
 have hx1:=hx.le hl1
 refine ⟨_,c0 0 _ rfl,_,c0 1 _ rfl,_,c0 2 _ rfl,_,c0 3 _ rfl,_,c0 4 _ rfl,_,c0 5 _ rfl,?_⟩
 refine zwn (s:=s) hx1 hs fun h2 hl2=>zah rfl ?_
 have c2:=c0.le hl2
 refine ⟨_,c2 0 _ rfl,_,c2 1 _ rfl,?_⟩
 refine ze0 fun p6 h3 hl3 e6=>ze0 fun p7 h4 hl4 e7=>?_
 have hle4:=Hp.le_trans hl1 (Hp.le_trans hl2 (Hp.le_trans hl3 hl4))
 have hx4:=hx.le hle4
 have c4:=(c2.le hl3).le hl4
 have l1:=hx.1.len zco
 have l2:=hx.2.1.len zdk
 obtain ⟨s1,s2,s3,s4,s5,s6,s7,s8⟩:=hs
 have e64:h4.cell p6=some (.int .i64 (S.pts.length:Int)):=by have:=Hp.cell_le hl4 e6; rw [l1] at this; exact this
 have e74:h4.cell p7=some (.int .i64 (S.cir.length:Int)):=by rw [l2] at e7; exact e7
 refine za3 (fun st h'=>h.le h'∧(st.1=true↔VS S)) ?_ ?_
 · rintro ⟨b,_⟩ h5 ⟨hl5,hb⟩
   simp only at hb
   refine za2 (fun h6=>hk _ _ hl5 ⟨fun hh=>(by cases hh),fun hh=>?_⟩ (.inr rfl)) (fun h6=>hk _ _ hl5 ⟨fun _=>hb.1 (by simpa using h6),fun _=>rfl⟩ (.inl rfl))
   simp only at h6
   rw [hb.2 hh] at h6; cases h6
 · have fl:∀(b:Bool) {P:Prop},(b=true↔P)→b=false→¬P:=fun b P hb h0 hp=>by rw [hb.2 hp] at h0; cases h0
   refine ⟨_,c4 0 _ rfl,?_⟩
   refine zzv hx4.1 (by omega) fun b1 h5 hl5 hb1=>za2 (fun t1=>?_) (fun t1=>⟨Hp.le_trans hle4 hl5,fun hh=>(by cases hh),fun hv=>absurd hv.1 (fl _ hb1 t1)⟩)
   refine ⟨_,c4.le hl5 1 _ rfl,?_⟩
   refine zzw (S:=S) (hx4.le hl5).2.1 (by omega) (Hp.cell_le hl5 e64) fun b2 h6 hl6 hb2=>za2 (fun t2=>?_) (fun t2=>⟨Hp.le_trans hle4 (Hp.le_trans hl5 hl6),fun hh=>(by cases hh),fun hv=>absurd hv.2.1 (fl _ hb2 t2)⟩)
   have l56:=Hp.le_trans hl5 hl6
   refine ⟨_,c4.le l56 2 _ rfl,?_⟩
   refine zzx (S:=S) (hx4.le l56).2.2.1 (by omega) (Hp.cell_le l56 e64) fun b3 h7 hl7 hb3=>za2 (fun t3=>?_) (fun t3=>⟨Hp.le_trans hle4 (Hp.le_trans l56 hl7),fun hh=>(by cases hh),fun hv=>absurd hv.2.2.1 (fl _ hb3 t3)⟩)
   have l57:=Hp.le_trans l56 hl7
   refine ⟨_,c4.le l57 3 _ rfl,?_⟩
   refine zzs (s:=s) (S:=S) (hx4.le l57).2.2.2.1 (by omega) (c4.le l57) (hx4.le l57) fun b4 h8 hl8 hb4=>za2 (fun t4=>?_) (fun t4=>⟨Hp.le_trans hle4 (Hp.le_trans l57 hl8),fun hh=>(by cases hh),fun hv=>absurd hv.2.2.2.1 (fl _ hb4 t4)⟩)
   have l58:=Hp.le_trans l57 hl8
   refine ⟨_,c4.le l58 4 _ rfl,?_⟩
   refine zzt (s:=s) (S:=S) (hx4.le l58).2.2.2.2.1 (by omega) s7 (c4.le l58) (hx4.le l58) ⟨s1,s2,s3,s4,s5,s6,s7,s8⟩ fun b5 h9 hl9 hb5=>za2 (fun t5=>?_) (fun t5=>⟨Hp.le_trans hle4 (Hp.le_trans l58 hl9),fun hh=>(by cases hh),fun hv=>absurd hv.2.2.2.2.1 (fl _ hb5 t5)⟩)
   have l59:=Hp.le_trans l58 hl9
   refine ⟨_,c4.le l59 5 _ rfl,?_⟩
   refine zzu (hx4.le l59).2.2.2.2.2 (by omega) s8 (Hp.cell_le l59 e64) (Hp.cell_le l59 e74) (ht.le (Hp.le_trans hle4 l59)) fun b6 h10 hl10 hb6=>⟨Hp.le_trans hle4 (Hp.le_trans l59 hl10),?_⟩
   rw [hb6]
   exact ⟨fun hh=>⟨hb1.1 t1,hb2.1 t2,hb3.1 t3,hb4.1 t4,hb5.1 t5,hh⟩,fun hh=>hh.2.2.2.2.2⟩
theorem zoe (hx:SK h s S) (hs:sSk S) (ht:GT h) (H:∀r h',h.le h'→(r=0↔VS S)→Ki r h'):callP (F.zel s) Ki h:=zqx hx hs ht fun r h' h1 h2 _=>H r h' h1 h2
end
end Den
end

section
namespace Den
open Go Iv Lx
section
variable {h : Hp} {s : TSketch} {S : PSk} {Kb : Bool → Hp → Prop} {Ki : Int → Hp → Prop} {l : Sl}
theorem za0s {ps:List TPiece} (hx:SK h s S) (hc:LR pic 3 eqP h l ps) (hlen:ps.length≤1000) (hs:sSk S) (H:∀b,(b=true↔VCh S ps)→Kb b h):callP (F.zlh s l) Kb h:=by
 refine za1 (fun b h'=>h'=h∧(b=true↔VCh S ps)) (fun K' hk=>?_) fun b h' _ hb=>by obtain ⟨rfl,hb⟩:=hb; exact H b hb
 unfold F.zlh
 have l3:=hx.2.2.1.len zgi
 have l4:=hx.2.2.2.1.len zdo
 have lc:=hc.len zk2
 have no:¬VCh S ps→K' false h:=fun hn=>hk _ _ (Hp.le_refl _) ⟨rfl,fun hh=>(by cases hh),fun hh=>absurd hh hn⟩
 refine zbi (n:=ps.length) (by omega) (fun i h'=>h'=h∧(∀j (hj:j<ps.length),j<i→okP S ps[j])∧(∀j (hj:j+1<ps.length),j+1<i→(endsP S ps[j]).2=(endsP S ps[j+1]).1)) ⟨rfl,fun j _ hj=>by omega,fun j _ hj=>by omega⟩ ?_
 rintro i h hi ⟨rfl,g1,g2⟩ k hk2
 refine za0 (fun h2=>?_) (fun h2=>?_)
 · have hi':i<ps.length:=by simp only at h2; omega
   refine za3 (fun _ h'=>h'=h∧okP S ps[i]∧(∀j (hj:j<ps.length),j+1=i→(endsP S ps[j]).2=(endsP S ps[i]).1)) ?_ ?_
   · rintro _ h ⟨rfl,k1,k2⟩
     refine hk2 _ hi' ⟨rfl,fun j hj hji=>?_,fun j hj hji=>?_⟩
     · rcases Nat.lt_or_ge j i with h5 | h5
       · exact g1 j hj h5
       · have:j=i:=by omega
         subst this; exact k1
     · rcases Nat.lt_or_ge (j+1) i with h5 | h5
       · exact g2 j hj h5
       · have:j+1=i:=by omega
         subst this; exact k2 j (by omega) rfl
   · have gp:∀{K:Addr→Prop},(∀a,(∀j v,(pic ps[i])[j]?=some v→h.cell (a.add j)=some v)→K a)→idxP l (i:Int) 3 K:=fun {K} H=>hc.get zk2 i rfl hi' fun a x hxx hcc=>H a (by have hxx:x=ps[i]:=hxx; rw [←hxx]; exact hcc)
     refine za3 (fun _ h'=>h'=h∧okP S ps[i]) ?_ ?_
     · rintro _ h ⟨rfl,hok⟩
       refine za0 (fun h5=>?_) (fun h5=>⟨rfl,hok,fun j hj hji=>by simp only at h5; omega⟩)
       simp only at h5
       obtain ⟨j,rfl⟩:∃j,i=j+1:=⟨i-1,by omega⟩
       have e1:IntKind.i64.wrap (((j+1:Nat):Int)-1)=(j:Int):=by rw [w64 (by omega)]; omega
       rw [e1]
       refine hc.get zk2 j rfl (by omega) fun a x hxx hcc=>?_
       have hxx:x=ps[j]:=hxx
       subst hxx
       refine ⟨_,hcc 0 _ rfl,_,hcc 1 _ rfl,_,hcc 2 _ rfl,?_⟩
       refine ztr hx (p:=ps[j]) (g1 j (by omega) (by omega)) ?_
       refine gp fun a2 hc2=>⟨_,hc2 0 _ rfl,_,hc2 1 _ rfl,_,hc2 2 _ rfl,?_⟩
       refine ztr hx (p:=ps[j+1]) hok ?_
       refine zax (fun h6=>no fun hv=>h6 (hv.2.2 j hi')) (fun h6=>⟨rfl,hok,fun j' hj' hji=>?_⟩)
       have:j'=j:=by omega
       subst this; exact h6
     · have noi:¬okP S ps[i]→K' false h:=fun hn=>no fun hv=>hn (hv.2.1 _ (List.getElem_mem hi'))
       refine gp fun a2 hc2=>⟨_,hc2 0 _ rfl,?_⟩
       refine za2 (fun h3=>?_) (fun h3=>?_)
       · refine gp fun a3 hc3=>⟨_,hc3 1 _ rfl,?_⟩
         rw [l4]
         refine zgl fun b hb=>za2 (fun h4=>noi fun hv=>?_) (fun h4=>?_)
         · unfold okP at hv
           rw [if_pos h3] at hv
           rw [hb.2 hv] at h4; cases h4
         · refine gp fun a5 hc5=>⟨_,hc5 0 _ rfl,?_⟩
           refine za2 (fun h6=>?_) (fun h6=>⟨rfl,?_⟩)
           · try simp only at h3 h6
             rw [h3] at h6; cases h6
           · unfold okP
             rw [if_pos h3]
             exact hb.1 (by simpa using h4)
       · refine gp fun a5 hc5=>⟨_,hc5 0 _ rfl,?_⟩
         refine za2 (fun h6=>?_) (fun h6=>?_)
         · refine gp fun a3 hc3=>⟨_,hc3 1 _ rfl,?_⟩
           rw [l3]
           have e3:¬ps[i].arc=true:=by rw [h3]; decide
           refine zgl fun b hb=>za2 (fun h4=>noi fun hv=>?_) (fun h4=>⟨rfl,?_⟩)
           · unfold okP at hv
             rw [if_neg e3] at hv
             rw [hb.2 hv] at h4; cases h4
           · unfold okP
             rw [if_neg e3]
             exact hb.1 (by simpa using h4)
         · try simp only at h3 h6
           rw [h3] at h6; cases h6
 · have hi':i=ps.length:=by simp only at h2; omega
   subst hi'
   refine hk _ _ (Hp.le_refl _) ⟨rfl,?_⟩
   rw [decide_eq_true_iff]
   constructor
   · intro hh
     refine ⟨fun h0=>by rw [h0] at lc; simp at lc; omega,fun p hp=>?_,fun j hj=>g2 j hj (by omega)⟩
     obtain ⟨j,hj,rfl⟩:=List.mem_iff_getElem.1 hp
     exact g1 j hj hj
   · intro hh
     have:=List.length_pos_iff.2 hh.1
     omega
theorem upto {α:Type} {l:List α} {P:α→Prop} {i:Nat} (h:∀j (hj:j<l.length),j<i→P l[j]) (hi:i<l.length) (hp:P l[i]):∀j (hj:j<l.length),j<i+1→P l[j]:=fun j hj hji=>by
 rcases Nat.lt_or_ge j i with h5 | h5
 · exact h j hj h5
 · have:j=i:=by omega
   subst this; exact hp
theorem upall {α:Type} {l:List α} {P:α→Prop} {i:Nat} (h:∀j (hj:j<l.length),j<i→P l[j]) (hi:l.length≤i):∀x∈l,P x:=fun x hx=>by
 obtain ⟨j,hj,rfl⟩:=List.mem_iff_getElem.1 hx
 exact h j hj (by omega)
theorem zq1 (hx:SK h s S) (hs:sSk S) (H:∀r h',h.le h'→(r=0↔VS S)→(r=0∨r=1)→Ki r h'):callP (F.zdd s) Ki h:=by
 refine za1 (fun r h'=>(r=0↔VS S)∧(r=0∨r=1)) (fun K' hk0=>?_) fun b h' hl hb=>H b h' hl hb.1 hb.2
 have hk:∀v h',h.le h'→(v=0↔VS S)→(v=0∨v=1)→K' v h':=fun v h' hl h1 h2=>hk0 v h' hl ⟨h1,h2⟩
 unfold F.zdd
 have l1:=hx.1.len zco
 have l2:=hx.2.1.len zdk
 have l3:=hx.2.2.1.len zgi
 have l4:=hx.2.2.2.1.len zdo
 have l5:=hx.2.2.2.2.1.len zf6
 have l6:=hx.2.2.2.2.2.len zac
 have hs':=hs
 obtain ⟨s1,s2,s3,s4,s5,s6,s7,s8⟩:=hs
 have no:∀h',h.le h'→¬VS S→K' 1 h':=fun h' hl hn=>hk _ _ hl ⟨fun hh=>(by cases hh),fun hh=>absurd hh hn⟩ (.inr rfl)
 refine za7e hx hs' fun h1 hl1=>zah rfl ?_
 refine zbi (n:=S.pts.length) (by omega) (fun i h'=>h.le h'∧∀j (hj:j<S.pts.length),j<i→VP S.pts[j]) ⟨hl1,fun j _ hj=>by omega⟩ ?_
 rintro i h2 hi ⟨hl2,hno⟩ k hk2
 refine za0 (fun h3=>?_) (fun h3=>?_)
 · have hi':i<S.pts.length:=by simp only at h3; omega
   refine za3 (fun _ h'=>h.le h'∧VP S.pts[i]) (fun _ h' hh=>hk2 _ hi' ⟨hh.1,upto hno hi' hh.2⟩) ?_
   refine (hx.le hl2).1.get zco i rfl hi' fun a x hxx hc=>?_
   simp only [zce,Nat.zero_add]
   refine ⟨_,hc 0 _ rfl,_,hc 1 _ rfl,_,hc 2 _ rfl,_,hc 3 _ rfl,?_⟩
   refine znc (x:=x.x) hxx.1 fun h4 hl4=>?_
   have nop:¬VP S.pts[i]→¬VS S:=fun hn hv=>hn (hv.1 _ (List.getElem_mem hi'))
   refine za2 (fun h5=>no _ (Hp.le_trans hl2 hl4) (nop fun hv=>by rw [hv.1] at h5; cases h5)) (fun h5=>?_)
   refine (hx.le (Hp.le_trans hl2 hl4)).1.get zco i rfl hi' fun a2 x2 hxx2 hc2=>?_
   refine ⟨_,hc2 4 _ rfl,_,hc2 5 _ rfl,_,hc2 6 _ rfl,_,hc2 7 _ rfl,?_⟩
   refine znc (x:=x2.y) hxx2.2 fun h6 hl6=>?_
   have hle:=Hp.le_trans hl2 (Hp.le_trans hl4 hl6)
   exact za2 (fun h7=>no _ hle (nop fun hv=>by rw [hv.2] at h7; cases h7)) (fun h7=>⟨hle,by simpa using h5,by simpa using h7⟩)
 · have v1:=upall hno (by simp only at h3; omega)
   refine zbi (n:=S.cir.length) (by omega) (fun i h'=>h.le h'∧∀j (hj:j<S.cir.length),j<i→VR S S.cir[j]) ⟨hl2,fun j _ hj=>by omega⟩ ?_
   clear hno hk2 hi hl2 h3
   rintro i h2 hi ⟨hl2,hno⟩ k hk2
   refine za0 (fun h3=>?_) (fun h3=>?_)
   · have hi':i<S.cir.length:=by simp only at h3; omega
     refine za3 (fun _ h'=>h.le h'∧VR S S.cir[i]) (fun _ h' hh=>hk2 _ hi' ⟨hh.1,upto hno hi' hh.2⟩) ?_
     refine (hx.le hl2).2.1.get zdk i rfl hi' fun a x hxx hc=>?_
     refine ⟨_,hc 0 _ rfl,_,hc 1 _ rfl,_,hc 2 _ rfl,_,hc 3 _ rfl,_,hc 4 _ rfl,?_⟩
     have nop:¬VR S S.cir[i]→¬VS S:=fun hn hv=>hn (hv.2.1 _ (List.getElem_mem hi'))
     obtain ⟨x1,x2⟩:=hxx
     rw [x1,l1]
     refine zgl fun b hb=>za2 (fun h5=>no _ hl2 (nop fun hv=>by rw [hb.2 hv.1] at h5; cases h5)) (fun h5=>?_)
     refine znc (x:=x.radius) x2 fun h6 hl6=>?_
     refine za2 (fun h7=>no _ (Hp.le_trans hl2 hl6) (nop fun hv=>by obtain ⟨q,hq,_⟩:=hv.2; rw [hq] at h7; cases h7)) (fun h7=>?_)
     have h7':S.cir[i].2.isSome=true:=by simpa using h7
     obtain ⟨q,hq⟩:=Option.isSome_iff_exists.1 h7'
     rw [hq] at x2
     refine zys (x:=x.radius) (x2.nr.le hl6) x2.2.1 ?_
     refine za0 (fun h8=>no _ (Hp.le_trans hl2 hl6) (nop fun hv=>?_)) (fun h8=>⟨Hp.le_trans hl2 hl6,hb.1 (by simpa using h5),q,hq,posq.1 (by omega)⟩)
     obtain ⟨q',hq',h9⟩:=hv.2
     rw [hq] at hq'; cases hq'
     have:=posq.2 h9
     omega
   · have v2:=upall hno (by simp only at h3; omega)
     refine zbi (n:=S.seg.length) (by omega) (fun i h'=>h.le h'∧∀j (hj:j<S.seg.length),j<i→VG S S.seg[j]) ⟨hl2,fun j _ hj=>by omega⟩ ?_
     clear hno hk2 hi hl2 h3
     rintro i h2 hi ⟨hl2,hno⟩ k hk2
     refine za0 (fun h3=>?_) (fun h3=>?_)
     · have hi':i<S.seg.length:=by simp only at h3; omega
       refine za3 (fun _ h'=>h.le h'∧VG S S.seg[i]) (fun _ h' hh=>hk2 _ hi' ⟨hh.1,upto hno hi' hh.2⟩) ?_
       refine (hx.le hl2).2.2.1.get zgi i rfl hi' fun a x hxx hc=>?_
       have hxx:x=S.seg[i]:=hxx
       subst hxx
       refine ⟨_,hc 0 _ rfl,_,hc 1 _ rfl,?_⟩
       have nop:¬VG S S.seg[i]→¬VS S:=fun hn hv=>hn (hv.2.2.1 _ (List.getElem_mem hi'))
       rw [l1]
       refine zgl fun b hb=>za2 (fun h5=>no _ hl2 (nop fun hv=>by rw [hb.2 hv.1] at h5; cases h5)) (fun h5=>?_)
       refine zgl fun b6 hb6=>za2 (fun h7=>no _ hl2 (nop fun hv=>by rw [hb6.2 hv.2.1] at h7; cases h7)) (fun h7=>?_)
       exact za7 (fun h8=>no _ hl2 (nop fun hv=>hv.2.2 h8)) (fun h8=>⟨hl2,hb.1 (by simpa using h5),hb6.1 (by simpa using h7),h8⟩)
     · have v3:=upall hno (by simp only at h3; omega)
       refine zbi (n:=S.arc.length) (by omega) (fun i h'=>h.le h'∧∀j (hj:j<S.arc.length),j<i→VA S S.arc[j]) ⟨hl2,fun j _ hj=>by omega⟩ ?_
       clear hno hk2 hi hl2 h3
       rintro i h2 hi ⟨hl2,hno⟩ k hk2
       refine za0 (fun h3=>?_) (fun h3=>?_)
       · have hi':i<S.arc.length:=by simp only at h3; omega
         refine za3 (fun _ h'=>h.le h'∧VA S S.arc[i]) (fun _ h' hh=>hk2 _ hi' ⟨hh.1,upto hno hi' hh.2⟩) ?_
         refine (hx.le hl2).2.2.2.1.get zdo i rfl hi' fun a x hxx hc=>?_
         have hxx:x=S.arc[i]:=hxx
         subst hxx
         refine ⟨_,hc 0 _ rfl,_,hc 1 _ rfl,_,hc 2 _ rfl,_,hc 3 _ rfl,?_⟩
         have nop:¬VA S S.arc[i]→¬VS S:=fun hn hv=>hn (hv.2.2.2.1 _ (List.getElem_mem hi'))
         rw [l1,l2]
         refine zgl fun b hb=>za2 (fun h5=>no _ hl2 (nop fun hv=>by rw [hb.2 hv.1] at h5; cases h5)) (fun h5=>?_)
         refine zgl fun b6 hb6=>za2 (fun h7=>no _ hl2 (nop fun hv=>by rw [hb6.2 hv.2.1] at h7; cases h7)) (fun h7=>?_)
         refine zgl fun b8 hb8=>za2 (fun h9=>no _ hl2 (nop fun hv=>by rw [hb8.2 hv.2.2.1] at h9; cases h9)) (fun h9=>?_)
         have hc5:=hb.1 (by simpa using h5)
         refine zud (hx.le hl2) hc5 (za7 (fun h10=>no _ hl2 (nop fun hv=>hv.2.2.2.1 h10)) fun h10=>?_)
         exact zud (hx.le hl2) hc5 (za7 (fun h11=>no _ hl2 (nop fun hv=>hv.2.2.2.2 h11)) fun h11=>⟨hl2,hc5,hb6.1 (by simpa using h7),hb8.1 (by simpa using h9),h10,h11⟩)
       · have v4:=upall hno (by simp only at h3; omega)
         refine zbi (n:=S.chn.length) (by omega) (fun i h'=>h.le h'∧∀j (hj:j<S.chn.length),j<i→VCh S S.chn[j]) ⟨hl2,fun j _ hj=>by omega⟩ ?_
         clear hno hk2 hi hl2 h3
         rintro i h2 hi ⟨hl2,hno⟩ k hk2
         refine za0 (fun h3=>?_) (fun h3=>?_)
         · have hi':i<S.chn.length:=by simp only at h3; omega
           refine (hx.le hl2).2.2.2.2.1.get zf6 i rfl hi' fun a x hxx hc=>?_
           have e0:=hc 0 _ rfl
           rw [zb3] at e0
           refine ⟨_,e0,?_⟩
           have nop:¬VCh S S.chn[i]→¬VS S:=fun hn hv=>hn (hv.2.2.2.2.1 _ (List.getElem_mem hi'))
           refine za0s (hx.le hl2) hxx (by have:=s7 _ (List.getElem_mem hi'); omega) hs' fun b hb=>?_
           exact za2 (fun h5=>no _ hl2 (nop fun hv=>by rw [hb.2 hv] at h5; cases h5)) (fun h5=>hk2 _ hi' ⟨hl2,upto hno hi' (hb.1 (by simpa using h5))⟩)
         · have v5:=upall hno (by simp only at h3; omega)
           refine zbi (n:=S.con.length) (by omega) (fun i h'=>h.le h'∧∀j (hj:j<S.con.length),j<i→VC S.con[j] S.pts.length S.cir.length) ⟨hl2,fun j _ hj=>by omega⟩ ?_
           clear hno hk2 hi hl2 h3
           rintro i h2 hi ⟨hl2,hno⟩ k hk2
           refine za0 (fun h3=>?_) (fun h3=>?_)
           · have hi':i<S.con.length:=by simp only at h3; omega
             refine (hx.le hl2).2.2.2.2.2.get zac i rfl hi' fun a x hxx hc=>?_
             refine ⟨_,hc 0 _ rfl,_,hc 1 _ rfl,_,hc 2 _ rfl,_,hc 3 _ rfl,_,hc 4 _ rfl,?_⟩
             have nop:¬VC S.con[i] S.pts.length S.cir.length→¬VS S:=fun hn hv=>hn (hv.2.2.2.2.2 _ (List.getElem_mem hi'))
             rw [l1,l2]
             refine zyn (x:=x) hxx (s8 _ (List.getElem_mem hi')) fun b h4 hl4 hb=>?_
             have hle:=Hp.le_trans hl2 hl4
             exact za2 (fun h5=>no _ hle (nop fun hv=>by rw [hb.2 hv] at h5; cases h5)) (fun h5=>hk2 _ hi' ⟨hle,upto (P:=fun c=>VC c S.pts.length S.cir.length) hno hi' (hb.1 (by simpa using h5))⟩)
           · have v6:=upall (P:=fun c=>VC c S.pts.length S.cir.length) hno (by simp only at h3; omega)
             exact hk _ _ hl2 ⟨fun _=>⟨v1,v2,v3,v4,v5,v6⟩,fun _=>rfl⟩ (.inl rfl)
theorem zfk (hx:SK h s S) (hs:sSk S) (H:∀r h',h.le h'→(r=0↔VS S)→Ki r h'):callP (F.zdd s) Ki h:=zq1 hx hs fun r h' h1 h2 _=>H r h' h1 h2
theorem za2g (hx:SK h s S) (H:∀b h',h.le h'→(b=true→sSk S)→Kb b h'):callP (F.zlg s) Kb h:=by
 refine za1 (fun b h'=>b=true→sSk S) (fun K' hk=>?_) fun b h' hl hb=>H b h' hl hb
 unfold F.zlg
 have l1:=hx.1.len zco
 have l2:=hx.2.1.len zdk
 have l3:=hx.2.2.1.len zgi
 have l4:=hx.2.2.2.1.len zdo
 have l5:=hx.2.2.2.2.1.len zf6
 have l6:=hx.2.2.2.2.2.len zac
 have no:∀h',h.le h'→K' false h':=fun h' hl=>hk _ _ hl fun hh=>by cases hh
 refine za3 (fun _ h1=>h1=h∧S.pts.length≤10∧S.cir.length≤10∧S.seg.length≤10∧S.arc.length≤10∧S.chn.length≤10∧S.con.length≤20) ?_ ?_
 · rintro _ h ⟨rfl,s1,s2,s3,s4,s5,s6⟩
   refine zbi (n:=S.pts.length) (by omega) (fun i h'=>h.le h') (Hp.le_refl _) ?_
   intro i h2 hi hl2 k hk2
   refine za0 (fun h3=>?_) (fun h3=>?_)
   · have hi':i<S.pts.length:=by simp only at h3; omega
     refine za3 (fun _ h'=>h.le h') (fun _ h' hh=>hk2 _ hi' hh) ?_
     refine (hx.le hl2).1.get zco i rfl hi' fun a x hxx hc=>?_
     simp only [zce,Nat.zero_add]
     refine ⟨_,hc 0 _ rfl,_,hc 1 _ rfl,_,hc 2 _ rfl,_,hc 3 _ rfl,?_⟩
     refine zoc (x:=x.x) hxx.1 fun b h4 hl4=>za2 (fun _=>no _ (Hp.le_trans hl2 hl4)) fun _=>?_
     refine (hx.le (Hp.le_trans hl2 hl4)).1.get zco i rfl hi' fun a2 x2 hxx2 hc2=>?_
     refine ⟨_,hc2 4 _ rfl,_,hc2 5 _ rfl,_,hc2 6 _ rfl,_,hc2 7 _ rfl,?_⟩
     exact zoc (x:=x2.y) hxx2.2 fun b h6 hl6=>za2 (fun _=>no _ (Hp.le_trans hl2 (Hp.le_trans hl4 hl6))) fun _=>Hp.le_trans hl2 (Hp.le_trans hl4 hl6)
   · refine zbi (n:=S.cir.length) (by omega) (fun i h'=>h.le h') hl2 ?_
     clear h3 hk2 hi hl2
     intro i h2 hi hl2 k hk2
     refine za0 (fun h3=>?_) (fun h3=>?_)
     · have hi':i<S.cir.length:=by simp only at h3; omega
       refine (hx.le hl2).2.1.get zdk i rfl hi' fun a x hxx hc=>?_
       simp only [zce]
       refine ⟨_,hc 1 _ rfl,_,hc 2 _ rfl,_,hc 3 _ rfl,_,hc 4 _ rfl,?_⟩
       exact zoc (x:=x.radius) hxx.2 fun b h4 hl4=>za2 (fun _=>no _ (Hp.le_trans hl2 hl4)) fun _=>hk2 _ hi' (Hp.le_trans hl2 hl4)
     · refine zbi (n:=S.chn.length) (by omega) (fun i h'=>h.le h'∧∀j (hj:j<S.chn.length),j<i→S.chn[j].length≤20) ⟨hl2,fun j _ hj=>by omega⟩ ?_
       clear h3 hk2 hi hl2
       rintro i h2 hi ⟨hl2,hno⟩ k hk2
       refine za0 (fun h3=>?_) (fun h3=>?_)
       · have hi':i<S.chn.length:=by simp only at h3; omega
         refine (hx.le hl2).2.2.2.2.1.get zf6 i rfl hi' fun a x hxx hc=>?_
         have e0:=hc 0 _ rfl
         rw [zb3] at e0
         refine ⟨_,e0,?_⟩
         have hxl:=LR.len zk2 hxx
         exact za0 (fun _=>no _ hl2) (fun h5=>hk2 _ hi' ⟨hl2,upto (P:=fun c:List TPiece=>c.length≤20) hno hi' (by omega)⟩)
       · have v5:=upall (P:=fun c:List TPiece=>c.length≤20) hno (by simp only at h3; omega)
         refine zbi (n:=S.con.length) (by omega) (fun i h'=>h.le h'∧∀j (hj:j<S.con.length),j<i→sC S.con[j]) ⟨hl2,fun j _ hj=>by omega⟩ ?_
         clear hno h3 hk2 hi hl2
         rintro i h2 hi ⟨hl2,hno⟩ k hk2
         refine za0 (fun h3=>?_) (fun h3=>?_)
         · have hi':i<S.con.length:=by simp only at h3; omega
           refine (hx.le hl2).2.2.2.2.2.get zac i rfl hi' fun a x hxx hc=>?_
           refine ⟨_,hc 0 _ rfl,_,hc 1 _ rfl,_,hc 2 _ rfl,_,hc 3 _ rfl,_,hc 4 _ rfl,?_⟩
           obtain ⟨x1,x2,x3,x4,x5⟩:=hxx
           have p1:=x2.len
           have p2:=x3.len
           have p3:=x4.len zch
           refine za3 (fun _ h'=>h'=h2∧S.con[i].pts.length≤10∧S.con[i].cir.length≤10∧S.con[i].vals.length≤10) ?_ ?_
           · rintro _ h2 ⟨rfl,q1,q2,q3⟩
             refine zbi (n:=S.con[i].vals.length) (by omega) (fun j h'=>h2.le h'∧∀m (hm:m<S.con[i].vals.length),m<j→sE S.con[i].vals[m]) ⟨Hp.le_refl _,fun j _ hj=>by omega⟩ ?_
             rintro j h4 hj ⟨hl4,hn4⟩ k4 hk4
             refine za0 (fun h5=>?_) (fun h5=>?_)
             · have hj':j<S.con[i].vals.length:=by simp only at h5; omega
               refine (x4.le zch hl4).get zch j rfl hj' fun a2 y hyy hc2=>?_
               refine ⟨_,hc2 0 _ rfl,_,hc2 1 _ rfl,_,hc2 2 _ rfl,_,hc2 3 _ rfl,_,hc2 4 _ rfl,_,hc2 5 _ rfl,_,hc2 6 _ rfl,?_⟩
               refine za87 hyy fun r h6 hl6 hr=>?_
               exact za0 (fun _=>no _ (Hp.le_trans hl2 (Hp.le_trans hl4 hl6))) (fun h7=>hk4 _ hj' ⟨Hp.le_trans hl4 hl6,upto hn4 hj' (hr (by omega))⟩)
             · refine hk2 _ hi' ⟨Hp.le_trans hl2 hl4,upto hno hi' ⟨q1,q2,q3,upall hn4 (by simp only at h5; omega)⟩⟩
           · exact za0 (fun _=>no _ hl2) fun _=>za0 (fun _=>no _ hl2) fun _=>za0 (fun _=>no _ hl2) fun _=>⟨rfl,by omega,by omega,by omega⟩
         · exact hk _ _ hl2 fun _=>⟨s1,s2,s3,s4,s5,s6,v5,upall hno (by simp only at h3; omega)⟩
 · have n0:=no h (Hp.le_refl _)
   exact za0 (fun _=>n0) fun _=>za0 (fun _=>n0) fun _=>za0 (fun _=>n0) fun _=>za0 (fun _=>n0) fun _=>za0 (fun _=>n0) fun _=>za0 (fun _=>n0) fun _=>⟨rfl,by omega,by omega,by omega,by omega,by omega,by omega⟩
end
end Den
end

section
namespace Den
open Go Iv Lx
section
variable {D h h' : Hp} {n : Nat} {l : Sl} {cs : List Value}
theorem Own.newb {K:Addr→Hp→Prop} {cells:List Value} (ho:Own D h n l cs) (H:∀a D' h',D.le D'→h.le h'→Own D' h' n l cs→(∀i v,cells[i]?=Option.some v→D'.cell (a.add i)=Option.some v)→K a h'):newP cells K h:=by
 intro b e hb
 obtain ⟨g1,g2,g3,g4⟩:=ho
 have hDb:D b=none:=by
  cases hd:D b with
  | none=>rfl
  | some x=>rw [g1 _ _ hd] at hb; cases hb
 refine H _ (D.ins b ⟨cells,e,(0,0)⟩) _ (Hp.le_ins hDb) (Hp.le_ins hb) ⟨?_,g2,g3,?_⟩ fun i v hv=>?_
 · intro k x hk
   by_cases hkb:k=b
   · subst hkb; rw [Hp.ins_same] at hk ⊢; exact hk
   · rw [Hp.ins_ne hkb] at hk ⊢; exact g1 _ _ hk
 · cases ha:l.a with
   | none=>rw [ha] at g4; exact g4
   | some a=>
     rw [ha] at g4
     obtain ⟨k1,k2,k3,x,k4,k5⟩:=g4
     have hne:a.block≠b:=fun hh=>by rw [hh,hb] at k4; cases k4
     exact ⟨k1,k2,by rw [Hp.ins_ne hne]; exact k3,x,by rw [Hp.ins_ne hne]; exact k4,k5⟩
 · unfold Hp.cell
   rw [zbg,zdw rfl,zcs]
   simpa [Hp.ins_same] using hv
theorem Own.preN {x:Sl} {k:Nat} (ho:Own D h n x cs) (hk:k≤x.len):Own D h n (x.cut 0 k n) (cs.take (k*n)):=by
 have hc:=ho.2.2.1
 obtain ⟨g1,g2,g3,g4⟩:=ho
 have hkl:k*n≤cs.length:=by rw [←g2]; exact Nat.mul_le_mul_right _ hk
 have el:(cs.take (k*n)).length=k*n:=by rw [List.length_take]; omega
 refine ⟨g1,?_,?_,?_⟩
 · show (k-0)*n=_
   rw [el,Nat.sub_zero]
 · show k-0≤x.cap-0; omega
 · rw [cut_a]
   cases ha:x.a with
   | none=>
     rw [ha] at g4
     simp only at g4 ⊢
     show x.cap-0=0; omega
   | some a=>
     rw [ha] at g4
     obtain ⟨k1,k2,k3,b,k4,k5,k6,k7⟩:=g4
     refine ⟨k1,k2,k3,b,k4,k5,k6,?_⟩
     rw [el]
     have:=congrArg (List.take (k*n)) k7
     rw [List.take_take,Nat.min_eq_left (by omega)] at this
     exact this
end
section
variable {α β : Type} {c : α → List Value} {n : Nat} {P : Hp → α → β → Prop} {D h h' : Hp} {l : Sl} {ps : List β}
theorem LO.newb {K:Addr→Hp→Prop} {cells:List Value} (hR:Rec c n P) (hx:LO c n P D h l ps) (H:∀a D' h',D.le D'→h.le h'→LO c n P D' h' l ps→(∀i v,cells[i]?=Option.some v→D'.cell (a.add i)=Option.some v)→K a h'):newP cells K h:=by
 obtain ⟨xs,h1,h3,h4⟩:=hx
 exact h1.newb fun a D' h' g1 g2 g3 g4=>H a D' h' g1 g2 ⟨xs,g3,h3,fun k k1 k2=>hR.mono (h4 k k1 k2) g1⟩ g4
theorem LO.le (hx:LO c n P D h l ps) (hl:h.le h'):LO c n P D h' l ps:=by
 obtain ⟨xs,h1,h3,h4⟩:=hx
 exact ⟨xs,h1.le hl,h3,h4⟩
theorem LO.appAll {K:Sl→Hp→Prop} {m:Sl} {qs:List β} {bytes:Nat} {zero:List Value} (hR:Rec c n P) (hx:LO c n P D h l ps) (hm:LR c n P D m qs) (hz:zero.length=n) (hlen:(ps.length+qs.length)*bytes≤140737488355328) (hlen2:ps.length+qs.length≤140737488355328)
 (H:∀y h',LO c n P D h' y (ps++qs)→K y h'):rdO m.a (m.len*n) (fun vs=>appP n bytes zero l m.len vs K h) h:=by
 have hl:=hx.len hR
 have hml:=hm.len hR
 obtain ⟨ys,g1,g2,g3,g4⟩:=hm
 obtain ⟨xs,h1,h3,h4⟩:=hx
 refine ⟨ys.flatMap c,?_,?_⟩
 · have:=(g1.le h1.1).2
   rwa [←g1.1] at this
 · refine zik h1 (n:=m.len) (new:=ys.flatMap c) g1.1.symm hz ?_ (by rw [hl,hml]; exact hlen) (by rw [hl,hml]; exact hlen2) fun y h' hy hyl=>H y h' ⟨xs++ys,by rw [List.flatMap_append]; exact hy,by simp [h3,g3],fun k k1 k2=>?_⟩
   · rw [List.all_flatMap,List.all_eq_true]
     exact fun x _=>hR.leaf x
   · rcases Nat.lt_or_ge k xs.length with h5 | h5
     · rw [List.getElem_append_left h5,List.getElem_append_left (by omega)]
       exact h4 k h5 (by omega)
     · rw [List.getElem_append_right h5,List.getElem_append_right (by omega)]
       have e:k-xs.length=k-ps.length:=by omega
       have k1':k-xs.length<ys.length:=by simp at k1; omega
       have:=g4 (k-xs.length) k1' (by omega)
       simp only [e] at this ⊢
       exact this
theorem za7m {K:Addr→Hp→Prop} (H:∀a h',LO c n P h h' ⟨some a,0,0⟩ []→K a h'):newP [] K h:=by
 refine zhg (n:=0) (size:=n) (by simp) fun b h' hb ho=>H _ _ ⟨[],?_,rfl,fun k h1 _=>by simp at h1⟩
 exact ho
theorem LR.drop {k m:Nat} (hR:Rec c n P) (hx:LR c n P h l ps) (hk:k≤ps.length) (hm:m=ps.length):LR c n P h (l.cut k m n) (ps.drop k):=by
 have hl:=hx.len hR
 have hn:=hR.pos
 obtain ⟨xs,h1,h2,h3,h4⟩:=hx
 subst hm
 refine ⟨xs.drop k,⟨?_,?_⟩,?_,by simp; omega,fun j k1 k2=>?_⟩
 · show (ps.length-k)*n=_
   rw [zgt hR.len,List.length_drop,h3]
 · rw [zgt hR.len,List.length_drop]
   have h5:=h1.2
   rw [zgt hR.len] at h5
   have e:(xs.drop k).flatMap c=(xs.flatMap c).drop (k*n):=by
    have e1:xs.flatMap c=(xs.take k).flatMap c++(xs.drop k).flatMap c:=by rw [←List.flatMap_append,List.take_append_drop]
    have e2:((xs.take k).flatMap c).length=k*n:=by rw [zgt hR.len,List.length_take,Nat.min_eq_left (by omega)]
    rw [e1,←e2,List.drop_left]
   rw [e]
   show cellsAtO h (if l.cap=k then l.a else l.a.map (·.add (k*n))) _=_
   by_cases hc:l.cap=k
   · have:xs.length-k=0:=by omega
     rw [if_pos hc,this,Nat.zero_mul]
     have e3:(xs.flatMap c).drop (k*n)=[]:=by
      apply List.drop_eq_nil_of_le
      rw [zgt hR.len]
      exact Nat.mul_le_mul_right _ (by omega)
     rw [e3]
     cases l.a<;>rfl
   · rw [if_neg hc]
     cases ha:l.a with
     | none=>
       rw [ha] at h5
       simp only [cellsAtO] at h5
       split at h5
       · rename_i h6
         have h7:xs.length=0:=by
          rcases Nat.eq_zero_or_pos xs.length with h7 | h7
          · exact h7
          · have:=Nat.mul_pos h7 hn; omega
         have:xs=[]:=List.eq_nil_of_length_eq_zero h7
         subst this
         simp [cellsAtO]
       · cases h5
     | some a=>
       rw [ha] at h5
       simp only [Option.map_some,cellsAtO] at h5 ⊢
       have key:=zo0 (h:=h) (a:=a.add (k*n)) (cells:=(xs.flatMap c).drop (k*n)) (fun i v hv=>by
        rw [zce]
        exact zhc h5 _ _ (by rwa [List.getElem?_drop] at hv)) ((xs.flatMap c).drop (k*n)).length (Nat.le_refl _)
       rw [List.take_length,List.length_drop,zgt hR.len,←Nat.sub_mul] at key
       exact key
 · show ps.length-k≤l.cap-k; omega
 · rw [List.getElem_drop,List.getElem_drop]
   exact h4 (k+j) (by simp at k1; omega) (by simp at k2; omega)
end
section
variable {D h h' : Hp} {l m : Sl} {xs ys : List Int} {K : Sl → Hp → Prop}
theorem OI.le (ho:OI D h l xs) (hl:h.le h'):OI D h' l xs:=Own.le ho hl
theorem OI.base {h0:Hp} (ho:OI D h l xs) (hl:h0.le D):OI h0 h l xs:=Own.base ho hl
theorem OI.appAll (ho:OI D h l xs) (hm:IL h m ys) (hlen:xs.length+ys.length≤1000000) (H:∀y h',OI D h' y (xs++ys)→K y h'):rdO m.a (m.len*1) (fun vs=>appP 1 8 [.int .i64 0] l m.len vs K h) h:=by
 have hl:=ho.il.len
 have hml:=hm.len
 refine ⟨ys.map ic,?_,?_⟩
 · have:=hm.1.2
   rwa [←hm.1.1] at this
 · refine zik ho (n:=m.len) (new:=ys.map ic) (by simp; omega) rfl (by simp [ic,Value.leaf]) (by omega) (by omega) fun y h' hy hyl=>H y h' ?_
   unfold OI; rw [List.map_append]; exact hy
theorem za7n {K:Addr→Hp→Prop} (H:∀a h',OI h h' ⟨some a,0,0⟩ []→K a h'):newP [] K h:=zhg (n:=0) (size:=1) rfl fun b h' hb ho=>H _ _ ho
end
theorem zadj {z vs:List Value} {K:Addr→Hp→Prop} {h:Hp} (hlen:vs.length=z.length) (hleaf:vs.all Value.leaf=true) (H:newP vs K h):newP z (fun a h'=>stP a vs (K a) h') h:=by
 intro b e hb
 refine ⟨_,Hp.ins_same _ _ _,rfl,rfl,by simp [hlen],hleaf,?_⟩
 have e2:splice z 0 vs=vs:=by unfold splice; simp [hlen]
 simp only [e2]
 rw [Hp.ins_ins]
 exact H b e hb
def onC (c:PCon) (p k:Int):Prop:=c.kind=13∧c.pts=[p]∧c.cir=[k]
instance (c:PCon) (p k:Int):Decidable (onC c p k):=by unfold onC; infer_instance
def mkOn (p k:Int):PCon:=⟨13,[p],[k],[],0⟩
def addOn (con out:List PCon) (p k:Int):List PCon:=if (∃c∈con++out,onC c p k) then out else out++[mkOn p k]
def addArc (con out:List PCon) (a:TArc):List PCon:=addOn con (addOn con out a.a a.circle) a.b a.circle
def impL (con:List PCon) (l:List TArc):List PCon:=l.foldl (addArc con) []
def imp (S:PSk):List PCon:=impL S.con S.arc
def allC (S:PSk):List PCon:=S.con++imp S
def cens (S:PSk):List Int:=S.cir.map (·.1)
theorem znp {con:List PCon} {l:List TArc} {i:Nat} (hi:i<l.length):impL con (l.take (i+1))=addArc con (impL con (l.take i)) l[i]:=by
 unfold impL
 rw [←List.take_append_getElem hi,List.foldl_append]
 rfl
theorem znk (con out:List PCon) (p k:Int):(addOn con out p k).length≤out.length+1:=by
 unfold addOn; split<;>simp
theorem zpg (con:List PCon) (l:List TArc):∀i,i≤l.length→(impL con (l.take i)).length≤2*i
 | 0,_=>by simp [impL]
 | i+1,hi=>by
   rw [znp (by omega)]
   have:=zpg con l i (by omega)
   unfold addArc
   have h1:=znk con (addOn con (impL con (l.take i)) l[i].a l[i].circle) l[i].b l[i].circle
   have h2:=znk con (impL con (l.take i)) l[i].a l[i].circle
   omega
theorem zuj (S:PSk):(imp S).length≤2*S.arc.length:=by
 have:=zpg S.con S.arc S.arc.length (Nat.le_refl _)
 rwa [List.take_length] at this
def VC1 (c:PCon):Prop:=c.pts.length≤10∧c.cir.length≤10∧(c.kind=13→c.pts.length=1∧c.cir.length=1∧c.vals=[]∧c.side=0)
theorem VC.one {c:PCon} {n m:Int} (hv:VC c n m) (hs:sC c):VC1 c:=⟨hs.1,hs.2.1,fun hk=>by
 obtain ⟨_,h2,h3,h4,_,h6,_⟩:=hv
 rw [hk] at h2 h3 h4 h6
 exact ⟨h2.1,h3.1,List.eq_nil_of_length_eq_zero h4,by simpa [shK,tabK] using h6⟩⟩
theorem vc_on {n m:Nat} {p k:Int} (hp:hasP n p) (hk:hasP m k):VC (mkOn p k) n m:=by
 unfold hasP at hp hk
 refine ⟨⟨by simp [mkOn],by simp [mkOn]⟩,⟨rfl,?_⟩,⟨rfl,?_⟩,rfl,by simp [mkOn],by simp [mkOn,shK,tabK],?_⟩
 · intro x hx
   have:x=p:=by simpa [mkOn] using hx
   omega
 · intro x hx
   have:x=k:=by simpa [mkOn] using hx
   omega
 · rw [if_neg (show ¬fourK (mkOn p k).kind by unfold fourK mkOn; simp only; omega)]
   exact ⟨by simp [mkOn],by simp [mkOn]⟩
theorem sc_on {p k:Int}:sC (mkOn p k):=⟨by simp [mkOn],by simp [mkOn],by simp [mkOn],by simp [mkOn]⟩
theorem znj {P:PCon→Prop} {con out:List PCon} {p k:Int} (ho:∀c∈out,P c) (hp:P (mkOn p k)):∀c∈addOn con out p k,P c:=by
 unfold addOn
 split
 · exact ho
 · intro c hc
   rcases List.mem_append.1 hc with hc | hc
   · exact ho c hc
   · rw [List.mem_singleton.1 hc]; exact hp
theorem zs9 {P:PCon→Prop} {con:List PCon} {l:List TArc} (hp:∀a∈l,P (mkOn a.a a.circle)∧P (mkOn a.b a.circle)):∀i,i≤l.length→∀c∈impL con (l.take i),P c
 | 0,_=>by simp [impL]
 | i+1,hi=>by
   rw [znp (by omega)]
   have h1:=zs9 (con:=con) hp i (by omega)
   have h2:=hp _ (List.getElem_mem (show i<l.length by omega))
   exact znj (znj h1 h2.1) h2.2
theorem zabp {P:PCon→Prop} {S:PSk} (hp:∀a∈S.arc,P (mkOn a.a a.circle)∧P (mkOn a.b a.circle)):∀c∈imp S,P c:=by
 have:=zs9 (con:=S.con) hp S.arc.length (Nat.le_refl _)
 rwa [List.take_length] at this
theorem zhb {S:PSk} (hv:VS S) (hs:sSk S):∀c∈allC S,VC c S.pts.length S.cir.length∧sC c:=by
 intro c hc
 rcases List.mem_append.1 hc with hc | hc
 · exact ⟨hv.2.2.2.2.2 c hc,hs.2.2.2.2.2.2.2 c hc⟩
 · refine zabp (P:=fun c=>VC c S.pts.length S.cir.length∧sC c) (fun a ha=>?_) c hc
   have:=hv.2.2.2.1 a ha
   exact ⟨⟨vc_on this.2.1 this.1,sc_on⟩,⟨vc_on this.2.2.1 this.1,sc_on⟩⟩
theorem zhw {S:PSk} (hs:sSk S):(allC S).length≤40:=by
 have h1:=zuj S
 have h2:=hs.2.2.2.1
 have h3:=hs.2.2.2.2.2.1
 unfold allC
 rw [List.length_append]; omega
section
variable {h : Hp} {s : TSketch} {S : PSk} {Kb : Bool → Hp → Prop} {Ki : Int → Hp → Prop} {Ks : Sl → Hp → Prop} {l m : Sl} {xs ys : List Int}
theorem za9y {s:Sl} {ps:List PCon} {g:PCon→Prop} {G:TConstraint→(Bool→Hp→Prop)→Hp→Prop} (hx:LR cc 5 CO h s ps) (hlen:ps.length≤1000000)
 (hG:∀x c h',h.le h'→CO h' x c→c∈ps→∀K:Bool→Hp→Prop,(∀b h'',h'.le h''→(b=true↔g c)→K b h'')→callP (G x) K h') (H:∀r h',h.le h'→(0≤r↔∃c∈ps,g c)→Ki r h') :
 (loopP (S:=Int×Unit) (fun s1 k2 h1=>
 (ifP (decide (s1.1<(s.len:Int)))
 (idxP s s1.1 5 fun a3=>
 (ldL (.int .i64) (a3.add 0) (fun x4_0=>
 (ldL (.sl) (a3.add 1) (fun x4_1=>
 (ldL (.sl) (a3.add 2) (fun x4_2=>
 (ldL (.sl) (a3.add 3) (fun x4_3=>
 (ldL (.int .i64) (a3.add 4) (fun x4_4=>
 (callP (G (⟨x4_0,x4_1,x4_2,x4_3,x4_4⟩:TConstraint)) (fun r5 h2=>
 (ifP r5
 (Ki s1.1 h2)
 (k2 ((IntKind.i64.wrap (s1.1+1)),()) h2))) h1)) h1)) h1)) h1)) h1)) h1))
 (Ki (-1) h1)))
 (0,()) h):=by
  have hl:=hx.len zac
  refine zlr (n:=ps.length) (g:=fun i=>∃h:i<ps.length,g ps[i]) (by omega) (fun i h' k hl' hi' hb=>?_) (fun h' k hk=>za0 (fun hh=>by simp only at hh; omega) (fun _=>hk)) (fun r h' hl hr=>H _ _ hl (by
   rw [hr]
   constructor
   · rintro ⟨i,hi,hi2,hg⟩; exact ⟨_,List.getElem_mem hi2,hg⟩
   · rintro ⟨c,hc,hg⟩
     obtain ⟨i,hi,rfl⟩:=List.mem_iff_getElem.1 hc
     exact ⟨i,hi,hi,hg⟩))
  refine za0 (fun _=>?_) (fun hh=>by simp only at hh; omega)
  refine (hx.le zac hl').get zac i rfl hi' fun a x hxx hc=>?_
  refine ⟨_,hc 0 _ rfl,_,hc 1 _ rfl,_,hc 2 _ rfl,_,hc 3 _ rfl,_,hc 4 _ rfl,?_⟩
  exact hG _ _ _ hl' hxx (List.getElem_mem _) _ fun b h3 hl3 hbb=>hb b h3 hl3 (by rw [hbb]; exact ⟨fun hh=>⟨hi',hh⟩,fun ⟨_,hh⟩=>hh⟩)
theorem zrq (hx:IL h l xs) (hy:IL h m ys) (hlen:xs.length≤1000000) (H:∀b h',h.le h'→(b=true↔xs=ys)→Kb b h'):callP (F.zdm l m) Kb h:=by
 refine za1 (fun b h'=>b=true↔xs=ys) (fun K' hk=>?_) fun b h' hl hb=>H b h' hl hb
 unfold F.zdm
 have hl:=hx.len
 have hm:=hy.len
 refine zax (fun h1=>hk _ _ (Hp.le_refl _) ⟨fun hh=>(by cases hh),fun hh=>?_⟩) (fun h1=>?_)
 · exfalso
   subst hh
   omega
 have hl2:xs.length=ys.length:=by omega
 refine zbi (n:=xs.length) (by omega) (fun i h'=>h'=h∧xs.take i=ys.take i) ⟨rfl,by simp⟩ ?_
 rintro i h hi ⟨rfl,heq⟩ k hk2
 refine za0 (fun h2=>?_) (fun h2=>?_)
 · have hi':i<xs.length:=by simp only at h2; omega
   refine hx.get i rfl hi' (hy.get i rfl (by omega) ?_)
   refine zax (fun h3=>hk _ _ (Hp.le_refl _) ⟨fun hh=>(by cases hh),fun hh=>?_⟩) (fun h3=>hk2 _ hi' ⟨rfl,?_⟩)
   · subst hh
     exact absurd rfl h3
   · rw [←List.take_append_getElem hi',←List.take_append_getElem (show i<ys.length by omega),heq,h3]
 · have:i=xs.length:=by simp only at h2; omega
   subst this
   refine hk _ _ (Hp.le_refl _) ⟨fun _=>?_,fun _=>rfl⟩
   rw [List.take_length,hl2,List.take_length] at heq
   exact heq
theorem za01 {x y:TConstraint} {c:PCon} {p k:Int} (hx:CO h x (mkOn p k)) (hy:CO h y c) (hv:VC1 c) (H:∀b h',h.le h'→(b=true↔onC c p k)→Kb b h'):callP (F.zgp x y) Kb h:=by
 refine za1 (fun b h'=>b=true↔onC c p k) (fun K' hk=>?_) fun b h' hl hb=>H b h' hl hb
 unfold F.zgp
 obtain ⟨x1,x2,x3,x4,x5⟩:=hx
 obtain ⟨y1,y2,y3,y4,y5⟩:=hy
 obtain ⟨v1,v2,v3⟩:=hv
 have no:∀h',h.le h'→¬onC c p k→K' false h':=fun h' hl hn=>hk _ _ hl ⟨fun hh=>(by cases hh),fun hh=>absurd hh hn⟩
 rw [x1,x5,y1,y5]
 refine za7 (fun h1=>?_) (fun h1=>no _ (Hp.le_refl _) fun hv=>h1 hv.1.symm)
 have hk13:c.kind=13:=h1.symm
 obtain ⟨w1,w2,w3,w4⟩:=v3 hk13
 refine za7 (fun h2=>?_) (fun h2=>absurd (show (mkOn p k).side=c.side by rw [w4]; rfl) h2)
 refine zrq x2 y2 (by simp [mkOn]) fun b h3 hl3 hb=>?_
 refine za2 (fun h4=>?_) (fun h4=>no _ hl3 fun hv=>by rw [hb.2 hv.2.1.symm] at h4; cases h4)
 refine zrq (x3.le hl3) (y3.le hl3) (by simp [mkOn]) fun b5 h5 hl5 hb5=>?_
 have hle:=Hp.le_trans hl3 hl5
 refine za2 (fun h6=>?_) (fun h6=>no _ hle fun hv=>by rw [hb5.2 hv.2.2.symm] at h6; cases h6)
 refine za1 (fun b h'=>b=true) (fun K2 hk2=>?_) fun b h7 hl7 hb7=>hk _ _ (Hp.le_trans hle hl7) ⟨fun _=>⟨hk13,(hb.1 h4).symm,(hb5.1 h6).symm⟩,fun _=>hb7⟩
 unfold F.zb2
 refine ⟨1,?_⟩
 unfold F.za9
 have e1:=x4.len zch
 have e2:=y4.len zch
 rw [w3] at e2
 have e3:x.values.len=0:=e1
 have e4:y.values.len=0:=e2
 refine zax (fun h8=>by rw [e3,e4] at h8; exact absurd rfl h8) (fun _=>?_)
 refine zal (fun st h'=>h'=h5∧st=(0,())) (fun _=>0) ⟨rfl,rfl⟩ ?_
 rintro st h5 ⟨rfl,rfl⟩
 refine za0 (fun h8=>by rw [e3] at h8; exact absurd h8 (by decide)) (fun _=>hk2 _ _ (Hp.le_refl _) rfl)
def CKC (h:Hp) (a:Addr) (x:TConstraint):Prop:=∀i v,(cc x)[i]?=some v→h.cell (a.add i)=some v
theorem zpz {s:Sl} {ps:List PCon} {a:Addr} {x:TConstraint} {p k:Int} (hx:LR cc 5 CO h s ps) (hlen:ps.length≤1000000) (hv:∀c∈ps,VC1 c) (ha:CKC h a x) (hc:CO h x (mkOn p k)) (H:∀b h',h.le h'→(b=true↔∃c∈ps,onC c p k)→Kb b h') :
 callP (F.zaa s (some a,())) Kb h:=by
 refine za1 (fun b h'=>(b=true↔∃c∈ps,onC c p k)) (fun K2 hk2=>?_) fun b h' hl hb=>H _ _ hl hb
 unfold F.zaa
 refine za1 (fun r h'=>(0≤r↔∃c∈ps,onC c p k)) (fun K3 hk3=>?_) fun r h' hl hr=>hk2 _ _ hl (by rw [decide_eq_true_iff]; exact hr)
 unfold F.zb7
 refine za9y (g:=fun c=>onC c p k) (G:=fun x=>F.zh1 x (some a,()).1) hx hlen (fun y c h' hl' hy hm K hK=>?_) fun r h' hl hr=>hk3 _ _ hl hr
 refine za1 (fun b h'=>(b=true↔onC c p k)) (fun K4 hk4=>?_) fun b h'' hl'' hbb=>hK b h'' hl'' hbb
 unfold F.zh1
 have c0:CKC h' a x:=fun i v hv=>Hp.cell_le hl' (ha i v hv)
 refine ⟨_,c0 0 _ rfl,_,c0 1 _ rfl,_,c0 2 _ rfl,_,c0 3 _ rfl,_,c0 4 _ rfl,?_⟩
 exact za01 (x:=x) (hc.le hl') hy (hv c hm) fun b h'' hl hb=>hk4 _ _ hl hb
theorem za76 {a:Addr} {z:Int} {c:Nat} (hc:h.cell a=some (.int .i64 z)) (hcap:1≤c):IL h ⟨some a,1,c⟩ [z]:=by
 refine ⟨zex (cells:=[ic z]) (fun i v hv=>?_) rfl,hcap⟩
 cases i with
 | zero=>
   rw [zb3,hc]
   simpa [ic] using hv
 | succ i=>simp at hv
theorem VS.one {c:PCon} (hv:VS S) (hs:sSk S) (hc:c∈S.con):VC1 c:=(hv.2.2.2.2.2 c hc).one (hs.2.2.2.2.2.2.2 c hc)
theorem ztk {p k:Int}:VC1 (mkOn p k):=⟨by simp [mkOn],by simp [mkOn],fun _=>⟨rfl,rfl,rfl,rfl⟩⟩
theorem za1n:∀i,i≤S.arc.length→∀c∈impL S.con (S.arc.take i),VC1 c:=zs9 fun a _=>⟨ztk,ztk⟩
end
end Den
end

section
namespace Den
open Go Iv Lx
def itK (c:PCon) (cs:List Int) (k:Int):List Int:=if c.kind=13∨c.kind=16∨c.kind=17 then [-1-k,cs.getD k.toNat 0] else [-1-k]
def itemsC (c:PCon) (cs:List Int):List Int:=c.pts++c.cir.flatMap (itK c cs)
theorem za1o (c:PCon) (cs:List Int) (k:Int):(itK c cs k).length≤2:=by unfold itK; split<;>simp
theorem zte {c:PCon} {cs:List Int} (hs:sC c):(itemsC c cs).length≤30:=by
 unfold itemsC
 have:∀l:List Int,(l.flatMap (itK c cs)).length≤2*l.length:=by
  intro l
  induction l with
  | nil=>simp
  | cons a r ih=>
    have:=za1o c cs a
    simp only [List.flatMap_cons,List.length_append,List.length_cons]
    omega
 have h1:=this c.cir
 have h2:=hs.1
 have h3:=hs.2.1
 rw [List.length_append]; omega
section
variable {h : Hp} {s : TSketch} {S : PSk} {Kb : Bool → Hp → Prop} {Ki : Int → Hp → Prop} {Ks : Sl → Hp → Prop} {l m : Sl} {xs ys : List Int}
theorem co_on {a b:Addr} {p k:Int} {va vs:Sl} (ha:h.cell a=some (.int .i64 p)) (hb:h.cell b=some (.int .i64 k)):CO h ⟨13,⟨some a,1,1⟩,⟨some b,1,1⟩,nilS,0⟩ (mkOn p k):=
 ⟨rfl,za76 ha (by decide),za76 hb (by decide),LR.nil,rfl⟩
theorem za17 {i:Int} {K:Addr→Prop} (hx:SK h s S) (k:Nat) (hi:i=k) (hk:k<S.arc.length) (H:∀a,(∀j v,(arcc S.arc[k])[j]?=some v→h.cell (a.add j)=some v)→K a):idxP s.arcs i 4 K:=
 hx.2.2.2.1.get zdo k hi hk fun a x hxx hc=>H a (by have hxx:x=S.arc[k]:=hxx; rw [←hxx]; exact hc)
theorem zxq {A:TArc} {out:List PCon} {p:Int} {y:Sl} {D:Hp} {K:Sl×Unit→Hp→Prop} (hv:VS S) (hs:sSk S) (hlen:out.length≤100) (hone:∀c∈out,VC1 c) (hS:SK D s S) (ho:LO cc 5 CO D h y out)
 (hK:∀y' D' h',D.le D'→LO cc 5 CO D' h' y' (addOn S.con out p A.circle)→K (y',()) h') :
 newP [.int .i64 p] (fun p12 h5=>
 (newP [.int .i64 A.circle] (fun p13 h6=>
 (newP [.int .i64 0,.slice nilS.a nilS.len nilS.cap,.slice nilS.a nilS.len nilS.cap,.slice nilS.a nilS.len nilS.cap,.int .i64 0] (fun p14 h7=>
 (stP p14 [.int .i64 13,.slice (⟨some p12,1,1⟩:Sl).a (⟨some p12,1,1⟩:Sl).len (⟨some p12,1,1⟩:Sl).cap,.slice (⟨some p13,1,1⟩:Sl).a (⟨some p13,1,1⟩:Sl).len (⟨some p13,1,1⟩:Sl).cap,.slice nilS.a nilS.len nilS.cap,.int .i64 0] (fun h8=>
 (callP (F.zaa s.constraints ((some p14),())) (fun r15 h9=>
 (ifP (!r15)
 (callP (F.zaa y ((some p14),())) (fun r16 h10=>
 (ifP (!r16)
 (ldL (.int .i64) (p14.add 0) (fun x17_0=>
 (ldL (.sl) (p14.add 1) (fun x17_1=>
 (ldL (.sl) (p14.add 2) (fun x17_2=>
 (ldL (.sl) (p14.add 3) (fun x17_3=>
 (ldL (.int .i64) (p14.add 4) (fun x17_4=>
 (appP 5 88 [.int .i64 0,.slice nilS.a nilS.len nilS.cap,.slice nilS.a nilS.len nilS.cap,.slice nilS.a nilS.len nilS.cap,.int .i64 0] y 1 [.int .i64 x17_0,.slice x17_1.a x17_1.len x17_1.cap,.slice x17_2.a x17_2.len x17_2.cap,.slice x17_3.a x17_3.len x17_3.cap,.int .i64 x17_4] (fun w18 h11=>
 (K (w18,()) h11)) h10)) h10)) h10)) h10)) h10)) h10)
 (K (y,()) h10))) h9)
 (K (y,()) h9))) h8)) h7)) h6)) h5)) h:=by
  refine ho.newb zac fun p12 D3 h4 d3 l4 ho4 c12=>ho4.newb zac fun p13 D4 h5 d4 l5 ho5 c13=>?_
  refine zadj (vs:=[.int .i64 13,.slice (⟨some p12,1,1⟩:Sl).a (⟨some p12,1,1⟩:Sl).len (⟨some p12,1,1⟩:Sl).cap,.slice (⟨some p13,1,1⟩:Sl).a (⟨some p13,1,1⟩:Sl).len (⟨some p13,1,1⟩:Sl).cap,.slice nilS.a nilS.len nilS.cap,.int .i64 0]) rfl rfl ?_
  refine ho5.newb zac fun p14 D5 h6 d5 l6 ho6 c14=>?_
  have e12:D5.cell p12=some (.int .i64 p):=by
   have:=c12 0 _ rfl
   rw [zb3] at this
   exact Hp.cell_le (Hp.le_trans d4 d5) this
  have e13:D5.cell p13=some (.int .i64 A.circle):=by
   have:=c13 0 _ rfl
   rw [zb3] at this
   exact Hp.cell_le d5 this
  have hDD:D.le D5:=Hp.le_trans d3 (Hp.le_trans d4 d5)
  have hco:CO D5 ⟨13,⟨some p12,1,1⟩,⟨some p13,1,1⟩,nilS,0⟩ (mkOn p A.circle):=co_on (va:=nilS) (vs:=nilS) e12 e13
  have hck:CKC D5 p14 ⟨13,⟨some p12,1,1⟩,⟨some p13,1,1⟩,nilS,0⟩:=c14
  refine ho6.call zac (K1:=fun b h'=>(b=true↔∃c∈S.con,onC c p A.circle)) ?_ fun b D6 h7 d6 ho7 hb=>?_
  · exact zpz (hS.le hDD).2.2.2.2.2 (by have:=hs.2.2.2.2.2.1; omega) (fun c hc=>hv.one hs hc) hck hco fun b h' hl hb=>hb
  have hck6:CKC D6 p14 ⟨13,⟨some p12,1,1⟩,⟨some p13,1,1⟩,nilS,0⟩:=fun i v hv=>Hp.cell_le d6 (hck i v hv)
  refine za2 (fun h8=>?_) (fun h8=>?_)
  · have hb':¬∃c∈S.con,onC c p A.circle:=fun hh=>by rw [hb.2 hh] at h8; cases h8
    refine zpz (ho7.lr zac) (by omega) hone (fun i v hv=>Hp.cell_le ho7.dle (hck6 i v hv)) ((hco.le d6).le ho7.dle) fun b9 h9 hl9 hb9=>?_
    have ho9:=ho7.le hl9
    refine za2 (fun h10=>?_) (fun h10=>?_)
    · have hb9':¬∃c∈out,onC c p A.circle:=fun hh=>by rw [hb9.2 hh] at h10; cases h10
      have c9:∀i v,(cc ⟨13,⟨some p12,1,1⟩,⟨some p13,1,1⟩,nilS,0⟩)[i]?=some v→h9.cell (p14.add i)=some v:=fun i v hv=>Hp.cell_le ho9.dle (hck6 i v hv)
      refine ⟨_,c9 0 _ rfl,_,c9 1 _ rfl,_,c9 2 _ rfl,_,c9 3 _ rfl,_,c9 4 _ rfl,?_⟩
      refine ho9.app zac (bytes:=88) (zero:=[.int .i64 0,.slice nilS.a nilS.len nilS.cap,.slice nilS.a nilS.len nilS.cap,.slice nilS.a nilS.len nilS.cap,.int .i64 0]) (x:=⟨13,⟨some p12,1,1⟩,⟨some p13,1,1⟩,nilS,0⟩) (b:=mkOn p A.circle) (by rfl) (by omega) (by omega) (hco.le d6) fun y' h11 ho11=>?_
      refine hK y' D6 h11 (Hp.le_trans hDD d6) ?_
      · have:addOn S.con out p A.circle=out++[mkOn p A.circle]:=by
         unfold addOn
         rw [if_neg]
         rintro ⟨c,hc,hon⟩
         rcases List.mem_append.1 hc with hc | hc
         · exact hb' ⟨c,hc,hon⟩
         · exact hb9' ⟨c,hc,hon⟩
        rw [this]; exact ho11
    · have hb9':∃c∈out,onC c p A.circle:=hb9.1 (by simpa using h10)
      refine hK y D6 h9 (Hp.le_trans hDD d6) ?_
      · have:addOn S.con out p A.circle=out:=by
         unfold addOn
         rw [if_pos]
         obtain ⟨c,hc,hon⟩:=hb9'
         exact ⟨c,List.mem_append_right _ hc,hon⟩
        rw [this]; exact ho9
  · have hb':∃c∈S.con,onC c p A.circle:=hb.1 (by simpa using h8)
    refine hK y D6 h7 (Hp.le_trans hDD d6) ?_
    · have:addOn S.con out p A.circle=out:=by
       unfold addOn
       rw [if_pos]
       obtain ⟨c,hc,hon⟩:=hb'
       exact ⟨c,List.mem_append_left _ hc,hon⟩
      rw [this]; exact ho7
theorem zwa (hx:SK h s S) (hv:VS S) (hs:sSk S) (H:∀y h',h.le h'→LR cc 5 CO h' y (imp S)→Ks y h'):callP (F.ziv s) Ks h:=by
 refine za1 (fun y h'=>LR cc 5 CO h' y (imp S)) (fun K' hk=>?_) fun b h' hl hb=>H b h' hl hb
 unfold F.ziv
 have l4:=hx.2.2.2.1.len zdo
 have s4:=hs.2.2.2.1
 refine zc5 (n:=S.arc.length) (by omega) (fun i y h'=>∃D,h.le D∧LO cc 5 CO D h' y (impL S.con (S.arc.take i))) ⟨h,Hp.le_refl _,LO.nil⟩ ?_
 rintro i y h1 hi ⟨D,hD,ho⟩ k hk2
 refine za0 (fun h2=>?_) (fun h2=>?_)
 · have hi':i<S.arc.length:=by simp only at h2; omega
   have hlen:=zpg S.con S.arc i hi
   refine za17 (hx.le (Hp.le_trans hD ho.dle)) i rfl hi' fun a hc=>⟨_,hc 0 _ rfl,_,hc 1 _ rfl,_,hc 2 _ rfl,_,hc 3 _ rfl,?_⟩
   refine ho.newb zac fun p5 D2 h3 d2 l3 ho3 c5=>?_
   have hD2:=Hp.le_trans hD d2
   obtain ⟨A,hA⟩:∃A,A=S.arc[i]:=⟨_,rfl⟩
   rw [←hA] at c5 ⊢
   obtain ⟨out,hout⟩:∃out,out=impL S.con (S.arc.take i):=⟨_,rfl⟩
   rw [←hout] at ho3 hlen
   have hone:∀c∈out,VC1 c:=by rw [hout]; exact za1n i hi
   obtain ⟨st,hst⟩:∃st:Nat→List PCon,st=fun j=>if j=0 then out else if j=1 then addOn S.con out A.a A.circle else addArc S.con out A:=⟨_,rfl⟩
   have st0:st 0=out:=by rw [hst]; rfl
   have st1:st 1=addOn S.con out A.a A.circle:=by rw [hst]; rfl
   have st2:st 2=addArc S.con out A:=by rw [hst]; rfl
   have a1:=znk S.con out A.a A.circle
   have hl5:IL D2 ⟨some p5,2,2⟩ [A.a,A.b]:=⟨zex c5 rfl,Nat.le_refl _⟩
   refine zc5 (n:=2) (by omega) (fun j y h'=>∃D,D2.le D∧LO cc 5 CO D h' y (st j)) ⟨D2,Hp.le_refl _,by rw [st0]; exact ho3⟩ ?_
   rintro j z h4 hj ⟨D3,d3,ho4⟩ k2 hk3
   refine za0 (fun h5=>?_) (fun h5=>?_)
   · have hj':j<2:=by have:(j:Int)<((2:Nat):Int):=h5; omega
     refine za3 (fun s h'=>∃D,D2.le D∧LO cc 5 CO D h' s.1 (st (j+1))) (fun s h' hs=>hk3 _ _ hj' hs) ?_
     refine (hl5.le (Hp.le_trans d3 ho4.dle)).get j rfl hj' ?_
     have fin:∀(p:Int),st (j+1)=addOn S.con (st j) p A.circle→∀y' D' h',D3.le D'→LO cc 5 CO D' h' y' (addOn S.con (st j) p A.circle)→(fun (s:Sl×Unit) h'=>∃D,D2.le D∧LO cc 5 CO D h' s.1 (st (j+1))) (y',()) h':=
      fun p hp y' D' h' hd hl=>⟨D',Hp.le_trans d3 hd,by rw [hp]; exact hl⟩
     have hS3:SK D3 s S:=hx.le (Hp.le_trans hD2 d3)
     rcases (by omega:j=0∨j=1) with rfl | rfl
     · exact zxq (A:=A) (K:=fun (s:Sl×Unit) h'=>∃D,D2.le D∧LO cc 5 CO D h' s.1 (st (0+1))) hv hs (by rw [st0]; omega) (by rw [st0]; exact hone) hS3 ho4 (fin A.a (by rw [st1,st0]))
     · exact zxq (A:=A) (K:=fun (s:Sl×Unit) h'=>∃D,D2.le D∧LO cc 5 CO D h' s.1 (st (1+1))) hv hs (by rw [st1]; omega) (by rw [st1]; exact znj hone ztk) hS3 ho4 (fin A.b (by rw [st2,st1]; rfl))
   · have:j=2:=by have:¬(j:Int)<((2:Nat):Int):=h5; omega
     subst this
     refine hk2 _ _ hi' ⟨D3,Hp.le_trans hD2 d3,?_⟩
     rw [znp hi',←hout,←hA,←st2]
     exact ho4
 · have:i=S.arc.length:=by simp only at h2; omega
   subst this
   rw [List.take_length] at ho
   exact hk _ _ (Hp.le_trans hD ho.dle) (ho.lr zac)
end
end Den
end

section
namespace Den
open Go Iv Lx
def zC:List Value:=[.int .i64 0,.slice nilS.a nilS.len nilS.cap,.slice nilS.a nilS.len nilS.cap,.slice nilS.a nilS.len nilS.cap,.int .i64 0]
section
variable {h : Hp} {s : TSketch} {S : PSk} {Kb : Bool → Hp → Prop} {Ki : Int → Hp → Prop} {Ks : Sl → Hp → Prop} {l m : Sl} {xs ys : List Int}
theorem zabv {x:TConstraint} {c:PCon} {p k:Int} (hx:CO h x c) (hv:VC1 c) (H:∀b,(b=true↔onC c p k)→Kb b h):callP (F.zn8 x p k) Kb h:=by
 refine za1 (fun b h'=>h'=h∧(b=true↔onC c p k)) (fun K' hk=>?_) fun b h' _ hb=>by obtain ⟨rfl,hb⟩:=hb; exact H b hb
 unfold F.zn8
 obtain ⟨x1,x2,x3,x4,x5⟩:=hx
 rw [x1]
 have no:¬onC c p k→K' false h:=fun hn=>hk _ _ (Hp.le_refl _) ⟨rfl,fun hh=>(by cases hh),fun hh=>absurd hh hn⟩
 refine za7 (fun h1=>?_) (fun h1=>no fun hh=>h1 hh.1)
 obtain ⟨w1,w2,w3,w4⟩:=hv.2.2 h1
 obtain ⟨a,ha⟩:=List.length_eq_one_iff.1 w1
 obtain ⟨b,hb⟩:=List.length_eq_one_iff.1 w2
 rw [ha] at x2
 rw [hb] at x3
 unfold onC at no hk
 rw [ha,hb] at no hk
 refine x2.get 0 rfl (by simp) ?_
 simp only [List.getElem_cons_zero]
 refine za7 (fun h2=>?_) (fun h2=>no fun hh=>h2 (by have:=hh.2.1; simpa using this))
 refine x3.get 0 rfl (by simp) ?_
 simp only [List.getElem_cons_zero]
 refine hk _ _ (Hp.le_refl _) ⟨rfl,?_⟩
 rw [beq_iff_eq]
 exact ⟨fun hh=>⟨h1,by rw [h2],by rw [hh]⟩,fun hh=>by have:=hh.2.2; simpa using this⟩
theorem zvm {A:TArc} {out:List PCon} {p:Int} {y:Sl} {D:Hp} {p8:Addr} {j:Nat} {K:Sl×Unit→Hp→Prop} (hs:sSk S) (hlen:(S.con++out).length≤100) (hone:∀c∈S.con++out,VC1 c) (ho:LO cc 5 CO D h y (S.con++out)) (h8:IL D ⟨some p8,2,2⟩ [A.a,A.b]) (hj:j<2) (hp:p=[A.a,A.b][j])
 (hK:∀y' D' h',D.le D'→LO cc 5 CO D' h' y' (S.con++addOn S.con out p A.circle)→K (y',()) h') :
 (loopP (S:=Bool×Int×Unit) (fun s13 k14 h7=>
 (ifP (decide (s13.2.1<(y.len:Int)))
 (joinP (S:=Bool×Unit) (fun s15 h8=>
 (k14 (s15.1,(IntKind.i64.wrap (s13.2.1+1)),()) h8))
 (fun k16=>
 (ifP s13.1
 (k16 (true,()) h7)
 (idxP y s13.2.1 5 fun a17=>
 (ldL (.int .i64) (a17.add 0) (fun x18_0=>
 (ldL (.sl) (a17.add 1) (fun x18_1=>
 (ldL (.sl) (a17.add 2) (fun x18_2=>
 (ldL (.sl) (a17.add 3) (fun x18_3=>
 (ldL (.int .i64) (a17.add 4) (fun x18_4=>
 (idxP (⟨some p8,2,2⟩:Sl) (j:Int) 1 fun a19=>
 (ldL (.int .i64) a19 (fun x20=>
 (callP (F.zn8 (⟨x18_0,x18_1,x18_2,x18_3,x18_4⟩:TConstraint) x20 A.circle) (fun r21 h9=>
 (k16 (r21,()) h9)) h7)) h7))) h7)) h7)) h7)) h7)) h7)))))
 (ifP (!s13.1)
 (idxP (⟨some p8,2,2⟩:Sl) (j:Int) 1 fun a22=>
 (ldL (.int .i64) a22 (fun x23=>
 (newP [.int .i64 x23] (fun p24 h10=>
 (newP [.int .i64 A.circle] (fun p25 h11=>
 (appP 5 88 [.int .i64 0,.slice nilS.a nilS.len nilS.cap,.slice nilS.a nilS.len nilS.cap,.slice nilS.a nilS.len nilS.cap,.int .i64 0] y 1 [.int .i64 13,.slice (⟨some p24,1,1⟩:Sl).a (⟨some p24,1,1⟩:Sl).len (⟨some p24,1,1⟩:Sl).cap,.slice (⟨some p25,1,1⟩:Sl).a (⟨some p25,1,1⟩:Sl).len (⟨some p25,1,1⟩:Sl).cap,.slice nilS.a nilS.len nilS.cap,.int .i64 0] (fun w26 h12=>
 (K (w26,()) h12)) h11)) h10)) h7)) h7))
 (K (y,()) h7))))
 (false,0,()) h):=by
  have hyl:=ho.len zac
  refine zc5 (n:=(S.con++out).length) (by omega) (fun i b h'=>h'=h∧(b=true↔∃c∈(S.con++out).take i,onC c p A.circle)) ⟨rfl,by simp⟩ ?_
  rintro i b h hi ⟨rfl,hb⟩ k hk2
  refine za0 (fun h2=>?_) (fun h2=>?_)
  · have hi':i<(S.con++out).length:=by simp only at h2; omega
    refine za3 (fun s h'=>h'=h∧(s.1=true↔∃c∈(S.con++out).take (i+1),onC c p A.circle)) (fun s h' hs=>hk2 _ _ hi' hs) ?_
    have e:(∃c∈(S.con++out).take (i+1),onC c p A.circle)↔(∃c∈(S.con++out).take i,onC c p A.circle)∨onC (S.con++out)[i] p A.circle:=by
     rw [←List.take_append_getElem hi']
     constructor
     · rintro ⟨c,hc,hon⟩
       rcases List.mem_append.1 hc with hc | hc
       · exact .inl ⟨c,hc,hon⟩
       · rw [List.mem_singleton.1 hc] at hon; exact .inr hon
     · rintro (⟨c,hc,hon⟩ | hon)
       · exact ⟨c,List.mem_append_left _ hc,hon⟩
       · exact ⟨_,List.mem_append_right _ (List.mem_singleton.2 rfl),hon⟩
    refine za2 (fun h3=>⟨rfl,?_⟩) (fun h3=>?_)
    · rw [e]
      exact ⟨fun _=>.inl (hb.1 h3),fun _=>rfl⟩
    · refine (ho.lr zac).get zac i rfl hi' fun a x hxx hc=>?_
      refine ⟨_,hc 0 _ rfl,_,hc 1 _ rfl,_,hc 2 _ rfl,_,hc 3 _ rfl,_,hc 4 _ rfl,?_⟩
      refine (h8.le ho.dle).get j rfl hj ?_
      rw [←hp]
      refine zabv (x:=x) hxx (hone _ (List.getElem_mem _)) fun b hbb=>⟨rfl,?_⟩
      rw [e,hbb]
      exact ⟨fun hh=>.inr hh,fun hh=>hh.resolve_left fun hh2=>by simp only at h3; rw [hb.2 hh2] at h3; cases h3⟩
  · have:i=(S.con++out).length:=by simp only at h2; omega
    subst this
    rw [List.take_length] at hb
    refine za2 (fun h3=>?_) (fun h3=>?_)
    · have hb':¬∃c∈S.con++out,onC c p A.circle:=fun hh=>by simp only at h3; rw [hb.2 hh] at h3; cases h3
      refine (h8.le ho.dle).get j rfl hj ?_
      rw [←hp]
      refine ho.newb zac fun p24 D3 h4 d3 l4 ho4 c24=>ho4.newb zac fun p25 D4 h5 d4 l5 ho5 c25=>?_
      have e24:D4.cell p24=some (.int .i64 p):=by
       have:=c24 0 _ rfl
       rw [zb3] at this
       exact Hp.cell_le d4 this
      have e25:D4.cell p25=some (.int .i64 A.circle):=by
       have:=c25 0 _ rfl
       rwa [zb3] at this
      have hco:CO D4 ⟨13,⟨some p24,1,1⟩,⟨some p25,1,1⟩,nilS,0⟩ (mkOn p A.circle):=co_on (va:=nilS) (vs:=nilS) e24 e25
      refine ho5.app zac (bytes:=88) (zero:=zC) (x:=⟨13,⟨some p24,1,1⟩,⟨some p25,1,1⟩,nilS,0⟩) (b:=mkOn p A.circle) rfl (by omega) (by omega) hco fun y' h11 ho11=>?_
      refine hK y' D4 h11 (Hp.le_trans d3 d4) ?_
      have:addOn S.con out p A.circle=out++[mkOn p A.circle]:=by unfold addOn; rw [if_neg hb']
      rw [this,←List.append_assoc]; exact ho11
    · have hb':∃c∈S.con++out,onC c p A.circle:=hb.1 (by simpa using h3)
      refine hK y D h (Hp.le_refl _) ?_
      have:addOn S.con out p A.circle=out:=by unfold addOn; rw [if_pos hb']
      rw [this]; exact ho
theorem zvz (hx:SK h s S) (hv:VS S) (hs:sSk S) (H:∀y h',h.le h'→LR cc 5 CO h' y (imp S)→Ks y h'):callP (F.zje s) Ks h:=by
 refine za1 (fun y h'=>LR cc 5 CO h' y (imp S)) (fun K' hk=>?_) fun b h' hl hb=>H b h' hl hb
 unfold F.zje
 have l4:=hx.2.2.2.1.len zdo
 have l6:=hx.2.2.2.2.2.len zac
 have s4:=hs.2.2.2.1
 have s6:=hs.2.2.2.2.2.1
 refine za7m (c:=cc) (n:=5) (P:=CO) fun p1 h1 ho1=>?_
 refine ho1.appAll zac (bytes:=88) (zero:=zC) hx.2.2.2.2.2 rfl (by simp; omega) (by simp; omega) fun w3 h2 ho2=>?_
 rw [List.nil_append] at ho2
 refine zc5 (n:=S.arc.length) (by omega) (fun i y h'=>∃D,h.le D∧LO cc 5 CO D h' y (S.con++impL S.con (S.arc.take i))) ⟨h,Hp.le_refl _,by simpa [impL] using ho2⟩ ?_
 rintro i y h3 hi ⟨D,hD,ho⟩ k hk2
 refine za0 (fun h4=>?_) (fun h4=>?_)
 · have hi':i<S.arc.length:=by simp only at h4; omega
   have hlen:=zpg S.con S.arc i hi
   refine za17 (hx.le (Hp.le_trans hD ho.dle)) i rfl hi' fun a hc=>⟨_,hc 0 _ rfl,_,hc 1 _ rfl,_,hc 2 _ rfl,_,hc 3 _ rfl,?_⟩
   refine ho.newb zac fun p5 D2 h3 d2 l3 ho3 c5=>?_
   have hD2:=Hp.le_trans hD d2
   obtain ⟨A,hA⟩:∃A,A=S.arc[i]:=⟨_,rfl⟩
   rw [←hA] at c5 ⊢
   obtain ⟨out,hout⟩:∃out,out=impL S.con (S.arc.take i):=⟨_,rfl⟩
   rw [←hout] at ho3 hlen
   have hone:∀c∈S.con++out,VC1 c:=by
    intro c hc
    rcases List.mem_append.1 hc with hc | hc
    · exact hv.one hs hc
    · rw [hout] at hc; exact za1n i hi c hc
   obtain ⟨st,hst⟩:∃st:Nat→List PCon,st=fun j=>if j=0 then out else if j=1 then addOn S.con out A.a A.circle else addArc S.con out A:=⟨_,rfl⟩
   have st0:st 0=out:=by rw [hst]; rfl
   have st1:st 1=addOn S.con out A.a A.circle:=by rw [hst]; rfl
   have st2:st 2=addArc S.con out A:=by rw [hst]; rfl
   have a1:=znk S.con out A.a A.circle
   have hl5:IL D2 ⟨some p5,2,2⟩ [A.a,A.b]:=⟨zex c5 rfl,Nat.le_refl _⟩
   refine zc5 (n:=2) (by omega) (fun j y h'=>∃D,D2.le D∧LO cc 5 CO D h' y (S.con++st j)) ⟨D2,Hp.le_refl _,by rw [st0]; exact ho3⟩ ?_
   rintro j z h4 hj ⟨D3,d3,ho4⟩ k2 hk3
   refine za0 (fun h5=>?_) (fun h5=>?_)
   · have hj':j<2:=by have:(j:Int)<((2:Nat):Int):=h5; omega
     refine za3 (fun s h'=>∃D,D2.le D∧LO cc 5 CO D h' s.1 (S.con++st (j+1))) (fun s h' hs=>hk3 _ _ hj' hs) ?_
     rcases (by omega:j=0∨j=1) with rfl | rfl
     · refine zvm (A:=A) (out:=st 0) (p:=A.a) (j:=0) (K:=fun (s:Sl×Unit) h'=>∃D,D2.le D∧LO cc 5 CO D h' s.1 (S.con++st (0+1))) hs (by rw [st0,List.length_append]; omega) (by rw [st0]; exact hone) ho4 (hl5.le d3) (by decide) rfl fun y' D' h' hd hl=>⟨D',Hp.le_trans d3 hd,?_⟩
       rw [show st (0+1)=st 1 from rfl,st1,←st0]; exact hl
     · refine zvm (A:=A) (out:=st 1) (p:=A.b) (j:=1) (K:=fun (s:Sl×Unit) h'=>∃D,D2.le D∧LO cc 5 CO D h' s.1 (S.con++st (1+1))) hs (by rw [st1,List.length_append]; omega) ?_ ho4 (hl5.le d3) (by decide) rfl fun y' D' h' hd hl=>⟨D',Hp.le_trans d3 hd,?_⟩
       · intro c hc
         rcases List.mem_append.1 hc with hc | hc
         · exact hv.one hs hc
         · rw [st1] at hc
           exact znj (fun c hc=>hone c (List.mem_append_right _ hc)) ztk c hc
       · rw [show st (1+1)=st 2 from rfl,st2]
         have:addArc S.con out A=addOn S.con (st 1) A.b A.circle:=by rw [st1]; rfl
         rw [this]; exact hl
   · have:j=2:=by have:¬(j:Int)<((2:Nat):Int):=h5; omega
     subst this
     refine hk2 _ _ hi' ⟨D3,Hp.le_trans hD2 d3,?_⟩
     rw [znp hi',←hout,←hA,←st2]
     exact ho4
 · have:i=S.arc.length:=by simp only at h4; omega
   subst this
   rw [List.take_length] at ho
   have hyl:=ho.len zac
   have hyr:=ho.lr zac
   rw [List.length_append] at hyl
   have hcap:=hyr.cap
   refine ⟨by omega,by simp only; omega,by simp only; omega,hk _ _ (Hp.le_trans hD ho.dle) ?_⟩
   have:=hyr.drop zac (k:=S.con.length) (m:=y.len) (by rw [List.length_append]; omega) (by rw [List.length_append]; omega)
   rw [List.drop_left] at this
   have e1:((s.constraints.len:Int)).toNat=S.con.length:=by omega
   have e2:((y.len:Int)).toNat=y.len:=rfl
   simp only
   rw [e1,e2]; exact this
theorem zns (hx:SK h s S) (hv:VS S) (hs:sSk S) (H:∀y h',h.le h'→LR cc 5 CO h' y (allC S)→Ks y h'):callP (F.zid s) Ks h:=by
 refine za1 (fun y h'=>LR cc 5 CO h' y (allC S)) (fun K' hk=>?_) fun b h' hl hb=>H b h' hl hb
 unfold F.zid
 have s6:=hs.2.2.2.2.2.1
 have hi:=zuj S
 have s4:=hs.2.2.2.1
 refine za7m (c:=cc) (n:=5) (P:=CO) fun p1 h1 ho1=>?_
 refine ho1.appAll zac (bytes:=88) (zero:=zC) hx.2.2.2.2.2 rfl (by simp; omega) (by simp; omega) fun w3 h2 ho2=>?_
 rw [List.nil_append] at ho2
 refine ho2.call zac (K1:=fun y h'=>LR cc 5 CO h' y (imp S)) (zvz hx hv hs fun y h' _ hy=>hy) fun r4 D h3 d1 ho3 h4=>?_
 refine ho3.appAll zac (bytes:=88) (zero:=zC) h4 rfl (by omega) (by omega) fun w6 h5 ho5=>hk _ _ (Hp.le_trans d1 ho5.dle) (ho5.lr zac)
theorem za1f {i:Int} {K:Addr→Prop} (hx:SK h s S) (k:Nat) (hi:i=k) (hk:k<S.cir.length) (H:∀a (x:TRound),x.center=(cens S)[k]'(by unfold cens; simpa using hk)→(∀j v,(rdc x)[j]?=some v→h.cell (a.add j)=some v)→K a):idxP s.circles i 5 K:=
 hx.2.1.get zdk k hi hk fun a x hxx hc=>H a x (by rw [hxx.1]; simp [cens]) hc
theorem zpc:(cens S).length=S.cir.length:=by simp [cens]
theorem zm4 (hx:SK h s S) (hs:sSk S) (H:∀y h',h.le h'→OI h h' y (cens S)→Ks y h'):callP (F.zfo s) Ks h:=by
 refine za1 (fun y h'=>OI h h' y (cens S)) (fun K' hk=>?_) fun b h' hl hb=>H b h' hl hb
 unfold F.zfo
 have l2:=hx.2.1.len zdk
 have s2:=hs.2.1
 have cl:=zpc (S:=S)
 refine zc5 (n:=S.cir.length) (by omega) (fun i y h'=>OI h h' y ((cens S).take i)) (by simpa using OI.nil) ?_
 intro i y h1 hi ho k hk2
 refine za0 (fun h2=>?_) (fun h2=>?_)
 · have hi':i<S.cir.length:=by simp only at h2; omega
   refine za1f (hx.le ho.dle) i rfl hi' fun a x hxx hc=>⟨_,hc 0 _ rfl,?_⟩
   refine ho.app (by rw [List.length_take]; omega) fun z h3 ho3=>hk2 _ _ hi' ?_
   rw [hxx,List.take_append_getElem] at ho3
   exact ho3
 · have:i=S.cir.length:=by simp only at h2; omega
   subst this
   rw [←cl,List.take_length] at ho
   exact hk _ _ ho.dle ho
end
end Den
end
