/-
  Part 4 of the tools and contracts from which the statement is proved.
-/
import Derived.Test.YtijmjfcnjfnpgaaGreatDoorPartp3
import Derived.Test.YtijmjfcnjfnpgaaGreatDoorChecked
import Derived.Test.YtijmjfcnjfnpgaaGreatDoorTie
import Derived.LaidMore
import Derived.MakeChecks
import Derived.SevenTiedAt
set_option linter.all false
open Go.IntKind
section
namespace Den
open Go Lx
theorem zw3{l:List UInt8}{k:Nat}{c:UInt8}{r:List UInt8}(h:l.drop k=c :: r):l.drop (k+1)=r/\k<l.length:=by
 have h2:(l.drop k).length=r.length+1:=by rw[h];rfl
 rw[List.length_drop]at h2
 refine⟨?_,by omega⟩
 rw[<-List.drop_drop,h];rfl
theorem Z8n(c:UInt8):isL c=((decide ((c.toNat:Int)>=97)&&decide ((c.toNat:Int)<=122))||(decide ((c.toNat:Int)>=65)&&decide ((c.toNat:Int)<=90))):=by
 rw[Bool.eq_iff_iff]
 simp[isL,UInt8.le_iff_toNat_le]
 omega
theorem Z8m(c:UInt8):isD c=(decide ((c.toNat:Int)>=48)&&decide ((c.toNat:Int)<=57)):=by
 rw[Bool.eq_iff_iff]
 simp[isD,UInt8.le_iff_toNat_le]
 omega
theorem Zkh{c:UInt8}{n:Nat}(hn:n<256):(c.toNat:Int)=(n:Int)↔c=UInt8.ofNat n:=by
 rw[<-UInt8.toNat_inj]
 simp
 omega
section
variable {K : Bool → Hp → Prop} {Ki : Int → Hp → Prop} {h : Hp} {c : UInt8} {s : ByteArray}
theorem zfc(H:K (isL c) h):F.z07 c.toNat K h:=by
 rw[Z8n]at H
 unfold F.z07
 generalize decide ((c.toNat:Int)>=97)=a1 at H |-
 generalize decide ((c.toNat:Int)<=122)=a2 at H |-
 generalize decide ((c.toNat:Int)>=65)=a3 at H |-
 cases a1<;>cases a2<;>cases a3<;>exact H
theorem zs8(H:K (isD c) h):F.z1f c.toNat K h:=by
 rw[Z8m]at H
 unfold F.z1f
 generalize decide ((c.toNat:Int)>=48)=a1 at H |-
 cases a1<;>exact H
theorem zwl(H:K (isW c) h):F.z5a c.toNat K h:=by
 unfold F.z5a
 refine Zk (isL c) (λK'=>zfc) ?_
 unfold isW at H
 cases h1:isL c
 . show zc (F.z1f ↑c.toNat) (λr2 h2=>ifP r2 (K true h2) (K ((c.toNat:Int)==95) h2)) h
   refine Zk (isD c) (λK'=>zs8) ?_
   rw[h1]at H
   cases h2:isD c
   . rw[h2]at H
     have:((c.toNat:Int)==95)=(c==95):=by
      rw[Bool.eq_iff_iff]
      simp only[beq_iff_eq]
      exact Zkh (n:=95) (by decide)
     show K ((c.toNat:Int)==95) h
     rw[this];exact H
   . rw[h2]at H;exact H
 . rw[h1]at H;exact H
theorem zmj(hs:s.size<=1000000)(H:Ki (spn isW (BS s)) h):F.Xk s Ki h:=by
 unfold F.Xk
 refine y9 (λst h'=>h'=h/\∃k:Nat,st=((k:Int),())/\spn isW (BS s)=k+spn isW ((BS s).drop k)) (λst=>((s.size:Int)-st.1).toNat) ⟨rfl,0,rfl,by simp⟩ ?_
 rintro st h' ⟨rfl,k,rfl,hk⟩
 refine zob (ze (λh1=>?_) (λh1=>?_))
 . cases hd:(BS s).drop k with
   | nil=>have:=List.drop_eq_nil_iff.1 hd;rw[z37]at this;simp only at h1;omega
   | cons c r=>
     obtain⟨h2,h3⟩:=zw3 hd
     rw[z37]at h3
     refine za6 hd rfl (Zk (isW c) (λK'=>zwl) (zp (λh4=>?_) (λh4=>?_)))
     . simp only at h1
       refine⟨⟨rfl,k+1,by simp only;rw[w64 (by omega)];rfl,?_⟩,by simp only;rw[w64 (by omega)];omega⟩
       rw[h2,hk,hd];simp only[spn,h4,if_true];omega
     . rw[hk,hd]at H
       simp only[spn,h4]at H
       simpa using H
 . have hd:(BS s).drop k=[]:=by apply List.drop_eq_nil_of_le;rw[z37];simp only at h1;omega
   rw[hk,hd]at H
   simpa [spn] using H
end
end Den
end

section
namespace Den
open Go Lx
section
variable {Kp : Int × Int → Hp → Prop} {Kt : Sl × Int × Int → Hp → Prop} {K : Bool → Hp → Prop} {h : Hp} {s : ByteArray}
theorem zb7:(Xx:ByteArray).toList=[]:=by rw[z7h];rfl
theorem zwj{A B:Prop}(hA:BS s≠[]->A)(hB:BS s=[]->B):ifP (!((s:ByteArray).toList==(Xx:ByteArray).toList)) A B:=by
 rw[zb7,z7h]
 refine zp (λhh=>hA ?_) (λhh=>hB ?_)
 . intro h0;rw[h0]at hh;cases hh
 . simpa using hh
theorem zvi(H:K (Z40 (BS s)) h):F.z0o s K h:=by
 unfold F.z0o
 refine zwj (λh1=>?_) (λh1=>by rw[h1]at H;exact H)
 cases hd:BS s with
 | nil=>exact absurd hd h1
 | cons c r=>
   have hl:s.size=(c :: r).length:=by rw[<-z37,hd]
   rw[hd]at H
   unfold Z40 at H
   simp only at H
   refine ze (λh2=>?_) (λh2=>?_)
   . rw[decide_eq_true (show(c :: r).length<=24 by omega)]at H
     refine za6 (k:=0) (by rw[List.drop_zero];exact hd) rfl (Zk (isL c) (λK'=>zfc) (zp (λh3=>?_) (λh3=>?_)))
     . rw[h3]at H
       refine Zk _ (λK'=>zmj (by omega)) ?_
       have:((spn isW (BS s):Int)==(s.size:Int))=(spn isW (c :: r)==(c :: r).length):=by
        rw[Bool.eq_iff_iff];simp only[beq_iff_eq];rw[hd,hl];omega
       rw[this];simpa using H
     . rw[h3]at H;simpa using H
   . rw[decide_eq_false (show ¬(c :: r).length<=24 by omega)]at H
     exact H
end
end Den
end

section
namespace Den
open Go Lx
section
variable {Kp : Int × ByteArray → Hp → Prop} {Kt : Sl × Int × Int → Hp → Prop} {K : Bool → Hp → Prop} {Ki : Int → Hp → Prop} {h : Hp} {s : ByteArray} {c : UInt8} {p : Nat}
def Xa(l:List UInt8):List Value:=l.map λb=>.int .u8 b.toNat
end
end Den
end

section
namespace Den
open Go Lx
section
variable {Kt : Sl × Int × Int → Hp → Prop} {K : Bool → Hp → Prop} {h : Hp} {s : ByteArray}
end
end Den
end

section
namespace Den
open Go Lx
section
variable {K : Bool → Hp → Prop} {h : Hp} {s : ByteArray}
end
end Den
end

section
namespace Den
open Go Lx
def zq3(t:TypeId)(h0 h:Hp)(x:Sl)(cs:List Value):Prop:=Own h0 h 1 x cs/\∀a b,x.a=some a->h a.block=some b->b.elem=t
theorem Z8w{h0 h:Hp}{x:Sl}{cs:List Value}{n:Nat}{bl:Blk}(ho:Own h0 h 1 x cs)(hn:h0 n=none)(hne:∀a,x.a=some a->a.block≠n):Own h0 (h.ins n bl) 1 x cs:=by
 obtain⟨h1,h2,h3,h4⟩:=ho
 refine⟨λk b hk=>?_,h2,h3,?_⟩
 . rw[Hp.ins_ne (λhh=>by rw[hh,hn]at hk;cases hk)]
   exact h1 k b hk
 . cases ha:x.a with
   | none=>rw[ha]at h4;exact h4
   | some a=>
     rw[ha]at h4
     obtain⟨g1,g2,g3,b,g4,g5⟩:=h4
     exact⟨g1,g2,g3,b,by rw[Hp.ins_ne (hne a ha)];exact g4,g5⟩
theorem zq3.ins{t:TypeId}{h0 h:Hp}{x:Sl}{cs:List Value}{n:Nat}{bl:Blk}(ho:zq3 t h0 h x cs)(hn:h0 n=none)(hne:∀a,x.a=some a->a.block≠n):zq3 t h0 (h.ins n bl) x cs:=
 ⟨Z8w ho.1 hn hne,λa b ha hb=>ho.2 a b ha (by rwa [Hp.ins_ne (hne a ha)]at hb)⟩
theorem zy2{t:TypeId}{h0 h:Hp}{n N:Nat}{zero new cs:List Value}{x:Sl}{K:Sl->Hp->Prop}(hN:h N≠none)(hNx:∀a,x.a=some a->a.block≠N)(ho:zq3 t h0 h x cs)(hn:new.length=n)(hz:zero.length=1)
 (hleaf:new.all Value.leaf=true) (hb:x.len+n<=140737488355328)
 (H:∀y h',zq3 t h0 h' y (cs++new)->(∀a,y.a=some a->a.block≠N)->h' N=h N->y.len=x.len+n->(y.a=none->x.a=none/\n=0)->K y h'):zkt t 1 1 zero x n new K h:=by
 obtain⟨ho,hel⟩:=ho
 have hrd:=ho.rd
 obtain⟨h1,h2,h3,h4⟩:=ho
 rw[Nat.mul_one]at h2
 refine⟨by rw[Nat.mul_one];exact hb,hb,λhfit=>?_,λhgrow=>?_⟩
 . cases ha:x.a with
   | none=>
     rw[ha]at h4
     simp only at h4
     have hn0:n=0:=by omega
     have hnew:new=[]:=List.eq_nil_of_length_eq_zero (by omega)
     subst hnew hn0
     simp only[stO]
     refine H _ _ ⟨⟨h1,?_,?_,?_⟩,λa b hh=>by cases hh⟩ (λa hh=>by cases hh) rfl rfl (λ_=>⟨ha,rfl⟩)
     . simpa using h2
     . show x.len+0<=x.cap;omega
     . show x.cap=0;exact h4
   | some a=>
     rw[ha]at h4
     obtain⟨g1,g2,g3,b,g4,g5,g6,g7⟩:=h4
     rw[Nat.mul_one]at g6
     simp only[stO]
     refine⟨b,by rw[Yi];exact g4,V1 g2 _,g5,?_,hleaf,?_⟩
     . rw[Xr];omega
     . rw[Yi,Xr]
       have hne:=hNx a ha
       refine H _ _ ⟨⟨?_,?_,hfit,?_⟩,?_⟩ (λa' hh=>by cases hh;exact hne) ?_ rfl (λhh=>by cases hh)
       . intro k bk hk
         rw[Hp.ins_ne (λhh=>by subst hh;rw[g3]at hk;cases hk)]
         exact h1 k bk hk
       . show(x.len+n)*1=_;rw[List.length_append];omega
       . refine⟨g1,g2,g3,_,Hp.ins_same _ _ _,g5,?_,?_⟩
         . show(z8 b.cells (a.off+x.len*1) new).length=_
           unfold z8
           simp only[List.length_append,List.length_take,List.length_drop]
           show _=x.cap*1
           omega
         . show(z8 b.cells (a.off+x.len*1) new).take _=_
           have hoff:a.off+x.len*1=cs.length:=by omega
           unfold z8
           rw[hoff,g7,List.append_assoc,List.length_append,List.take_append]
           simp only[Nat.add_sub_cancel_left]
           rw[List.take_of_length_le (by omega),List.take_append,List.take_of_length_le (Nat.le_refl _)]
           simp
       . intro a' b' ha' hb'
         cases ha'
         rw[Hp.ins_same]at hb'
         cases hb'
         exact hel a b ha g4
       . rw[Hp.ins_ne (Ne.symm hne)]
 . refine⟨cs,?_,λbk c hc hfr=>?_⟩
   . rw[Nat.mul_one,h2];exact hrd.2
   . have hbN:bk≠N:=λhh=>by rw[hh]at hfr;exact hN hfr
     refine H _ _ ⟨⟨Hp.le_trans h1 (Hp.le_ins hfr),?_,hc,?_⟩,?_⟩ (λa hh=>by cases hh;exact hbN) (Hp.ins_ne (Ne.symm hbN)) rfl (λhh=>by cases hh)
     . show(x.len+n)*1=_;rw[List.length_append];omega
     . refine⟨rfl,rfl,?_,_,Hp.ins_same _ _ _,rfl,?_,?_⟩
       . cases hk:h0 bk with
         | none=>rfl
         | some b=>have:=h1 _ _ hk;rw[hfr]at this;cases this
       . show(cs++new++Z6 (c-(x.len+n)) zero).length=c*1
         have hr:(Z6 (c-(x.len+n)) zero).length=(c-(x.len+n)):=by
          unfold Z6
          simp[hz]
         rw[List.length_append,List.length_append,hr]
         omega
       . show(cs++new++Z6 (c-(x.len+n)) zero).take _=cs++new
         rw[List.take_append_of_le_length (by simp)]
         exact List.take_of_length_le (Nat.le_refl _)
     . intro a' b' ha' hb'
       cases ha'
       have hb'':(h.ins bk ⟨cs++new++Z6 (c-(x.len+n)) zero,t,(0,0)⟩) bk=some b':=hb'
       rw[Hp.ins_same]at hb''
       cases hb''
       rfl
def BLD(h0 h:Hp)(n:Nat)(l:List UInt8):Prop:=
 ∃q x,h n=some ⟨[q,.slice x.a x.len x.cap],364,(0,0)⟩/\(q=.pointer none\/q=.pointer (some ⟨n,0,none⟩))/\h0 n=none /\
  zq3 5 h0 h x (Xa l)/\(∀a,x.a=some a->a.block≠n)/\(x.a=none\/l≠[])
def BLU(h0 h:Hp)(n:Nat)(l:List UInt8):Prop:=
 ∃x,h n=some ⟨[.pointer (some ⟨n,0,none⟩),.slice x.a x.len x.cap],364,(0,0)⟩/\h0 n=none /\
  zq3 5 h0 h x (Xa l)/\(∀a,x.a=some a->a.block≠n)/\(x.a=none\/l≠[])
theorem BLD.hle{h0 h:Hp}{n:Nat}{l:List UInt8}(hb:BLD h0 h n l):h0.le h:=by
 obtain⟨q,x,h1,h2,h3,h4,h5⟩:=hb
 exact h4.1.1
theorem z38{l:List UInt8}:(Xa l).length=l.length:=by simp[Xa]
theorem zqk{l m:List UInt8}:Xa (l++m)=Xa l++Xa m:=by simp[Xa]
theorem znb{l:List UInt8}:(Xa l).all Value.leaf=true:=by simp[Xa,Value.leaf]
section
variable {h0 h : Hp} {n : Nat} {l : List UInt8}
theorem Z8s{K:Addr->Hp->Prop}(H:∀n h',BLD h h' n []->K ⟨n,0,none⟩ h'):zww 364 [.pointer none,.slice zf.a zf.len zf.cap] K h:=by
 intro b hb
 refine H b _ ⟨.pointer none,zf,Hp.ins_same _ _ _,.inl rfl,hb,⟨Own.nil (Hp.le_ins hb),(λa b' ha=>by cases ha)⟩,(λa ha=>by cases ha),.inl rfl⟩
theorem zci{K:Unit->Hp->Prop}(hb:BLD h0 h n l)(H:∀h',BLU h0 h' n l->K () h'):qg (F.Qx (some ⟨n,0,none⟩)) K h:=by
 refine Qe ?_
 obtain⟨q,x,h1,h2,h3,h4,h5,h6⟩:=hb
 refine⟨n,_,rfl,h1,rfl,rfl,rfl,?_⟩
 rcases h2 with rfl | rfl
 . exact .inl ⟨rfl,H _ ⟨x,Hp.ins_same _ _ _,h3,h4.ins h3 h5,h5,h6⟩⟩
 . exact .inr ⟨rfl,H _ ⟨x,h1,h3,h4,h5,h6⟩⟩
theorem zu7{m:List UInt8}{k:Nat}{K:Hp->Prop}(hb:BLU h0 h n l)(hk:m.length=k)(hlen:l.length+k<=140737488355328)(hm:m≠[]\/l≠[])(H:∀h',BLD h0 h' n (l++m)->K h') :
 ldL (.sl) ((⟨n,0,none⟩:Addr).add 1) (λx3=>zkt 5 1 1 [.int .u8 0] x3 k (Xa m) (λw4 h2=>ym (some ⟨n,0,none⟩) λp5=>stP (p5.add 1) [.slice w4.a w4.len w4.cap] (λh3=>K h3) h2) h) h:=by
 obtain⟨x,h1,h3,h4,h5,h6⟩:=hb
 have hl:x.len=l.length:=by have:=h4.1.2.1;rw[z38]at this;omega
 refine⟨x,?_,?_⟩
 . rw[z17]
   unfold Hp.cell
   simp only[h1]
   rfl
 . refine zy2 (N:=n) (by rw[h1];simp) h5 h4 (by rw[z38];exact hk) rfl znb (by omega) λy h' hy hyn hn hlen' hya=>?_
   rw[h1]at hn
   refine⟨_,by rw[Yi];exact hn,by rw[z17],rfl,by rw[z17];exact Nat.le_refl _,rfl,H _ ⟨_,y,Hp.ins_same _ _ _,.inr rfl,h3,?_,hyn,?_⟩⟩
   . rw[zqk];exact hy.ins h3 hyn
   . right
     cases l with
     | nil=>exact hm.elim id λhh=>absurd rfl hh
     | cons a b=>simp
theorem zgc{s:ByteArray}{K:(Int×Value)->Hp->Prop}(hb:BLD h0 h n l)(hlen:l.length<=1000000)(hs:BS s≠[])(hs2:s.size<=1000000)(H:∀h',BLD h0 h' n (l++BS s)->K ((s.size:Int),.nilIface) h'):qg (F.Zv (some ⟨n,0,none⟩) s) K h:=by
 refine Qe ?_
 unfold F.Zv
 exact zci hb λh1 hb1=>zu7 (m:=BS s) hb1 (z37 s) (by omega) (.inl hs) λh' hb'=>H _ hb'
theorem zfs{s:ByteArray}{K:(Int×Value)->Hp->Prop}(hb:BLD h0 h n l)(hlen:l.length<=1000000)(hs:BS s≠[]\/l≠[])(hs2:s.size<=1000000)(H:∀h',BLD h0 h' n (l++BS s)->K ((s.size:Int),.nilIface) h'):qg (F.Zv (some ⟨n,0,none⟩) s) K h:=by
 refine Qe ?_
 unfold F.Zv
 exact zci hb λh1 hb1=>zu7 (m:=BS s) hb1 (z37 s) (by omega) hs λh' hb'=>H _ hb'
theorem zvm{K:ByteArray->Hp->Prop}(hb:BLD h0 h n l)(hlen:l.length<=1000000)(H:∀h',h0.le h'->K ⟨l.toArray⟩ h'):qg (F.Xv (some ⟨n,0,none⟩)) K h:=by
 refine Qe ?_
 obtain⟨q,x,h1,h2,h3,h4,h5,h6⟩:=hb
 obtain⟨⟨g0,g1,g2,g3⟩,hel⟩:=h4
 rw[z38]at g1
 refine⟨n,_,q,rfl,h1,rfl,rfl,?_⟩
 cases ha:x.a with
 | none=>
   rw[ha]at g3
   simp only at g3
   have hl0:l=[]:=List.eq_nil_of_length_eq_zero (by omega)
   subst hl0
   refine .inl ⟨?_,H h g0⟩
   have e1:x.len=0:=by omega
   rw[e1,g3]
 | some a=>
   rw[ha]at g3
   obtain⟨i1,i2,i3,b,i4,i5,i6,i7⟩:=g3
   have hne:l≠[]:=by
    rcases h6 with h6 | h6
    . rw[ha]at h6;cases h6
    . exact h6
   obtain⟨g,off,sp⟩:=a
   simp only at i1 i2
   subst i1 i2
   refine .inr ⟨g,x.cap,l,b,hne,?_,by omega,i4,hel _ _ ha i4,by omega,by omega,λj y hj=>?_,H _ λk c hk=>?_⟩
   . have e1:x.len=l.length:=by omega
     rw[e1]
   . have hlt:j<l.length:=by
      rcases Nat.lt_or_ge j l.length with hh | hh
      . exact hh
      . rw[List.getElem?_eq_none hh]at hj;cases hj
     have:(b.cells.take (Xa l).length)[j]?=(Xa l)[j]?:=by rw[i7]
     rw[z38,List.getElem?_take_of_lt hlt]at this
     rw[this]
     unfold Xa
     rw[List.getElem?_map,hj]
     rfl
   . have hkg:k≠g:=λhh=>by
      subst hh
      have i3':h0 k=none:=i3
      rw[i3']at hk;cases hk
     simp only[if_neg hkg]
     exact g0 k c hk
end
end Den
end

section
namespace Den
open Go Iv Lx
def dgt(n:Nat):Nat:=if h:n<10 then 1 else dgt (n/10)+1
termination_by n
decreasing_by omega
theorem z3a{n:Nat}(h:n<10):dgt n=1:=by unfold dgt;rw[dif_pos h]
theorem Vk{n:Nat}(h:10<=n):dgt n=dgt (n/10)+1:=by
 conv=>lhs;unfold dgt
 rw[dif_neg (by omega)]
theorem Z89(n:Nat):1<=dgt n:=by
 by_cases h:n<10
 . rw[z3a h];exact Nat.le_refl _
 . rw[Vk (by omega)];omega
def dg9(n:Nat):Nat:=if n<10 then 1 else if n<100 then 2 else if n<1000 then 3 else if n<10000 then 4 else if n<100000 then 5 else if n<1000000 then 6 else if n<10000000 then 7 else if n<100000000 then 8 else 9
theorem Zj3{n:Nat}(h:n<1000000000):dgt n=dg9 n:=by
 unfold dg9
 by_cases h1:n<10
 . rw[if_pos h1,z3a h1]
 rw[if_neg h1,Vk (by omega)]
 by_cases h2:n<100
 . rw[if_pos h2,z3a (by omega)]
 rw[if_neg h2,Vk (by omega)]
 by_cases h3:n<1000
 . rw[if_pos h3,z3a (by omega)]
 rw[if_neg h3,Vk (by omega)]
 by_cases h4:n<10000
 . rw[if_pos h4,z3a (by omega)]
 rw[if_neg h4,Vk (by omega)]
 by_cases h5:n<100000
 . rw[if_pos h5,z3a (by omega)]
 rw[if_neg h5,Vk (by omega)]
 by_cases h6:n<1000000
 . rw[if_pos h6,z3a (by omega)]
 rw[if_neg h6,Vk (by omega)]
 by_cases h7:n<10000000
 . rw[if_pos h7,z3a (by omega)]
 rw[if_neg h7,Vk (by omega)]
 by_cases h8:n<100000000
 . rw[if_pos h8,z3a (by omega)]
 rw[if_neg h8,Vk (by omega),z3a (by omega)]
theorem Z88{n:Nat}(h:1000000000<=n):dgt n=dgt (n/1000000000)+9:=by
 rw[Vk (n:=n) (by omega),Vk (n:=n/10) (by omega),Vk (n:=n/10/10) (by omega),Vk (n:=n/10/10/10) (by omega),Vk (n:=n/10/10/10/10) (by omega),
  Vk (n:=n/10/10/10/10/10) (by omega),Vk (n:=n/10/10/10/10/10/10) (by omega),Vk (n:=n/10/10/10/10/10/10/10) (by omega),Vk (n:=n/10/10/10/10/10/10/10/10) (by omega)]
 have:n/10/10/10/10/10/10/10/10/10=n/1000000000:=by omega
 rw[this]
theorem zyp{n k:Nat}:∀{k n:Nat},n<10 ^ (k+1)->dgt n<=k+1
 | 0,n,h=>by rw[z3a (by simpa using h)];exact Nat.le_refl _
 | k+1,n,h=>by
   by_cases h1:n<10
   . rw[z3a h1];omega
   . rw[Vk (by omega)]
     have:n/10<10 ^ (k+1):=by rw[Nat.div_lt_iff_lt_mul (by decide),<-Nat.pow_succ];exact h
     have:=zyp (n:=n) (k:=k) this
     omega
section
variable {h : Hp} {s : ByteArray} {i lo hi : Int}
theorem Z8i{K:Int->Prop}(h0:0<=i)(h1:i<s.size)(H:∀b:UInt8,s[i.toNat]?=some b->K (b.toNat:Int)):Qp s i K:=by
 have:i.toNat<s.size:=by omega
 exact⟨h0,s[i.toNat],by simp[this],H _ (by simp[this])⟩
theorem zak{K:ByteArray->Prop}(h0:0<=lo)(h1:lo<=hi)(h2:hi<=s.size)(H:∀t:ByteArray,(t.size:Int)=hi-lo->BS t=((BS s).drop lo.toNat).take (hi.toNat-lo.toNat)->K t):Yt s lo hi K:=by
 refine⟨h0,h1,h2,H _ ?_ zpv⟩
 rw[ByteArray.size_extract];omega
end
theorem Zim{n:Nat}(h:n<=9223372036854775807):i64.wrap (n:Int)=n:=w64 (by omega)
section
variable {h : Hp} {Kt : ByteArray → Hp → Prop} {Ki : Int → Hp → Prop} {Kb : Bool → Hp → Prop}
theorem z9s{s t:ByteArray}(hs:t.size=1)(hs0:1<=s.size)(H:∀h',h.le h'->Kb (decide ((BS s)[0]?=(BS t)[0]?)) h'):zc (F.zm s t) Kb h:=by
 refine zd (λb h'=>b=decide ((BS s)[0]?=(BS t)[0]?)) (λK' hk=>?_) λb h' hl hb=>by subst hb;exact H h' hl
 unfold F.zm
 refine zd (λb h'=>b=decide ((BS s)[0]?=(BS t)[0]?)) (λK2 hk2=>?_) λb h' hl hb=>hk _ _ hl hb
 unfold F.Qz
 refine ze (λ_=>?_) (λh1=>absurd (by omega) h1)
 refine zak (by decide) (by omega) (by omega) λc hc hb=>hk2 _ _ (Hp.le_refl _) ?_
 rw[z7h,z7h,hb]
 have l1:=z37 s
 have l2:=z37 t
 cases hS:BS s with
 | nil=>rw[hS]at l1;simp at l1;omega
 | cons a r=>
   cases hT:BS t with
   | nil=>rw[hT]at l2;simp at l2;omega
   | cons b q=>
     have:q=[]:=by rw[hT]at l2;simp at l2;exact List.eq_nil_of_length_eq_zero (by omega)
     subst this
     rw[hs]
     simp
     by_cases hab:a=b<;>simp[hab]
theorem Z7t{n:Nat}(hn:n<=64){K:(Int×Int)->Hp->Prop}(H:∀h',h.le h'->K (0,(n:Int)) h'):zc (F.z3y 1 (n:Int)) K h:=by
 refine zd (λv h'=>v=(0,(n:Int))) (λK' hk=>?_) λb h' hl hb=>by subst hb;exact H h' hl
 unfold F.z3y
 refine zd (λv h'=>v=(0,(n:Int))) (λK2 hk2=>?_) λb h' hl hb=>by subst hb;exact hk _ _ hl rfl
 unfold F.z4n
 refine⟨by decide,by decide,by decide,by decide,by decide,?_⟩
 refine hk2 _ _ (Hp.le_refl _) ?_
 clear hk hk2 H K' K2
 revert n
 decide +kernel
theorem zes{n:Nat}(hn:n<=64)(H:∀s h',h.le h'->s.size=n->Kt s h'):zc (F.Vb ⟨#[48]⟩ (n:Int)) Kt h:=by
 refine zd (λs h'=>s.size=n) (λK' hk=>?_) λb h' hl hb=>H b h' hl hb
 unfold F.Vb
 refine Za (λh1=>hk _ _ (Hp.le_refl _) ?_) (λh1=>?_)
 . have:n=0:=by omega
   subst this;rfl
 refine Za (λh2=>hk _ _ (Hp.le_refl _) ?_) (λh2=>?_)
 . have:n=1:=by omega
   subst this;rfl
 refine zk (λ_ h'=>h.le h') ?_ (ze (λhh=>absurd hh (by omega)) λ_=>Hp.le_refl _)
 intro _ h1' hl1
 have e1:u64.wrap (((⟨#[48]⟩:ByteArray).size:Int))=1:=by decide
 have e2:u64.wrap (n:Int)=(n:Int):=Zkl (by omega)
 rw[e1,e2]
 refine Z7t hn λh2 hl2=>?_
 have l2:=Hp.le_trans hl1 hl2
 refine zk (λ_ h'=>h.le h') ?_ (ze (λhh=>absurd hh (by simp)) λ_=>ze (λhh=>absurd hh (by simp only;omega)) λ_=>l2)
 intro _ h3 hl3
 refine Za (λhh=>absurd hh (by decide)) (λ_=>?_)
 have e3:i64.wrap (n:Int)=(n:Int):=Zim (by omega)
 simp only[e3]
 refine zk (λ_ _=>False) (λ_ _ hh=>hh.elim) ?_
 refine⟨by decide,48,rfl,?_⟩
 refine zk (λs h'=>s.1=true/\h.le h') ?_ ?_
 . rintro⟨b,_⟩ h4 ⟨rfl,hl4⟩
   refine Z9 rfl ?_
   refine ze (λ_=>?_) (λhh=>absurd (by omega) hh)
   refine z9s rfl (by decide +kernel) λh5 hl5=>zt (by decide +kernel) ?_
   refine ze (λ_=>?_) (λhh=>absurd (by omega) hh)
   refine z9s rfl (by decide +kernel) λh6 hl6=>zt (by decide +kernel) ?_
   refine ze (λ_=>?_) (λhh=>absurd (by omega) hh)
   refine z9s rfl (by decide +kernel) λh7 hl7=>Z9 (by decide +kernel) ?_
   refine zak (by decide) (by omega) (by have:(zL3:ByteArray).size=64:=rfl;rw[this];omega) λt ht _=>hk _ _ (Hp.le_trans hl4 (Hp.le_trans hl5 (Hp.le_trans hl6 hl7))) ?_
   omega
 . refine Za (λhh=>absurd hh (by decide)) (λ_=>?_)
   refine Za (λhh=>absurd hh (by decide)) (λ_=>?_)
   refine Za (λ_=>⟨by decide,hl3⟩) (λhh=>absurd rfl hh)
def P10(h:Hp):Prop:=∀i:Nat,i<20->h.cell ((⟨2,0,none⟩:Addr).add i)=some (.int .u64 ((10 ^ i:Nat):Int))
theorem P10.le{h':Hp}(ht:P10 h)(hl:h.le h'):P10 h':=λi hi=>Hp.cell_le hl (ht i hi)
theorem wu8{n:Int}(h:0<=n/\n<=255):u8.wrap n=n:=by
 unfold IntKind.wrap
 simp only[IntKind.signed,IntKind.bits]
 exact Int.emod_eq_of_lt h.1 (by omega)
theorem Zl9{K:Int->Prop}{x:Nat}(hx:x<256)(H:∀r:Nat,(x=0->r=0)->(0<x->1<=r/\2 ^ (r-1)<=x/\x<2 ^ r)->r<=8->K (r:Int)):Qp zL4 (x:Int) K:=by
 have key:∀x:Nat,x<256->((zL4:ByteArray)[x]?).any (λb=>decide ((x=0->b.toNat=0)/\(0<x->1<=b.toNat/\2 ^ (b.toNat-1)<=x/\x<2 ^ b.toNat)/\b.toNat<=8))=true:=by decide +kernel
 have k:=key x hx
 refine⟨by omega,?_⟩
 rw[Int.toNat_natCast]
 cases hb:(zL4:ByteArray)[x]? with
 | none=>rw[hb]at k;cases k
 | some b=>
   rw[hb]at k
   obtain⟨k1,k2,k3⟩:=of_decide_eq_true (show decide _=true from k)
   exact⟨b,rfl,H _ k1 k2 k3⟩
theorem fd{x k:Nat}:(x:Int).fdiv ((2:Int) ^ k)=((x/2 ^ k:Nat):Int):=by
 have e:((2:Int) ^ k)=((2 ^ k:Nat):Int):=by simp
 rw[e,Int.fdiv_eq_ediv_of_nonneg _ (Int.natCast_nonneg _)];rfl
theorem zq0{x:Nat}(hx:x<4294967296)(H:∀(r:Nat) h',h.le h'->(x=0->r=0)->(0<x->1<=r/\2 ^ (r-1)<=x/\x<2 ^ r)->r<=32->Ki (r:Int) h'):zc (F.z1r (x:Int)) Ki h:=by
 refine zd (λv h'=>∃r:Nat,v=(r:Int)/\(x=0->r=0)/\(0<x->1<=r/\2 ^ (r-1)<=x/\x<2 ^ r)/\r<=32) (λK' hk=>?_) λb h' hl ⟨r,hb,a1,a2,a3⟩=>by subst hb;exact H r h' hl a1 a2 a3
 unfold F.z1r
 refine zk (λs h'=>h.le h'/\s=((x:Int),0,())) ?_ (ze (λhh=>absurd hh (by omega)) λ_=>⟨Hp.le_refl _,rfl⟩)
 rintro _ g1 ⟨l1,rfl⟩
 refine zk (λs h'=>h.le h'/\∃a y:Nat,s=((y:Int),(a:Int),())/\y<65536/\a<=16/\(a=16->0<y)/\(a=0\/a=16)/\y=x/2 ^ a) ?_ ?_
 . rintro _ g2 ⟨l2,a,y,rfl,hy,ha,hay,ha2,e⟩
   refine zk (λs h'=>h.le h'/\∃a y:Nat,s=((y:Int),(a:Int),())/\y<256/\a<=24/\(0<a->0<y)/\y=x/2 ^ a) ?_ ?_
   . rintro _ g3 ⟨l3,a,y,rfl,hy,ha,hay,e⟩
     have e1:u8.wrap (y:Int)=(y:Int):=wu8 (by omega)
     rw[e1]
     refine Zl9 hy λr r0 r1 r8=>hk _ _ l3 ⟨a+r,?_,λhx0=>?_,λhx0=>?_,by omega⟩
     . show i64.wrap ((a:Int)+i64.wrap (r:Int))=_
       rw[Zim (n:=r) (by omega),w64 (by omega)];omega
     . subst hx0
       have hy0:y=0:=by rw[e];simp
       have ha0:a=0:=Classical.byContradiction λhh=>by have:=hay (by omega);omega
       rw[r0 hy0,ha0]
     . by_cases hy0:0<y
       . obtain⟨k1,k2,k3⟩:=r1 hy0
         rw[e,Nat.le_div_iff_mul_le (Nat.two_pow_pos a),<-Nat.pow_add]at k2
         rw[e,Nat.div_lt_iff_lt_mul (Nat.two_pow_pos a),<-Nat.pow_add]at k3
         refine⟨by omega,?_,?_⟩
         . rw[show a+r-1=r-1+a by omega];exact k2
         . rw[Nat.add_comm a r];exact k3
       . exfalso
         have ha0:a=0:=Classical.byContradiction λhh=>by have:=hay (by omega);omega
         rw[ha0]at e
         simp at e
         omega
   . simp only
     refine ze (λh2=>⟨by decide,l2,a+8,y/2 ^ 8,?_,by omega,by omega,λ_=>by omega,?_⟩) (λh2=>⟨l2,a,y,rfl,by omega,by omega,λh0=>by rcases ha2 with rfl | rfl;omega;exact hay rfl,e⟩)
     . have:(min (8:Int).toNat u64.bits)=8:=rfl
       rw[this,fd,w64 (by omega)];rfl
     . rw[e,Nat.div_div_eq_div_mul,<-Nat.pow_add]
 . simp only
   refine ze (λh2=>⟨by decide,l1,16,x/2 ^ 16,?_,by omega,by decide,λ_=>by omega,.inr rfl,rfl⟩) (λh2=>⟨l1,0,x,rfl,by omega,by decide,λhh=>absurd hh (by decide),.inl rfl,by simp⟩)
   have:(min (16:Int).toNat u64.bits)=16:=rfl
   rw[this,fd,w64 (by omega)];rfl
theorem Zj4{x:Nat}(h3:x<1000000000)(h1:2 ^ (7-1)<=x)(h2:x<2 ^ 7):7*78913/262144+(if 10 ^ (7*78913/262144)<=x then 1 else 0)=dg9 x:=by
 simp only[Nat.reduceSub,Nat.reducePow,Nat.reduceMul,Nat.reduceDiv]at h1 h2 |-
 unfold dg9
 (repeat' split)<;>omega
theorem Zj5{x:Nat}(h3:x<1000000000)(h1:2 ^ (8-1)<=x)(h2:x<2 ^ 8):8*78913/262144+(if 10 ^ (8*78913/262144)<=x then 1 else 0)=dg9 x:=by
 simp only[Nat.reduceSub,Nat.reducePow,Nat.reduceMul,Nat.reduceDiv]at h1 h2 |-
 unfold dg9
 (repeat' split)<;>omega
theorem Zj6{x:Nat}(h3:x<1000000000)(h1:2 ^ (9-1)<=x)(h2:x<2 ^ 9):9*78913/262144+(if 10 ^ (9*78913/262144)<=x then 1 else 0)=dg9 x:=by
 simp only[Nat.reduceSub,Nat.reducePow,Nat.reduceMul,Nat.reduceDiv]at h1 h2 |-
 unfold dg9
 (repeat' split)<;>omega
theorem Zc8{x:Nat}(h3:x<1000000000)(h1:2 ^ (10-1)<=x)(h2:x<2 ^ 10):10*78913/262144+(if 10 ^ (10*78913/262144)<=x then 1 else 0)=dg9 x:=by
 simp only[Nat.reduceSub,Nat.reducePow,Nat.reduceMul,Nat.reduceDiv]at h1 h2 |-
 unfold dg9
 (repeat' split)<;>omega
theorem Zc9{x:Nat}(h3:x<1000000000)(h1:2 ^ (11-1)<=x)(h2:x<2 ^ 11):11*78913/262144+(if 10 ^ (11*78913/262144)<=x then 1 else 0)=dg9 x:=by
 simp only[Nat.reduceSub,Nat.reducePow,Nat.reduceMul,Nat.reduceDiv]at h1 h2 |-
 unfold dg9
 (repeat' split)<;>omega
theorem Zca{x:Nat}(h3:x<1000000000)(h1:2 ^ (12-1)<=x)(h2:x<2 ^ 12):12*78913/262144+(if 10 ^ (12*78913/262144)<=x then 1 else 0)=dg9 x:=by
 simp only[Nat.reduceSub,Nat.reducePow,Nat.reduceMul,Nat.reduceDiv]at h1 h2 |-
 unfold dg9
 (repeat' split)<;>omega
theorem Zcb{x:Nat}(h3:x<1000000000)(h1:2 ^ (13-1)<=x)(h2:x<2 ^ 13):13*78913/262144+(if 10 ^ (13*78913/262144)<=x then 1 else 0)=dg9 x:=by
 simp only[Nat.reduceSub,Nat.reducePow,Nat.reduceMul,Nat.reduceDiv]at h1 h2 |-
 unfold dg9
 (repeat' split)<;>omega
theorem Zcc{x:Nat}(h3:x<1000000000)(h1:2 ^ (14-1)<=x)(h2:x<2 ^ 14):14*78913/262144+(if 10 ^ (14*78913/262144)<=x then 1 else 0)=dg9 x:=by
 simp only[Nat.reduceSub,Nat.reducePow,Nat.reduceMul,Nat.reduceDiv]at h1 h2 |-
 unfold dg9
 (repeat' split)<;>omega
theorem Zcd{x:Nat}(h3:x<1000000000)(h1:2 ^ (15-1)<=x)(h2:x<2 ^ 15):15*78913/262144+(if 10 ^ (15*78913/262144)<=x then 1 else 0)=dg9 x:=by
 simp only[Nat.reduceSub,Nat.reducePow,Nat.reduceMul,Nat.reduceDiv]at h1 h2 |-
 unfold dg9
 (repeat' split)<;>omega
theorem Zce{x:Nat}(h3:x<1000000000)(h1:2 ^ (16-1)<=x)(h2:x<2 ^ 16):16*78913/262144+(if 10 ^ (16*78913/262144)<=x then 1 else 0)=dg9 x:=by
 simp only[Nat.reduceSub,Nat.reducePow,Nat.reduceMul,Nat.reduceDiv]at h1 h2 |-
 unfold dg9
 (repeat' split)<;>omega
theorem Zcf{x:Nat}(h3:x<1000000000)(h1:2 ^ (17-1)<=x)(h2:x<2 ^ 17):17*78913/262144+(if 10 ^ (17*78913/262144)<=x then 1 else 0)=dg9 x:=by
 simp only[Nat.reduceSub,Nat.reducePow,Nat.reduceMul,Nat.reduceDiv]at h1 h2 |-
 unfold dg9
 (repeat' split)<;>omega
theorem Zcg{x:Nat}(h3:x<1000000000)(h1:2 ^ (18-1)<=x)(h2:x<2 ^ 18):18*78913/262144+(if 10 ^ (18*78913/262144)<=x then 1 else 0)=dg9 x:=by
 simp only[Nat.reduceSub,Nat.reducePow,Nat.reduceMul,Nat.reduceDiv]at h1 h2 |-
 unfold dg9
 (repeat' split)<;>omega
theorem Zch{x:Nat}(h3:x<1000000000)(h1:2 ^ (19-1)<=x)(h2:x<2 ^ 19):19*78913/262144+(if 10 ^ (19*78913/262144)<=x then 1 else 0)=dg9 x:=by
 simp only[Nat.reduceSub,Nat.reducePow,Nat.reduceMul,Nat.reduceDiv]at h1 h2 |-
 unfold dg9
 (repeat' split)<;>omega
theorem Zci{x:Nat}(h3:x<1000000000)(h1:2 ^ (20-1)<=x)(h2:x<2 ^ 20):20*78913/262144+(if 10 ^ (20*78913/262144)<=x then 1 else 0)=dg9 x:=by
 simp only[Nat.reduceSub,Nat.reducePow,Nat.reduceMul,Nat.reduceDiv]at h1 h2 |-
 unfold dg9
 (repeat' split)<;>omega
theorem Zcj{x:Nat}(h3:x<1000000000)(h1:2 ^ (21-1)<=x)(h2:x<2 ^ 21):21*78913/262144+(if 10 ^ (21*78913/262144)<=x then 1 else 0)=dg9 x:=by
 simp only[Nat.reduceSub,Nat.reducePow,Nat.reduceMul,Nat.reduceDiv]at h1 h2 |-
 unfold dg9
 (repeat' split)<;>omega
theorem Zck{x:Nat}(h3:x<1000000000)(h1:2 ^ (22-1)<=x)(h2:x<2 ^ 22):22*78913/262144+(if 10 ^ (22*78913/262144)<=x then 1 else 0)=dg9 x:=by
 simp only[Nat.reduceSub,Nat.reducePow,Nat.reduceMul,Nat.reduceDiv]at h1 h2 |-
 unfold dg9
 (repeat' split)<;>omega
theorem Zcl{x:Nat}(h3:x<1000000000)(h1:2 ^ (23-1)<=x)(h2:x<2 ^ 23):23*78913/262144+(if 10 ^ (23*78913/262144)<=x then 1 else 0)=dg9 x:=by
 simp only[Nat.reduceSub,Nat.reducePow,Nat.reduceMul,Nat.reduceDiv]at h1 h2 |-
 unfold dg9
 (repeat' split)<;>omega
theorem Zcm{x:Nat}(h3:x<1000000000)(h1:2 ^ (24-1)<=x)(h2:x<2 ^ 24):24*78913/262144+(if 10 ^ (24*78913/262144)<=x then 1 else 0)=dg9 x:=by
 simp only[Nat.reduceSub,Nat.reducePow,Nat.reduceMul,Nat.reduceDiv]at h1 h2 |-
 unfold dg9
 (repeat' split)<;>omega
theorem Zcn{x:Nat}(h3:x<1000000000)(h1:2 ^ (25-1)<=x)(h2:x<2 ^ 25):25*78913/262144+(if 10 ^ (25*78913/262144)<=x then 1 else 0)=dg9 x:=by
 simp only[Nat.reduceSub,Nat.reducePow,Nat.reduceMul,Nat.reduceDiv]at h1 h2 |-
 unfold dg9
 (repeat' split)<;>omega
theorem Zco{x:Nat}(h3:x<1000000000)(h1:2 ^ (26-1)<=x)(h2:x<2 ^ 26):26*78913/262144+(if 10 ^ (26*78913/262144)<=x then 1 else 0)=dg9 x:=by
 simp only[Nat.reduceSub,Nat.reducePow,Nat.reduceMul,Nat.reduceDiv]at h1 h2 |-
 unfold dg9
 (repeat' split)<;>omega
theorem Zcp{x:Nat}(h3:x<1000000000)(h1:2 ^ (27-1)<=x)(h2:x<2 ^ 27):27*78913/262144+(if 10 ^ (27*78913/262144)<=x then 1 else 0)=dg9 x:=by
 simp only[Nat.reduceSub,Nat.reducePow,Nat.reduceMul,Nat.reduceDiv]at h1 h2 |-
 unfold dg9
 (repeat' split)<;>omega
theorem Zcq{x:Nat}(h3:x<1000000000)(h1:2 ^ (28-1)<=x)(h2:x<2 ^ 28):28*78913/262144+(if 10 ^ (28*78913/262144)<=x then 1 else 0)=dg9 x:=by
 simp only[Nat.reduceSub,Nat.reducePow,Nat.reduceMul,Nat.reduceDiv]at h1 h2 |-
 unfold dg9
 (repeat' split)<;>omega
theorem Zcr{x:Nat}(h3:x<1000000000)(h1:2 ^ (29-1)<=x)(h2:x<2 ^ 29):29*78913/262144+(if 10 ^ (29*78913/262144)<=x then 1 else 0)=dg9 x:=by
 simp only[Nat.reduceSub,Nat.reducePow,Nat.reduceMul,Nat.reduceDiv]at h1 h2 |-
 unfold dg9
 (repeat' split)<;>omega
theorem Zcs{x:Nat}(h3:x<1000000000)(h1:2 ^ (30-1)<=x)(h2:x<2 ^ 30):30*78913/262144+(if 10 ^ (30*78913/262144)<=x then 1 else 0)=dg9 x:=by
 simp only[Nat.reduceSub,Nat.reducePow,Nat.reduceMul,Nat.reduceDiv]at h1 h2 |-
 unfold dg9
 (repeat' split)<;>omega
theorem Zct{r x:Nat}(h3:x<1000000000)(h7:7<=r)(h30:r<=30)(h1:2 ^ (r-1)<=x)(h2:x<2 ^ r):r*78913/262144+(if 10 ^ (r*78913/262144)<=x then 1 else 0)=dg9 x:=by
 have hr:r=7\/r=8\/r=9\/r=10\/r=11\/r=12\/r=13\/r=14\/r=15\/r=16\/r=17\/r=18\/r=19\/r=20\/r=21\/r=22\/r=23\/r=24\/r=25\/r=26\/r=27\/r=28\/r=29\/r=30:=by omega
 rcases hr with rfl | rfl | rfl | rfl | rfl | rfl | rfl | rfl | rfl | rfl | rfl | rfl | rfl | rfl | rfl | rfl | rfl | rfl | rfl | rfl | rfl | rfl | rfl | rfl
 . exact Zj4 h3 h1 h2
 . exact Zj5 h3 h1 h2
 . exact Zj6 h3 h1 h2
 . exact Zc8 h3 h1 h2
 . exact Zc9 h3 h1 h2
 . exact Zca h3 h1 h2
 . exact Zcb h3 h1 h2
 . exact Zcc h3 h1 h2
 . exact Zcd h3 h1 h2
 . exact Zce h3 h1 h2
 . exact Zcf h3 h1 h2
 . exact Zcg h3 h1 h2
 . exact Zch h3 h1 h2
 . exact Zci h3 h1 h2
 . exact Zcj h3 h1 h2
 . exact Zck h3 h1 h2
 . exact Zcl h3 h1 h2
 . exact Zcm h3 h1 h2
 . exact Zcn h3 h1 h2
 . exact Zco h3 h1 h2
 . exact Zcp h3 h1 h2
 . exact Zcq h3 h1 h2
 . exact Zcr h3 h1 h2
 . exact Zcs h3 h1 h2
theorem zho{x:Nat}(ht:P10 h)(h0:100<=x)(hx:x<1000000000)(H:∀h',h.le h'->Ki ((dg9 x:Nat):Int) h'):zc (F.Ql (x:Int)) Ki h:=by
 refine zd (λv h'=>v=((dg9 x:Nat):Int)) (λK' hk=>?_) λb h' hl hb=>by subst hb;exact H h' hl
 unfold F.Ql
 refine zq0 (by omega) λr h1 hl1 _ hr _=>?_
 obtain⟨r1,r2,r3⟩:=hr (by omega)
 have rl:7<=r:=Nat.not_lt.1 λhh=>by
  have:2 ^ r<=2 ^ 6:=Nat.pow_le_pow_right (by decide) (by omega)
  omega
 have ru:r<=30:=Nat.not_lt.1 λhh=>by
  have:2 ^ 30<=2 ^ (r-1):=Nat.pow_le_pow_right (by decide) (by omega)
  omega
 refine zd (λv h'=>v=((r*78913/262144:Nat):Int)) (λK2 hk2=>?_) λv h2 hl2 hv=>?_
 . unfold F.X3
   refine⟨by decide,hk2 _ _ (Hp.le_refl _) ?_⟩
   have e1:i64.wrap ((r:Int)*78913)=((r*78913:Nat):Int):=by rw[w64 (by omega)];omega
   have e2:(min (18:Int).toNat i64.bits)=18:=rfl
   rw[e1,e2,fd]
 . subst hv
   obtain⟨d,hd⟩:∃d,d=r*78913/262144:=⟨_,rfl⟩
   rw[<-hd]
   have hd20:d<20:=by omega
   have hc:=(ht.le (Hp.le_trans hl1 hl2)) d hd20
   unfold z9k
   rw[decide_eq_true (p:=0<=(d:Int)/\(d:Int)<(20:Nat)) (by omega)]
   simp only
   refine⟨((10 ^ d:Nat):Int),by rw[Int.toNat_natCast,Nat.mul_one];exact hc,?_⟩
   refine zd (λv h'=>v=if (x:Int)>=((10 ^ d:Nat):Int)then 1 else 0) (λK2 hk2=>?_) λv h3 hl3 hv=>?_
   . unfold F.X2
     refine ze (λhh=>hk2 _ _ (Hp.le_refl _) (by rw[if_pos hh])) (λhh=>hk2 _ _ (Hp.le_refl _) (by rw[if_neg hh]))
   . subst hv
     refine hk _ _ (Hp.le_trans hl1 (Hp.le_trans hl2 hl3)) ?_
     have hw:i64.wrap ((d:Int)+if (x:Int)>=((10 ^ d:Nat):Int)then 1 else 0)=(d:Int)+if (x:Int)>=((10 ^ d:Nat):Int)then 1 else 0:=w64 (by split<;>omega)
     rw[hw,<-Zct hx rl ru r2 r3,<-hd]
     split<;>split<;>omega
end
end Den
end

section
namespace Den
open Go Iv Lx
theorem Z9k(z:Int):0<=u32.wrap z/\u32.wrap z<=4294967295:=by
 unfold IntKind.wrap
 simp only[IntKind.signed,IntKind.bits]
 have h1:=Int.emod_nonneg z (show((2:Int) ^ 32)≠0 by decide)
 have h2:=Int.emod_lt_of_pos z (show(0:Int)<2 ^ 32 by decide)
 exact⟨h1,by simp at h2 |-;omega⟩
theorem u8r(z:Int):∃b:UInt8,u8.wrap z=(b.toNat:Int):=by
 have h1:=Int.emod_nonneg z (show(256:Int)≠0 by decide)
 have h2:=Int.emod_lt_of_pos z (show(0:Int)<256 by decide)
 have e:u8.wrap z=z % 256:=by
  unfold IntKind.wrap
  simp only[IntKind.signed,IntKind.bits]
  rfl
 refine⟨UInt8.ofNat (z % 256).toNat,?_⟩
 rw[e,UInt8.toNat_ofNat']
 omega
theorem tm{z m:Int}(h:0<=z)(hm:0<m):0<=z.tmod m/\z.tmod m<m:=⟨Int.tmod_nonneg _ h,Int.tmod_lt_of_pos _ hm⟩
theorem td{z m k:Int}(h:0<=z)(hm:0<m)(hz:z<m*k):0<=z.tdiv m/\z.tdiv m<k:=by
 rw[Int.tdiv_eq_ediv_of_nonneg h]
 exact⟨Int.ediv_nonneg h (Int.le_of_lt hm),Int.ediv_lt_of_lt_mul hm (by rw[Int.mul_comm];exact hz)⟩
theorem w32{z:Int}(h:0<=z)(h2:z<=4294967295):u32.wrap z=z:=Zkk ⟨h,h2⟩
theorem Z5a{X:Int}{K:Int->Prop}(h:0<=X)(h2:X<=199)(H:∀b:UInt8,K (b.toNat:Int)):Qp zL1 X K:=
 Z8i h (by have:(zL1:ByteArray).size=200:=rfl;rw[this];omega) λb _=>H b
theorem zc3{X:Int}{K:Int->Prop}(h:0<=X/\X<100)(H:∀b:UInt8,K (b.toNat:Int)):Qp zL1 (u32.wrap (u32.wrap (X*2)+1)) K:=by
 refine Z5a (Z9k _).1 ?_ H
 rw[w32 (z:=X*2) (by omega) (by omega),w32 (by omega) (by omega)];omega
theorem z8r{X:Int}{K:Int->Prop}(h:0<=X/\X<100)(H:∀b:UInt8,K (b.toNat:Int)):Qp zL1 (u32.wrap (X*2)) K:=by
 refine Z5a (Z9k _).1 ?_ H
 rw[w32 (by omega) (by omega)];omega
section
variable {D h : Hp} {arr a : Sl} {bs : List UInt8} {Kt : ByteArray → Hp → Prop}
theorem Vw{i v:Int}{K:Hp->Prop}(ho:Own D h 1 arr (Xa bs))(ha:a.a=arr.a)(hal:a.len<=arr.len)(h0:0<=i)(h1:i<a.len)(hv:∃b:UInt8,v=(b.toNat:Int))
 (H:∀h' bs',Own D h' 1 arr (Xa bs')->bs'.length=bs.length->K h'):zg a i 1 λp=>stP p [.int .u8 v] K h:=by
 obtain⟨b,rfl⟩:=hv
 have hl:=ho.2.1
 rw[z38,Nat.mul_one]at hl
 have key:zg arr i 1 λp=>stP p [.int .u8 (b.toNat:Int)] K h:=by
  refine zt8 i.toNat ho (by omega) (by omega) rfl (by decide) rfl λh' ho'=>H h' (bs.set i.toNat b) ?_ (by simp)
  rw[Nat.mul_one,z3m]at ho'
  have e:Xa (bs.set i.toNat b)=(Xa bs).take i.toNat++.int .u8 (b.toNat:Int) :: (Xa bs).drop (i.toNat+1):=by
   unfold Xa
   rw[List.map_set,List.set_eq_take_append_cons_drop,if_pos (by simp;omega)]
  rw[e];exact ho'
 obtain⟨k1,k2,k3⟩:=key
 refine⟨h0,h1,?_⟩
 rw[ha];exact k3
theorem Z8d{u:Int}{K:Unit->Hp->Prop}(ho:Own D h 1 arr (Xa bs))(ha:a.a=arr.a)(hal:a.len<=arr.len)(hlen:a.len<=1000)(hu:0<=u)(H:∀h' bs',Own D h' 1 arr (Xa bs')->bs'.length=bs.length->K () h'):F.ql a u K h:=by
 unfold F.ql
 refine y9 (λst h'=>0<=st.1/\0<=st.2.1/\st.2.1<=a.len/\∃cs,Own D h' 1 arr (Xa cs)/\cs.length=bs.length) (λst=>st.2.1.toNat) ⟨hu,by simp only;omega,Int.le_refl _,bs,ho,rfl⟩ ?_
 rintro⟨u,i,_⟩ g ⟨hu0,hi0,hi1,cs,ho,hcs⟩
 simp only at hu0 hi0 hi1
 have w:∀k:Int,0<=k->k<=8->i64.wrap (i-k)=i-k:=λk _ _=>w64 (by omega)
 refine ze (λh8=>?_) (λh8=>?_)
 . simp only at h8 |-
   refine⟨by decide,by decide,by decide,by decide,by decide,by decide,by decide,by decide,?_⟩
   obtain⟨A,hA⟩:∃A,A=u32.wrap (u.tmod 100000000):=⟨_,rfl⟩
   have a1:=tm (m:=100000000) hu0 (by decide)
   have eA:A=u.tmod 100000000:=by rw[hA,w32 (by omega) (by omega)]
   rw[<-hA]
   have A0:0<=A:=by omega
   have b1:=tm (m:=10000) A0 (by decide)
   have c1:=tm (m:=100) b1.1 (by decide)
   have d1:=td (m:=100) (k:=100) b1.1 (by decide) (by omega)
   have e1:=td (m:=10000) (k:=10000) A0 (by decide) (by omega)
   rw[w32 (z:=(A.tmod 10000).tdiv 100) (by omega) (by omega),w32 (z:=A.tdiv 10000) (by omega) (by omega)]
   have f1:=tm (m:=100) e1.1 (by decide)
   have g1:=td (m:=100) (k:=100) e1.1 (by decide) (by omega)
   rw[w32 (z:=(A.tdiv 10000).tdiv 100) (by omega) (by omega)]
   refine zc3 c1 λx1=>z8r c1 λx2=>?_
   refine Vw ho ha hal (by rw[w _ (by decide) (by decide)];omega) (by rw[w _ (by decide) (by decide)];omega) ⟨_,rfl⟩ λh1 s1 o1 q1=>?_
   refine Vw o1 ha hal (by rw[w _ (by decide) (by decide)];omega) (by rw[w _ (by decide) (by decide)];omega) ⟨_,rfl⟩ λh2 s2 o2 q2=>?_
   refine zc3 d1 λx3=>z8r d1 λx4=>?_
   refine Vw o2 ha hal (by rw[w _ (by decide) (by decide)];omega) (by rw[w _ (by decide) (by decide)];omega) ⟨_,rfl⟩ λh3 s3 o3 q3=>?_
   refine Vw o3 ha hal (by rw[w _ (by decide) (by decide)];omega) (by rw[w _ (by decide) (by decide)];omega) ⟨_,rfl⟩ λh4 s4 o4 q4=>?_
   refine zc3 f1 λx5=>z8r f1 λx6=>?_
   refine Vw o4 ha hal (by rw[w _ (by decide) (by decide)];omega) (by rw[w _ (by decide) (by decide)];omega) ⟨_,rfl⟩ λh5 s5 o5 q5=>?_
   refine Vw o5 ha hal (by rw[w _ (by decide) (by decide)];omega) (by rw[w _ (by decide) (by decide)];omega) ⟨_,rfl⟩ λh6 s6 o6 q6=>?_
   refine zc3 g1 λx7=>z8r g1 λx8=>?_
   refine Vw o6 ha hal (by rw[w _ (by decide) (by decide)];omega) (by rw[w _ (by decide) (by decide)];omega) ⟨_,rfl⟩ λh7 s7 o7 q7=>?_
   refine Vw o7 ha hal (by rw[w _ (by decide) (by decide)];omega) (by rw[w _ (by decide) (by decide)];omega) ⟨_,rfl⟩ λh9 s9 o9 q9=>?_
   refine⟨⟨?_,?_,?_,s9,o9,by omega⟩,?_⟩
   . show 0<=u64.wrap _
     unfold IntKind.wrap
     simp only[IntKind.signed,IntKind.bits]
     exact Int.emod_nonneg _ (by decide)
   . show 0<=i64.wrap _;rw[w _ (by decide) (by decide)];omega
   . show i64.wrap _<=_;rw[w _ (by decide) (by decide)];omega
   . show(i64.wrap _).toNat<i.toNat;rw[w _ (by decide) (by decide)];omega
 . simp only at h8 |-
   obtain⟨U,hU⟩:∃U,U=u32.wrap u:=⟨_,rfl⟩
   have uU:=Z9k u
   rw[<-hU]at uU |-
   refine zk (λs h'=>0<=s.1/\s.1<=a.len/\s.1<4/\0<=s.2.1/\∃cs,Own D h' 1 arr (Xa cs)/\cs.length=bs.length) ?_ ?_
   . rintro⟨j,v,_⟩ g2 ⟨j0,j1,j4,v0,cs2,o2,q2⟩
     simp only at j0 j1 j4 v0 |-
     have w2:∀k:Int,0<=k->k<=8->i64.wrap (j-k)=j-k:=λk _ _=>w64 (by omega)
     refine zk (λs h'=>s.1<=a.len/\∃cs,Own D h' 1 arr (Xa cs)/\cs.length=bs.length) ?_ ?_
     . rintro⟨m,v,_⟩ g3 ⟨m1,cs3,o3,q3⟩
       simp only at m1 |-
       refine ze (λh5=>?_) (λ_=>H _ _ o3 q3)
       exact Vw o3 ha hal (by decide) (by omega) (u8r _) λh6 s6 o6 q6=>H _ _ o6 (by omega)
     . refine ze (λh5=>?_) (λ_=>⟨j1,cs2,o2,q2⟩)
       have c1:=tm (m:=100) v0 (by decide)
       refine⟨by decide,by decide,zc3 c1 λx1=>z8r c1 λx2=>?_⟩
       refine Vw o2 ha hal (by rw[w2 _ (by decide) (by decide)];omega) (by rw[w2 _ (by decide) (by decide)];omega) ⟨_,rfl⟩ λh6 s6 o6 q6=>?_
       refine Vw o6 ha hal (by rw[w2 _ (by decide) (by decide)];omega) (by rw[w2 _ (by decide) (by decide)];omega) ⟨_,rfl⟩ λh7 s7 o7 q7=>?_
       exact⟨by show i64.wrap _<=_;rw[w2 _ (by decide) (by decide)];omega,s7,o7,by omega⟩
   . refine ze (λh4=>?_) (λh4=>⟨hi0,hi1,by simp only;omega,uU.1,cs,ho,hcs⟩)
     have b1:=tm (m:=10000) uU.1 (by decide)
     have c1:=tm (m:=100) b1.1 (by decide)
     have d1:=td (m:=100) (k:=100) b1.1 (by decide) (by omega)
     refine⟨by decide,by decide,by decide,by decide,?_⟩
     rw[w32 (z:=(U.tmod 10000).tdiv 100) (by omega) (by omega)]
     refine zc3 c1 λx1=>z8r c1 λx2=>?_
     refine Vw ho ha hal (by rw[w _ (by decide) (by decide)];omega) (by rw[w _ (by decide) (by decide)];omega) ⟨_,rfl⟩ λh1 s1 o1 q1=>?_
     refine Vw o1 ha hal (by rw[w _ (by decide) (by decide)];omega) (by rw[w _ (by decide) (by decide)];omega) ⟨_,rfl⟩ λh2 s2 o2 q2=>?_
     refine zc3 d1 λx3=>z8r d1 λx4=>?_
     refine Vw o2 ha hal (by rw[w _ (by decide) (by decide)];omega) (by rw[w _ (by decide) (by decide)];omega) ⟨_,rfl⟩ λh3 s3 o3 q3=>?_
     refine Vw o3 ha hal (by rw[w _ (by decide) (by decide)];omega) (by rw[w _ (by decide) (by decide)];omega) ⟨_,rfl⟩ λh5 s5 o5 q5=>?_
     refine⟨?_,?_,?_,(Z9k _).1,s5,o5,by omega⟩
     . show 0<=i64.wrap _;rw[w _ (by decide) (by decide)];omega
     . show i64.wrap _<=_;rw[w _ (by decide) (by decide)];omega
     . show i64.wrap _<4;rw[w _ (by decide) (by decide)];omega
theorem zdy(n:Nat):1<=dg9 n/\dg9 n<=9:=by
 unfold dg9
 (repeat' split)<;>omega
theorem zfr{x:Nat}(ht:P10 h)(hx:x<1000000000)(H:∀s h',h.le h'->s.size=dg9 x->Kt s h'):zc (F.Wb (x:Int) 10) Kt h:=by
 refine zd (λs h'=>s.size=dg9 x) (λK' hk=>?_) λb h' hl hb=>H b h' hl hb
 unfold F.Wb
 refine zd (λs h'=>s.size=dg9 x) (λK2 hk2=>?_) λb h' hl hb=>hk _ _ hl hb
 unfold F.Xt
 refine Z9 rfl ?_
 refine ze (λh1=>?_) (λh1=>?_)
 . rw[Zim (by omega)]
   refine zd (λs h'=>s.size=dg9 x) (λK3 hk3=>?_) λb h' hl hb=>hk2 _ _ hl hb
   unfold F.Vn
   refine ze (λh2=>?_) (λh2=>?_)
   . rw[w64 (by omega)]
     refine zak (by omega) (by omega) (by have:(zL6:ByteArray).size=36:=rfl;rw[this];omega) λt ht _=>hk3 _ _ (Hp.le_refl _) ?_
     unfold dg9
     rw[if_pos (by omega)];omega
   . rw[w64 (n:=(x:Int)*2) (by omega),w64 (by omega)]
     refine zak (by omega) (by omega) (by have:(zL1:ByteArray).size=200:=rfl;rw[this];omega) λt ht _=>hk3 _ _ (Hp.le_refl _) ?_
     unfold dg9
     rw[if_neg (by omega),if_pos (by omega)];omega
 . have d9:=zdy x
   refine z6w (n:=24) (size:=1) rfl λb h2 hb ho=>?_
   refine zho (ht.le ho.1) (by omega) hx λh3 hl3=>?_
   have ho3:=ho.le hl3
   refine⟨by decide,by omega,by simp only;omega,?_⟩
   refine Qe ?_
   obtain⟨arr,harr⟩:∃arr:Sl,arr=⟨some ⟨b,0,none⟩,24,24⟩:=⟨_,rfl⟩
   rw[<-harr]at ho3 |-
   have ea:(arr.cut (0:Int).toNat ((dg9 x:Nat):Int).toNat 1).a=arr.a:=by rw[harr];rfl
   have el:(arr.cut (0:Int).toNat ((dg9 x:Nat):Int).toNat 1).len=dg9 x:=by show((dg9 x:Nat):Int).toNat-0=_;omega
   have al:arr.len=24:=by rw[harr]
   refine Z8d (bs:=List.replicate 24 0) ho3 ea (by omega) (by omega) (by omega) λh4 bs ho4 hbs=>?_
   rw[List.length_replicate]at hbs
   refine⟨by decide,by omega,by rw[harr];simp only;omega,bs.take (dg9 x),?_,hk2 _ _ ho4.1 ?_⟩
   . rw[ea,el,harr]
     have hr:=ho4.rd.2
     rw[z38,hbs,harr]at hr
     have key:∀{m n:Nat} {L:List Value} {a:Addr},Zz h4 a m=some L->n<=m->Zz h4 a n=some (L.take n):=by
      intro m
      induction m with
      | zero=>
        intro n L a e hn
        have:n=0:=by omega
        subst this;simp[Zz]
      | succ m ih=>
        intro n L a e hn
        have hl:=z21 e
        by_cases h1:n=m+1
        . subst h1;rw[e,List.take_of_length_le (by omega)]
        . unfold Zz at e
          split at e
          . rename_i l1 h2
            split at e
            . rename_i v hv
              simp only[Option.some.injEq]at e
              subst e
              have h3:=z21 h2
              rw[ih h2 (show n<=m by omega),List.take_append_of_le_length (by omega)]
            . cases e
          . cases e
     have:=key hr (n:=dg9 x) (by omega)
     unfold Xa at this
     rw[List.map_take];exact this
   . show(bs.take (dg9 x)).toArray.size=_
     simp;omega
end
end Den
end

section
namespace Den
open Go Iv
section
variable {h : Hp} {l : Sl} {B : Nat} {xs : List TRat} {vs : List Rat} {v0 : Rat} {KV : TInterval → Hp → Prop} {Ks : Sl → Hp → Prop}
abbrev q8(s:Bool×Sl×Bool×Sl×Bool×Sl×Bool×Sl×Unit):TInterval:=⟨⟨⟨s.1,s.2.1⟩,⟨s.2.2.1,s.2.2.2.1⟩⟩,⟨⟨s.2.2.2.2.1,s.2.2.2.2.2.1⟩,⟨s.2.2.2.2.2.2.1,s.2.2.2.2.2.2.2.1⟩⟩⟩
end
end Den
end

section
namespace Iv
open Den
def hi4(a b c d:Rat):Rat:=[b,c,d].foldl hiS a
end Iv
namespace Den
open Go Iv
section
variable {h : Hp} {a b : TInterval} {x : TRat} {p al au bl bu : Rat} {j k : Nat} {Ki : Int → Hp → Prop} {Kb : Bool → Hp → Prop} {KR : TRat → Hp → Prop} {KV : TInterval → Hp → Prop} {KVE : (TInterval × Int) → Hp → Prop} {KIB : (Int × Bool) → Hp → Prop} {KVB : (TInterval × Bool) → Hp → Prop}
theorem Zba:BR 1 ((1:Int):Rat):=⟨by unfold Lt;decide,by unfold Lt;decide⟩
end
end Den
end

section
namespace Iv
open Den
end Iv
end

section
namespace Den
open Go Iv
section
variable {h : Hp} {a b : TInterval} {x : TRat} {y : TInt} {p al au bl bu : Rat} {N : Int} {j k : Nat} {Ki : Int → Hp → Prop} {Kb : Bool → Hp → Prop} {KI : TInt → Hp → Prop} {KR : TRat → Hp → Prop} {KV : TInterval → Hp → Prop} {KVE : (TInterval × Int) → Hp → Prop} {KIB : (Int × Bool) → Hp → Prop} {KVB : (TInterval × Bool) → Hp → Prop}
end
end Den
end

section
namespace Iv
end Iv
namespace Den
open Go Iv
section
variable {h : Hp} {a b : TInterval} {x : TRat} {y : TInt} {p al au bl bu : Rat} {j k : Nat} {KVE : (TInterval × Int) → Hp → Prop}
end
end Den
end

section
namespace Den
open Go Iv
def AI(h:Hp)(a:TInt):Prop:=∃l,RdW h a.mag l/\okW l
def AR(h:Hp)(x:TRat):Prop:=AI h x.num/\AI h x.den
theorem AI.le{h h':Hp}{a:TInt}(ha:AI h a)(hl:h.le h'):AI h' a:=by obtain⟨l,h1,h2⟩:=ha;exact⟨l,h1.le hl,h2⟩
theorem AR.le{h h':Hp}{x:TRat}(hx:AR h x)(hl:h.le h'):AR h' x:=⟨hx.1.le hl,hx.2.le hl⟩
theorem Z7i:∀{l m:List Nat},wc l=wc m->l=m
 | [],[],_=>rfl
 | [],_ :: _,h=>by simp[wc]at h
 | _ :: _,[],h=>by simp[wc]at h
 | x :: r,y :: t,h=>by
   simp only[wc,List.map_cons,List.cons.injEq,Value.int.injEq,true_and]at h
   rw[Z7i (l:=r) (m:=t) h.2,show x=y by omega]
theorem RdW.uniq{h:Hp}{x:Sl}{l m:List Nat}(h1:RdW h x l)(h2:RdW h x m):l=m:=by
 have a1:=h1.1
 have a2:=h2.1
 have e:(wc l).length=(wc m).length:=by rw[<-a1.1,<-a2.1]
 have b1:=a1.2
 have b2:=a2.2
 rw[e,b2]at b1
 exact(Z7i (Option.some.inj b1)).symm
theorem NI.inj{h:Hp}{a:TInt}{m n:Int}(h1:NI h a m)(h2:NI h a n):m=n:=by
 have e:=Zbz (h1.1.uniq h2.1)
 have e2:decide (m<0)=decide (n<0):=by rw[<-h1.2,<-h2.2]
 have e3:m<0↔n<0:=by simpa using e2
 omega
theorem Zbb{h:Hp}{a:TInt}{l:List Nat}(hr:RdW h a.mag l)(ok:okW l):(∃n,NI h a n)↔Q3 l=l/\(a.neg=true->l≠[]):=by
 constructor
 . rintro⟨n,hn⟩
   have e:=hr.uniq hn.1
   subst e
   refine⟨zvd _,λhneg he=>?_⟩
   rw[hn.2]at hneg
   have h1:n<0:=by simpa using hneg
   have:=z2g.1 he
   omega
 . rintro⟨h1,h2⟩
   have e:=zvz ok h1
   refine⟨sg a.neg (vl l),?_,?_⟩
   . rw[zmh,<-e];exact hr
   . cases hb:a.neg with
     | false=>simp[sg]
     | true=>
       have h3:=h2 hb
       have h4:vl l≠0:=λh0=>h3 (by rw[e,h0,Qv])
       simp[sg];omega
theorem Zbc{h:Hp}{x:TRat}{m n:Int}(h1:NI h x.num m)(h2:NI h x.den n):(∃q,NR h x q)↔0<n/\Nat.gcd m.natAbs n.natAbs=1:=by
 constructor
 . rintro⟨q,hq⟩
   have e1:=h1.inj hq.1
   have e2:=h2.inj hq.2
   subst e1 e2
   exact⟨Zkq q,by rw[zsj];exact q.reduced⟩
 . rintro⟨h3,h4⟩
   have hnn:n.toNat=n.natAbs:=by omega
   refine⟨⟨m,n.toNat,by omega,by rw[hnn];exact h4⟩,h1,?_⟩
   show NI h x.den ((n.toNat:Nat):Int)
   rw[Int.toNat_of_nonneg (by omega)];exact h2
section
variable {h : Hp} {a : TInt} {x : TRat} {v : TInterval} {Kb : Bool → Hp → Prop}
theorem Z6n{l:List Nat}{n:Nat}(hn:l.length=n+1):Q3 l=l↔l[n]≠0:=by
 have e:l=l.take n++[l[n]]:=by
  have:=List.take_succ_eq_append_getElem (l:=l) (i:=n) (by omega)
  rw[List.take_of_length_le (by omega)]at this
  exact this
 constructor
 . intro h1 h0
   have h2:Q3 l=Q3 (l.take n):=by
    conv=>lhs;rw[e,h0]
    exact z6j _
   have h3:=Z6o (l.take n)
   rw[<-h2,h1,List.length_take]at h3
   omega
 . intro h0
   conv=>lhs;rw[e]
   rw[z7f _ h0]
   exact e.symm
theorem zgb(ha:AI h a)(hl:a.mag.len<=35184372087808)(H1:∀n,NI h a n->Kb true h)(H0:(¬∃n,NI h a n)->Kb false h):zc (F.z1d a) Kb h:=by
 obtain⟨l,hr,ok⟩:=ha
 have ll:=hr.len
 have hiff:=Zbb hr ok
 refine zd (λb h'=>h'=h/\(b=true/\(∃n,NI h a n)\/b=false/\¬∃n,NI h a n)) (λK' hk=>?_) λb h' _ ⟨e,hv⟩=>by
  subst e
  rcases hv with ⟨rfl,n,hn⟩ | ⟨rfl,hn⟩
  . exact H1 n hn
  . exact H0 hn
 unfold F.z1d
 refine Za (λh1=>?_) (λh1=>?_)
 . have hnil:l=[]:=List.length_eq_zero_iff.1 (by omega)
   refine zp (λh2=>?_) (λh2=>?_)
   . refine hk _ _ (Hp.le_refl _) ⟨rfl,.inl ⟨rfl,hiff.2 ⟨by rw[hnil];rfl,λhn=>?_⟩⟩⟩
     rw[hn]at h2;cases h2
   . have hneg:a.neg=true:=by simpa using h2
     refine ze (λh3=>by omega) (λh3=>hk _ _ (Hp.le_refl _) ⟨rfl,.inr ⟨rfl,λhn=>(hiff.1 hn).2 hneg hnil⟩⟩)
 . obtain⟨n,hn⟩:∃n,l.length=n+1:=⟨l.length-1,by omega⟩
   refine ze (λh3=>?_) (λh3=>by omega)
   refine Yz n hr (by rw[ll,hn,w64 (by omega)];omega) (by omega) λu hu=>⟨_,hu,hk _ _ (Hp.le_refl _) ⟨rfl,?_⟩⟩
   have htt:=Z6n hn
   by_cases h4:l[n]=0
   . refine .inr ⟨by rw[h4];rfl,λhh=>(htt.1 (hiff.1 hh).1) h4⟩
   . refine .inl ⟨by simp;omega,hiff.2 ⟨htt.2 h4,λ_ he=>by rw[he]at hn;simp at hn⟩⟩
theorem zm3{n:Int}(ha:NI h a n)(hl:a.mag.len<=35184372087808):(dg n.natAbs).length<=35184372087808:=by have:=ha.len;omega
theorem z9w(hx:AR h x)(hl1:x.num.mag.len<=35184372087808)(hl2:x.den.mag.len<=35184372087808)(H1:∀q h',h.le h'->NR h x q->Kb true h')(H0:∀h',h.le h'->(¬∃q,NR h x q)->Kb false h'):zc (F.qt x) Kb h:=by
 refine zd (λb h'=>b=true/\(∃q,NR h x q)\/b=false/\¬∃q,NR h x q) (λK' hk=>?_) λb h' hl hv=>by
  rcases hv with ⟨rfl,n,hn⟩ | ⟨rfl,hn⟩
  . exact H1 n h' hl hn
  . exact H0 h' hl hn
 unfold F.qt
 refine zgb hx.1 hl1 (λm hm=>Z9 rfl (zgb hx.2 hl2 (λn hn=>Z9 rfl ?_) (λhn=>zt rfl (hk _ _ (Hp.le_refl _) (.inr ⟨rfl,λ⟨q,hq⟩=>hn ⟨_,hq.2⟩⟩))))) (λhn=>zt rfl (hk _ _ (Hp.le_refl _) (.inr ⟨rfl,λ⟨q,hq⟩=>hn ⟨_,hq.1⟩⟩)))
 have hiff:=Zbc hm hn
 have s:=z6a n
 refine zbj hn (zm3 hn hl2) (ze (λh1=>?_) (λh1=>hk _ _ (Hp.le_refl _) (.inr ⟨rfl,λhh=>by have:=(hiff.1 hh).1;omega⟩)))
 refine zjf hm hn (zm3 hm hl1) (zm3 hn hl2) λz h2 hl hz=>z3d hz (hk _ _ hl ?_)
 by_cases h3:Nat.gcd m.natAbs n.natAbs=1
 . exact .inl ⟨decide_eq_true (by rw[h3];rfl),hiff.2 ⟨by omega,h3⟩⟩
 . exact .inr ⟨decide_eq_false (λhh=>h3 (by omega)),λhh=>h3 (hiff.1 hh).2⟩
theorem Zis{q:Rat}{k:Nat}(hq:NR h x q)(h1:x.num.mag.len<=k)(h2:x.den.mag.len<=k):BR k q:=by
 have e1:=hq.1.len
 have e2:=hq.2.len
 exact⟨Xm.1 (by omega),Xm.1 (by omega)⟩
end
end Den
end

section
namespace Den
open Go Iv Lx
theorem zcw{S:Type}{body:S->(S->Hp->Prop)->Hp->Prop}{s0:S}{h0:Hp}(J:Nat->S->Hp->Prop){n0:Nat}(h1:J n0 s0 h0)
 (h2:∀n s h,J n s h->∀K:S->Hp->Prop,(∀n' s' h',n'<n->J n' s' h'->K s' h')->body s K h):zr body s0 h0:=by
 have least:∀s h,(∃n,J n s h)->∃n,J n s h/\∀m,J m s h->n<=m:=by
  rintro s h ⟨n,hn⟩
  induction n using Nat.strongRecOn with
  | _ n ih=>
    by_cases hh:∃m,m<n/\J m s h
    . obtain⟨m,g1,g2⟩:=hh;exact ih m g1 g2
    . exact⟨n,hn,λm hm=>Nat.not_lt.1 λhlt=>hh ⟨m,hlt,hm⟩⟩
 classical
 obtain⟨μ,hμ⟩:∃μ:S->Hp->Nat,∀s h,(∃n,J n s h)->J (μ s h) s h/\∀m,J m s h->μ s h<=m:=
  ⟨λs h=>if hh:∃n,J n s h then (least s h hh).choose else 0,λs h hh=>by
   simp only[dif_pos hh]
   exact(least s h hh).choose_spec⟩
 refine⟨λs h=>∃n,J n s h,μ,⟨n0,h1⟩,λs h hI=>?_⟩
 obtain⟨g1,g2⟩:=hμ s h hI
 exact h2 _ s h g1 _ λn' s' h' hlt hJ=>⟨⟨n',hJ⟩,Nat.lt_of_le_of_lt ((hμ s' h' ⟨n',hJ⟩).2 n' hJ) hlt⟩
section
variable {h0 h : Hp} {x y : Sl} {l : List Nat} {Ks : Sl → Hp → Prop} {Kt : ByteArray → Hp → Prop}
theorem zgr(x:Sl)(n size:Nat):(x.cut 0 n size).a=x.a:=by
 show(if x.cap=0 then x.a else x.a.map (·.add (0*size)))=x.a
 split
 . rfl
 . cases x.a with
   | none=>rfl
   | some a=>simp only[Option.map_some,Nat.zero_mul,Zq]
theorem Own.pre{cs:List Value}(ho:Own h0 h 1 x cs){n:Nat}(hn:n<=x.len):Own h0 h 1 (x.cut 0 n 1) (cs.take n):=by
 have hc:=ho.2.2.1
 obtain⟨g1,g2,g3,g4⟩:=ho
 refine⟨g1,?_,?_,?_⟩
 . show(n-0)*1=_
   rw[List.length_take];omega
 . show n-0<=x.cap-0;omega
 . rw[zgr]
   cases ha:x.a with
   | none=>
     rw[ha]at g4
     simp only at g4 |-
     show x.cap-0=0;omega
   | some a=>
     rw[ha]at g4
     obtain⟨k1,k2,k3,b,k4,k5,k6,k7⟩:=g4
     refine⟨k1,k2,k3,b,k4,k5,k6,?_⟩
     have e:(cs.take n).length=n:=by rw[List.length_take];omega
     rw[e]
     have:=congrArg (List.take n) k7
     rw[List.take_take,Nat.min_eq_left (by omega)]at this
     exact this
theorem ztw(ho:qf h0 h x l)(hl:l.length<4611686018427387904)(H:∀y,qf h0 h y (Q3 l)->y.a=x.a->Ks y h):zc (F.zv x) Ks h:=by
 refine zd (λy h'=>h'=h/\qf h0 h y (Q3 l)/\y.a=x.a) (λK' hk=>?_) λy h' _ ⟨e,hy,ha⟩=>by subst e;exact H y hy ha
 unfold F.zv
 refine y9 (λst h'=>h'=h/\∃(y:Sl) (k:Nat),st=(y,())/\k<=l.length/\qf h0 h y (l.take k)/\Q3 (l.take k)=Q3 l/\y.a=x.a) (λst=>st.1.len)
  ⟨rfl,x,l.length,rfl,Nat.le_refl _,by rw[List.take_of_length_le (Nat.le_refl _)];exact ho,by rw[List.take_of_length_le (Nat.le_refl _)],rfl⟩ ?_
 rintro st h' ⟨rfl,y,k,rfl,hk2,hy,ht,ha⟩
 have hyl:=qf.len hy
 rw[List.length_take,Nat.min_eq_left hk2]at hyl
 refine zk (λ_ h1=>h1=h'/\∃j,k=j+1/\∃hj:j<l.length,l[j]=0) ?_ ?_
 . rintro _ h1 ⟨rfl,j,rfl,hj,h0⟩
   have hc:=hy.2.2.1
   refine⟨by decide,by simp only;rw[hyl,w64 (by omega)];omega,by simp only;rw[hyl,w64 (by omega)];omega,?_⟩
   have e:(i64.wrap ((y.len:Int)-1)).toNat=j:=by rw[hyl,w64 (by omega)];omega
   show((_/\_)/\_)
   rw[e]
   have hp:=hy.pre (n:=j) (by omega)
   have e2:(wc (l.take (j+1))).take j=wc (l.take j):=by
    unfold wc;rw[<-List.map_take,List.take_take];congr 2;omega
   rw[e2]at hp
   refine⟨⟨rfl,_,j,rfl,by omega,hp,?_,by rw[<-ha];exact zgr _ _ _⟩,?_⟩
   . rw[<-ht,List.take_succ_eq_append_getElem hj,h0,z6j]
   . show j-0<y.len;omega
 . refine ze (λh1=>?_) (λh1=>?_)
   . simp only at h1
     obtain⟨j,rfl⟩:∃j,k=j+1:=⟨k-1,by omega⟩
     have hj:j<l.length:=by omega
     refine Yz j (qf.rdW hy) (by simp only;rw[hyl,w64 (by omega)];omega) (by rw[List.length_take];omega) λa ha2=>⟨_,ha2,?_⟩
     have e:(l.take (j+1))[j]'(by rw[List.length_take];omega)=l[j]:=by simp
     rw[e]
     refine Za (λh2=>⟨rfl,j,rfl,hj,by omega⟩) (λh2=>?_)
     have h3:l[j]≠0:=by omega
     have:Q3 (l.take (j+1))=l.take (j+1):=by
      rw[List.take_succ_eq_append_getElem hj,z7f _ h3]
     refine hk _ _ (Hp.le_refl _) ⟨rfl,?_,ha⟩
     rw[<-ht,this];exact hy
   . simp only at h1
     have:k=0:=by omega
     subst this
     refine hk _ _ (Hp.le_refl _) ⟨rfl,?_,ha⟩
     rw[<-ht];exact hy
theorem z95(hr:RdW h x l)(hl:l.length<=35184372088800)(H:∀y h',qf h h' y l->Ks y h'):zc (F.Zg x) Ks h:=by
 refine zd (λy h'=>qf h h' y l) (λK' hk=>?_) λy h' _ hy=>H y h' hy
 unfold F.Zg
 have hlen:=hr.len
 refine zp (λh1=>?_) (λh1=>?_)
 . have hn:x.a=none:=by cases hx:x.a with | none=>rfl | some a=>rw[hx]at h1;cases h1
   have:l=[]:=by
    have h2:=hr.1.2
    rw[hn]at h2
    simp only[Z3]at h2
    split at h2
    . rename_i h3;rw[z7g]at h3;exact List.length_eq_zero_iff.1 h3
    . cases h2
   subst this
   exact hk _ _ (Hp.le_refl _) (Own.nil (Hp.le_refl _))
 . refine z6w (n:=0) (size:=1) rfl λb h1 hb ho=>?_
   have hr1:=hr.le ho.1
   refine⟨wc l,?_,?_⟩
   . have:=hr1.1.2
     rw[z7g]at this
     rw[hlen,Nat.mul_one];exact this
   . refine z3r ho (n:=x.len) (by rw[z7g];omega) rfl ?_ (by simp only;omega) (by simp only;omega) λy h2 hy _=>hk _ _ hy.1 hy
     simp[wc,Value.leaf]
theorem zcc{h0 h:Hp}{size bytes n:Nat}{zero new cs:List Value}{x:Sl}{K:Sl->Hp->Prop}(ho:Own h0 h size x cs)(hn:new.length=n*size)(hz:zero.length=size)
 (hleaf:new.all Value.leaf=true) (hb:(x.len+n)*bytes<=140737488355328) (hb2:x.len+n<=140737488355328)
 (H:∀y h',Own h0 h' size y (cs++new)->y.len=x.len+n->(∀j,h j≠none->(∀a,x.a=some a->j≠a.block)->h' j=h j)->(∀a,y.a=some a->(∃a',x.a=some a'/\a'.block=a.block)\/h a.block=none)->K y h'):Y6 size bytes zero x n new K h:=by
 have hrd:=ho.rd
 obtain⟨h1,h2,h3,h4⟩:=ho
 refine⟨hb,hb2,λhfit=>?_,λhgrow=>?_⟩
 . cases ha:x.a with
   | none=>
     rw[ha]at h4
     simp only at h4
     have hn0:n=0:=by omega
     have hnew:new=[]:=by
      cases new with
      | nil=>rfl
      | cons a b=>rw[hn0]at hn;simp at hn
     subst hnew hn0
     simp only[stO]
     refine H _ _ ⟨h1,?_,?_,?_⟩ rfl (λj _ _=>rfl) (λa hh=>by cases hh)
     . simpa using h2
     . show x.len+0<=x.cap;omega
     . show x.cap=0;exact h4
   | some a=>
     rw[ha]at h4
     obtain⟨g1,g2,g3,b,g4,g5,g6,g7⟩:=h4
     have e1:(x.len+n)*size=cs.length+new.length:=by rw[Nat.add_mul,h2,hn]
     have e2:cs.length+new.length<=b.cells.length:=by rw[g6,<-e1];exact Nat.mul_le_mul_right _ hfit
     simp only[stO]
     refine⟨b,by rw[Yi];exact g4,V1 g2 _,g5,?_,hleaf,?_⟩
     . rw[Xr];omega
     . rw[Yi,Xr,g1,Nat.zero_add,h2]
       refine H _ _ ⟨?_,?_,hfit,?_⟩ rfl (λj hj hne=>Hp.ins_ne (hne a ha)) (λa' hh=>by cases hh;exact .inl ⟨a,ha,rfl⟩)
       . intro k bk hk
         rw[Hp.ins_ne (λhh=>by subst hh;rw[g3]at hk;cases hk)]
         exact h1 k bk hk
       . show(x.len+n)*size=_;rw[List.length_append];exact e1
       . refine⟨g1,g2,g3,_,Hp.ins_same _ _ _,g5,?_,?_⟩
         . show(z8 b.cells cs.length new).length=_
           rw[Yb (by omega)];exact g6
         . show(z8 b.cells cs.length new).take _=cs++new
           unfold z8
           rw[g7,List.length_append,List.take_append_of_le_length (by rw[List.length_append];exact Nat.le_refl _),List.take_of_length_le (by rw[List.length_append];exact Nat.le_refl _)]
 . refine⟨cs,?_,λbk e c hc hfr=>?_⟩
   . rw[h2];exact hrd.2
   . refine H _ _ ⟨Hp.le_trans h1 (Hp.le_ins hfr),?_,hc,?_⟩ rfl (λj hj _=>Hp.ins_ne λhh=>hj (by rw[hh];exact hfr)) (λa' hh=>by cases hh;exact .inr hfr)
     . show(x.len+n)*size=_;rw[List.length_append,Nat.add_mul,h2,hn]
     . refine⟨rfl,rfl,?_,_,Hp.ins_same _ _ _,rfl,?_,?_⟩
       . cases hk:h0 bk with
         | none=>rfl
         | some b=>have:=h1 _ _ hk;rw[hfr]at this;cases this
       . show(cs++new++Z6 (c-(x.len+n)) zero).length=c*size
         have hr:(Z6 (c-(x.len+n)) zero).length=(c-(x.len+n))*size:=by
          unfold Z6
          simp[hz]
         rw[List.length_append,List.length_append,hr,hn,<-h2,<-Nat.add_mul,<-Nat.add_mul]
         congr 1;omega
       . show(cs++new++Z6 (c-(x.len+n)) zero).take _=cs++new
         rw[List.take_append_of_le_length (by simp)]
         exact List.take_of_length_le (Nat.le_refl _)
theorem Z5c{l:List Nat}{i v:Int}{K:Hp->Prop}(k n:Nat)(ho:qf h0 h x l)(hi:i=k)(hk:k<l.length)(hv:v=n)
 (H:∀h',qf h0 h' x (l.set k n)->(∀j,(∀a,x.a=some a->j≠a.block)->h' j=h j)->K h'):zg x i 1 λa=>stP a [.int .u32 v] K h:=by
 subst hv
 refine zv6 k ho hi (by rw[qf.len ho];exact hk) rfl (by decide) rfl λh' h1 h2=>H h' ?_ h2
 rw[Nat.mul_one]at h1
 have e:wc (l.set k n)=z8 (wc l) k [Value.int .u32 (n:Int)]:=by
  rw[z3m]
  unfold wc
  rw[List.map_set,List.set_eq_take_append_cons_drop,if_pos (by simpa using hk)]
 unfold qf
 rw[e];exact h1
theorem zoo{h':Hp}{size:Nat}{cs:List Value}(ho:Own h0 h size y cs)(hap:Apt x y)(hs:∀j,h j≠none->(∀a,x.a=some a->j≠a.block)->h' j=h j)(hl:h0.le h'):Own h0 h' size y cs:=by
 obtain⟨g1,g2,g3,g4⟩:=ho
 refine⟨hl,g2,g3,?_⟩
 cases ha:y.a with
 | none=>rw[ha]at g4;exact g4
 | some a=>
   rw[ha]at g4
   obtain⟨k1,k2,k3,b,k4,k5⟩:=g4
   refine⟨k1,k2,k3,b,?_,k5⟩
   rw[hs a.block (by rw[k4];simp) λc hc=>(hap c a hc ha).symm];exact k4
theorem Zkj{r w:Nat}(hr:r<1000000000)(hw:w<W) :
 u32.wrap (u64.wrap ((Q2 .or .u64 (u64.wrap ((r:Int)*2 ^ (min (32:Int).toNat u64.bits))) (u64.wrap (w:Int))).tdiv 1000000000))=(((r*W+w)/1000000000:Nat):Int):=by
 have:=zkm (b:=1000000000) hr (by decide) hw
 rw[show u64.wrap ((1000000000:Nat):Int)=1000000000 from by decide]at this
 exact this
theorem Z8a{C:Sl}{cc:List Value}{ls:List Nat}{Kf:Int->Hp->Prop}(ho:qf h0 h x ls)(okl:okW ls)(hl:ls.length<=35184372088800)(hc:Own h0 h 1 C cc)(hap:Apt x C)
 (H:∀h' ws,qf h0 h' x ws->okW ws->ws.length=ls.length->vl ws=vl ls/1000000000->Own h0 h' 1 C cc->Kf ((vl ls % 1000000000:Nat):Int) h') :
 (zr (S:=Int×Int×Unit) (λs5 k6 h4=>
 (ifP (decide (s5.2.1>=0))
 (0<=(32:Int) /\
 (zg x s5.2.1 1 λa7=>
 (ldL (.int .u32) a7 (λx8=>
 ((1000000000:Int)≠0 /\
 (zg x s5.2.1 1 λa9=>
 (stP a9 [.int .u32 (u32.wrap ((u64.wrap (((Q2 .or .u64 (u64.wrap (s5.1*2 ^ (min (32:Int).toNat u64.bits))) (u64.wrap (x8))):Int).tdiv 1000000000))))] (λh5=>
 ((1000000000:Int)≠0 /\
 (k6 (((Q2 .or .u64 (u64.wrap (s5.1*2 ^ (min (32:Int).toNat u64.bits))) (u64.wrap (x8))):Int).tmod 1000000000,(i64.wrap (s5.2.1-1)),()) h5))) h4)))) h4)))
 (Kf s5.1 h4)))
 (0,(i64.wrap ((x.len:Int)-1)),()) h):=by
  have lx:=qf.len ho
  refine y9 (λst h'=>∃(k rem:Nat) (r:List Nat),st=((rem:Int),(k:Int)-1,())/\k<=ls.length/\rem<1000000000/\qf h0 h' x r/\okW r/\r.length=ls.length/\r.take k=ls.take k/\vl (ls.drop k)=1000000000*vl (r.drop k)+rem/\Own h0 h' 1 C cc)
   (λst=>(st.2.1+1).toNat) ⟨ls.length,0,ls,by rw[lx,w64 (by omega)];rfl,Nat.le_refl _,by decide,ho,okl,rfl,rfl,by rw[List.drop_eq_nil_of_le (Nat.le_refl _)];rfl,hc⟩ ?_
  rintro st h2 ⟨k,rem,r,rfl,hk,hrem,ho2,okr,hrl,htk,hv,hc2⟩
  refine ze (λh3=>?_) (λh3=>?_)
  . obtain⟨j,rfl⟩:∃j,k=j+1:=⟨k-1,by have:(k:Int)-1>=0:=h3;omega⟩
    have hj:j<ls.length:=by omega
    have hjr:j<r.length:=by omega
    have hw:=Wi okl hj
    have hji:((j+1:Nat):Int)-1=(j:Int):=by omega
    have ejr:r[j]=ls[j]:=by
     have:=congrArg (λl:List Nat=>l[j]?) htk
     simp only[List.getElem?_take,Nat.lt_succ_self,if_true]at this
     rw[List.getElem?_eq_getElem hjr,List.getElem?_eq_getElem hj]at this
     exact Option.some.inj this
    simp only[hji]
    refine⟨by decide,Yz j (qf.rdW ho2) rfl hjr λa ha=>⟨_,ha,by decide,?_⟩⟩
    rw[ejr]
    refine Z5c j _ ho2 rfl hjr (Zkj hrem hw) λh5 ho5 hs5=>⟨by decide,?_⟩
    rw[zx0 (by unfold W;omega) hw]
    have em:(((rem*W+ls[j]:Nat):Int)).tmod 1000000000=(((rem*W+ls[j]) % 1000000000:Nat):Int):=zpe (rem*W+ls[j]) 1000000000
    rw[em]
    refine⟨⟨j,_,_,by rw[w64 (by omega)],by omega,Nat.mod_lt _ (by decide),ho5,z3e okr (zmt hrem hw),by simp[hrl],?_,zkn hj hrl hv,zoo hc2 hap (λi hi hne=>hs5 i hne) ho5.1⟩,by rw[w64 (by omega)];omega⟩
    rw[List.take_set_of_le (Nat.le_refl _)]
    have:=congrArg (List.take j) htk
    rw[List.take_take,List.take_take,Nat.min_eq_left (by omega)]at this
    exact this
  . obtain rfl:k=0:=by have:¬(k:Int)-1>=0:=h3;omega
    simp only[List.drop_zero]at hv
    have e1:vl ls/1000000000=vl r:=by rw[hv,Nat.mul_add_div (by decide),Nat.div_eq_of_lt hrem];omega
    have e2:vl ls % 1000000000=rem:=by rw[hv,Nat.mul_add_mod,Nat.mod_eq_of_lt hrem]
    have:=H h2 r ho2 okr hrl e1.symm hc2
    rw[e2]at this
    exact this
end
end Den
end

section
namespace Den
open Go Iv Lx
section
variable {h0 h : Hp} {x y : Sl} {l : List Nat} {Ks : Sl → Hp → Prop} {Kt : ByteArray → Hp → Prop} {n : Nat}
theorem BLD.rebase{h':Hp}(hb:BLD h0 h n [])(hl:h.le h'):BLD (h'.del n) h' n []:=by
 obtain⟨q,x,h1,h2,h3,h4,h5,h6⟩:=hb
 have ha:x.a=none:=h6.elim id λhh=>absurd rfl hh
 refine⟨q,x,hl _ _ h1,h2,Hp.del_same _ _,⟨⟨Hp.del_le _ _,h4.1.2.1,h4.1.2.2.1,?_⟩,λa b hh=>by rw[ha]at hh;cases hh⟩,h5,h6⟩
 have:=h4.1.2.2.2
 rw[ha]at this |-;exact this
theorem BLD.beside{α:Type}{D:Hp}{l:List UInt8}{G:(α->Hp->Prop)->Hp->Prop}{K1 K:α->Hp->Prop}(hb:BLD D h n l)(H:zc G K1 D)(k:∀v D' h',D.le D'->BLD D h' n l->K1 v D'->K v h'):zc G K h:=by
 refine zds hb.hle H λv D' h' l1 l2 hfr hv=>k v D' h' l1 ?_ hv
 obtain⟨q,x,h1,h2,h3,h4,h5,h6⟩:=hb
 have hn:=hfr n h3 (by rw[h1];simp)
 refine⟨q,x,by rw[hn.2];exact h1,h2,h3,⟨(h4.1.move l2 hfr).base l1,λa b ha hab=>?_⟩,h5,h6⟩
 obtain⟨_,_,_,g4⟩:=h4.1
 rw[ha]at g4
 obtain⟨k1,k2,k3,b2,k4,k5⟩:=g4
 have:=(hfr a.block k3 (by rw[k4];simp)).2
 rw[this]at hab
 exact h4.2 a b ha hab
theorem Zd2{b:Nat}{h h':Hp}(hl:h.le h')(hb:h b=none):h.le (h'.del b):=λk c hk=>by
 have hn:k≠b:=λhh=>by rw[hh,hb]at hk;cases hk
 unfold Hp.del
 rw[if_neg hn];exact hl k c hk
def chl(cs:List Nat):Nat:=match cs.getLast? with
 | none=>0
 | some c=>dg9 c+9*(cs.length-1)
theorem zyd(cs:List Nat)(c:Nat):chl (cs++[c])=dg9 c+9*cs.length:=by unfold chl;simp
theorem zkq{C:Sl}{cs:List Nat}{p:Nat}(hC:RdW h C cs)(hcs:∀c∈cs,c<1000000000)(hlen:cs.length<=2000)(hne:cs≠[])(ht:P10 h)(hb:BLD h h0 p [])
 (H:∀s h',h.le h'->s.size=chl cs->Kt s h') :
 zc (F.yz C) (λr15 h10=>
 (zu6 (S:=Unit) (.leaf (.int .u32)) r15 (λi16 v17 s18 k19 h11=>
 (zc (F.Wb (u64.wrap (v17)) 10) (λr21 h13=>
 (Zb (S:=Unit) (λs22 h14=>
 (qg (F.Zv (some ⟨p,0,none⟩) r21) (λr24 h15=>
 (k19 () h15)) h14))
 (λk23=>
 (ifP (decide (i16<(i64.wrap ((C.len:Int)-1))))
 (zc (F.Vb ⟨#[48]⟩ (i64.wrap (9-((r21:ByteArray).size:Int)))) (λr25 h16=>
 (qg (F.Zv (some ⟨p,0,none⟩) r25) (λr26 h17=>
 (k23 () h17)) h16)) h13)
 (k23 () h13))))) h11))
 () (λs20 h12=>
 (qg (F.Xv (some ⟨p,0,none⟩)) (λr27 h18=>
 (Kt r27 h18)) h12)) h10)) h0:=by
  have hCl:=hC.len
  refine zd (λ(a:Addr) h'=>h'.cell a=some (.slice C.a C.len C.cap)/\a.block≠p) (λK' hk=>?_) λa h1 l1 ⟨ha,han⟩=>?_
  . unfold F.yz
    intro b e hbf
    refine hk _ _ (Hp.le_ins hbf) ⟨?_,λhh=>?_⟩
    . unfold Hp.cell
      simp[Hp.ins_same]
    . obtain⟨q,x,g1,_⟩:=hb
      have hh2:b=p:=hh
      rw[<-hh2,hbf]at g1;cases g1
  . have hp0:h p=none:=by obtain⟨q,x,g1,g2,g3,_⟩:=hb;exact g3
    have hb1:=hb.rebase l1
    have hD:h.le (h1.del p):=Zd2 (Hp.le_trans hb.hle l1) hp0
    obtain⟨D,hDe⟩:∃D,D=h1.del p:=⟨_,rfl⟩
    rw[<-hDe]at hb1 hD
    have hCD:=hC.le hD
    have htD:=ht.le hD
    have haD:D.cell a=some (.slice C.a C.len C.cap):=by
     rw[hDe]
     unfold Hp.cell Hp.del at *
     simp only[if_neg han]
     exact ha
    obtain⟨f,hf⟩:∃f:Nat->Nat,f=λk=>if k=cs.length then 0 else dg9 (cs.getLastD 0)+9*(cs.length-1-k):=⟨_,rfl⟩
    refine⟨C,λk s h'=>k<=cs.length/\∃l,BLD D h' p l/\l.length=f k,by omega,⟨by omega,[],hb1,by rw[hf];simp[hCl]⟩,λi s h' hI=>?_,λi s h' hi hI=>?_,λs h' hI=>?_⟩
    . obtain⟨_,l,hl,_⟩:=hI
      exact Hp.cell_le hl.hle haD
    . obtain⟨hk,l,hl,hll⟩:=hI
      have hi':i<cs.length:=by omega
      have hr':=hCD.le hl.hle
      have h2:=hr'.1.2
      cases hxa:C.a with
      | none=>
        rw[hxa]at h2
        simp only[Z3]at h2
        split at h2
        . rename_i h3;rw[z7g]at h3;omega
        . cases h2
      | some ad=>
        rw[hxa]at h2
        simp only[Z3]at h2
        have hc9:=hcs _ (List.getElem_mem hi')
        refine⟨ad,(cs[i]:Int),rfl,λj u hj=>?_,?_⟩
        . have hj0:j=0:=by
           rcases Nat.eq_zero_or_pos j with h3 | h3
           . exact h3
           . exfalso
             have:((STy.leaf (.int .u32)).cells (cs[i]:Int))[j]?=none:=by
              apply List.getElem?_eq_none
              simp only[STy.cells,List.length_singleton];omega
             rw[this]at hj;cases hj
          subst hj0
          simp only[STy.cells,List.getElem?_cons_zero,Option.some.injEq]at hj
          subst hj
          refine z20 h2 _ _ ?_
          simp[wc,STy.size,hi',Lf.up]
        . have hfs:l.length<=20000:=by
           rw[hll,hf]
           have:=zdy (cs.getLastD 0)
           simp only
           split<;>omega
          simp only
          rw[show u64.wrap (cs[i]:Int)=((cs[i]:Nat):Int) from z7y (by omega)]
          refine hl.beside (K1:=λ(s:ByteArray) _=>s.size=dg9 cs[i]) (zfr htD hc9 λs h' _ hs=>hs) λs D3 h3 _ hb3 hs=>?_
          . have d9:=zdy cs[i]
            refine zk (λ_ h''=>∃l2,BLD D h'' p l2/\l2.length+dg9 cs[i]=f i) ?_ ?_
            . rintro _ h4 ⟨l2,hb4,hl4⟩
              refine zgc hb4 (by rw[hf]at hl4;have:=zdy (cs.getLastD 0);simp only at hl4;split at hl4<;>omega) (λhh=>by have:=z37 s;rw[hh]at this;simp at this;omega) (by omega) λh5 hb5=>⟨by omega,_,hb5,?_⟩
              rw[List.length_append,z37,hs];exact hl4
            . have e1:i64.wrap ((C.len:Int)-1)=(cs.length:Int)-1:=by rw[hCl,w64 (by omega)]
              rw[e1]
              have elast:i+1=cs.length->cs.getLastD 0=cs[i]:=λhh=>by
               rw[List.getLastD_eq_getLast?,List.getLast?_eq_getElem?]
               have:cs.length-1=i:=by omega
               rw[this,List.getElem?_eq_getElem hi'];rfl
              refine ze (λh5=>?_) (λh5=>?_)
              . rw[show i64.wrap (9-((s.size:Nat):Int))=((9-s.size:Nat):Int) from by rw[w64 (by omega)];omega]
                refine hb3.beside (K1:=λ(t:ByteArray) _=>t.size=9-s.size) (zes (by omega) λs h' _ hs=>hs) λt D6 h6 _ hb6 ht6=>?_
                . refine zfs hb6 (by omega) (.inr λhh=>?_) (by omega) λh7 hb7=>⟨_,hb7,?_⟩
                  . subst hh
                    rw[hf]at hll
                    simp only[List.length_nil]at hll
                    rw[if_neg (by omega)]at hll
                    have:=zdy (cs.getLastD 0);omega
                  . rw[List.length_append,z37,hll,ht6,hs,hf]
                    simp only
                    rw[if_neg (by omega),if_neg (by omega)];omega
              . refine⟨l,hb3,?_⟩
                have hi1:i+1=cs.length:=by omega
                rw[hll,hf]
                simp only
                rw[if_pos hi1,if_neg (by omega),elast hi1];omega
    . obtain⟨_,l,hl,hll⟩:=hI
      have hfs:l.length=chl cs:=by
       rw[hll,hf]
       simp only
       have hne0:¬0=cs.length:=λhh=>hne (List.eq_nil_of_length_eq_zero hh.symm)
       rw[if_neg hne0]
       unfold chl
       rw[List.getLastD_eq_getLast?]
       cases hg:cs.getLast? with
       | none=>exact absurd (List.getLast?_eq_none_iff.1 hg) hne
       | some c=>simp
      refine zvm hl (by rw[hll,hf];have:=zdy (cs.getLastD 0);simp only;split<;>omega) λh5 hl5=>H _ _ (Hp.le_trans hD hl5) ?_
      show l.toArray.size=_
      simpa using hfs
end
end Den
end

section
namespace Den
open Go Iv Lx
theorem Ziw(e:Nat):W ^ e=2 ^ (32*e):=by rw[Ziu,Nat.pow_mul]
theorem Ziv(e:Nat):W ^ e<=10 ^ (10*e):=by
 rw[Nat.pow_mul]
 exact Nat.pow_le_pow_left (by rw[Ziu];decide) e
theorem Zc3{n E:Nat}(hE:E=32*50)(h:(dg n).length<=50):n<2 ^ E:=by
 have h1:=Xm.1 h
 have h2:=Ziw 50
 rw[<-hE]at h2
 rw[h2]at h1
 exact h1
theorem Zc1{n:Nat}(h:(dg n).length<=50):dgt n<=1000:=by
 obtain⟨E,hE⟩:∃E,E+1=10*50:=⟨499,rfl⟩
 have h1:=Xm.1 h
 have h2:=Ziv 50
 rw[<-hE]at h2
 have:=zyp (n:=n) (k:=E) (Nat.lt_of_lt_of_le h1 h2)
 omega
section
variable {h0 h : Hp} {x y : Sl} {l : List Nat} {Ks : Sl → Hp → Prop} {Kt : ByteArray → Hp → Prop} {n : Nat} {a : TInt}
theorem zmz(ha:NI h a (n:Int))(hl:(dg n).length<=50)(ht:P10 h)(H:∀s h',h.le h'->s.size=dgt n->Kt s h'):zc (F.z2m a) Kt h:=by
 refine zd (λs h'=>s.size=dgt n) (λK' hk=>?_) λs h' hl hs=>H s h' hl hs
 unfold F.z2m
 have hneg:=ha.2
 rw[decide_eq_false (by omega)]at hneg
 have ha1:=ha.1
 rw[Int.natAbs_natCast]at ha1
 refine zc7 ha1 (by omega) λr1 hr1=>?_
 refine z95 hr1 (by omega) λr2 h2 ho2=>?_
 have hl2:=ho2.1
 have len2:=qf.len ho2
 refine Za (λh3=>hk _ _ hl2 ?_) (λh3=>?_)
 . have:n=0:=by
    rw[<-z2g]
    exact List.eq_nil_of_length_eq_zero (by omega)
   subst this
   rw[z3a (by decide)];rfl
 . have hn0:n≠0:=λhh=>h3 (by rw[len2,z2g.2 hh];rfl)
   refine zcw (λV st h'=>∃cs:List Nat,qf h h' st.1 (dg V)/\qf h h' st.2.1.1 cs/\Apt st.1 st.2.1.1/\(∀c∈cs,c<1000000000)/\(dg V).length<=50/\cs.length<=2000/\V*2 ^ cs.length<=n /\
    ((0<V/\dgt n=dgt V+9*cs.length)\/(V=0/\cs≠[]/\dgt n=chl cs))) (n0:=n)
    ⟨[],ho2,Own.nil hl2,(λa b h1 h2=>by cases h2),by simp,hl,by simp,by simp,.inl ⟨by omega,by simp⟩⟩ ?_
   rintro V ⟨m,⟨C,_⟩,_⟩ h4 ⟨cs,hm,hC,hap,hcs,hlen,hlen2,hpw,hcase⟩ K2 hK2
   simp only at hm hC hap
   have lm:=qf.len hm
   refine ze (λh5=>?_) (λh5=>?_)
   . simp only at h5
     have hV:0<V:=by
      rcases Nat.eq_zero_or_pos V with h6 | h6
      . rw[h6,Qv]at lm;simp at lm;omega
      . exact h6
     obtain⟨_,hd⟩:0<V/\dgt n=dgt V+9*cs.length:=hcase.resolve_right λhh=>by omega
     refine Z8a (C:=C) (cc:=wc cs) hm (qr V) (by omega) hC hap (Kf:=λs h4=>zc (F.zv m) (λr10 h6=>Y6 1 4 [.int .u32 0] C 1 [.int .u32 (u32.wrap s)] (λw11 h7=>K2 (r10,(w11,()),()) h7) h6) h4) λh6 ws hw okw hwl hv hC6=>?_
     rw[Y1]at hv
     rw[Y1]
     refine ztw hw (by omega) λr hr hra=>?_
     rw[Vy okw,hv]at hr
     have hr9:V % 1000000000<1000000000:=Nat.mod_lt _ (by decide)
     rw[show u32.wrap ((V % 1000000000:Nat):Int)=((V % 1000000000:Nat):Int) from Zkk (by omega)]
     have lC:=qf.len hC6
     refine zcc hC6 (n:=1) (new:=[Value.int .u32 ((V % 1000000000:Nat):Int)]) rfl rfl rfl (by omega) (by omega) λw h7 hw7 _ hs7 hb7=>?_
     have hap2:Apt w r:=λc d hc hd=>by
      rw[hra]at hd
      rcases hb7 c hc with ⟨a',h8,h9⟩ | h8
      . rw[<-h9];exact(hap d a' hd h8).symm
      . intro hh
        obtain⟨_,_,_,g4⟩:=hw
        rw[hd]at g4
        obtain⟨_,_,_,b,g5,_⟩:=g4
        rw[<-hh,h8]at g5;cases g5
     have hapC:Apt C r:=λc d hc hd=>by rw[hra]at hd;exact(hap d c hd hc).symm
     obtain⟨E,hE⟩:∃E,E=32*50:=⟨_,rfl⟩
     have hk960:cs.length<E:=Nat.not_le.1 λhh=>by
      have g1:=Zc3 hE hl
      have g3:2 ^ E<=2 ^ cs.length:=Nat.pow_le_pow_right (by decide) hh
      have g4:2 ^ cs.length<=V*2 ^ cs.length:=Nat.le_mul_of_pos_left _ hV
      exact absurd (Nat.le_trans g3 (Nat.le_trans g4 hpw)) (Nat.not_le.2 g1)
     have hlt:V/1000000000<V:=Nat.div_lt_self hV (by decide)
     refine hK2 (V/1000000000) _ _ hlt ⟨cs++[V % 1000000000],zoo hr hapC hs7 hw7.1,?_,hap2.symm,?_,?_,?_,?_,?_⟩
     . show qf _ _ _ _
       unfold qf
       rw[show wc (cs++[V % 1000000000])=wc cs++[Value.int .u32 ((V % 1000000000:Nat):Int)]by unfold wc;rw[List.map_append];rfl]
       exact hw7
     . intro c hc
       rcases List.mem_append.1 hc with hc | hc
       . exact hcs c hc
       . rw[List.mem_singleton.1 hc];exact hr9
     . rw[Xm]at hlen |-
       exact Nat.lt_of_le_of_lt (Nat.le_of_lt hlt) hlen
     . simp;omega
     . rw[List.length_append,List.length_singleton,Nat.pow_succ]
       have h8:V/1000000000*2<=V:=by omega
       have h9:=Nat.mul_le_mul_right (2 ^ cs.length) h8
       have h10:V/1000000000*(2 ^ cs.length*2)=V/1000000000*2*2 ^ cs.length:=by rw[Nat.mul_comm (2 ^ cs.length) 2,Nat.mul_assoc]
       rw[h10];omega
     . by_cases h8:1000000000<=V
       . left
         refine⟨Nat.div_pos h8 (by decide),?_⟩
         rw[hd,Z88 h8,List.length_append,List.length_singleton];omega
       . right
         refine⟨Nat.div_eq_of_lt (by omega),by simp,?_⟩
         rw[hd,zyd,Nat.mod_eq_of_lt (by omega),Zj3 (by omega)]
   . simp only at h5
     have hV:V=0:=by
      rw[<-z2g]
      exact List.eq_nil_of_length_eq_zero (by omega)
     obtain⟨_,hne,hd⟩:=hcase.resolve_left λhh=>by omega
     refine Z8s λp h6 hb6=>?_
     refine zk (λ_ h'=>h'=h6) ?_ ?_
     . rintro _ h7 rfl
       exact zkq (h:=h4) (qf.rdW hC) hcs hlen2 hne (ht.le hC.1) hb6 λs h8 hl8 hs=>hk _ _ (Hp.le_trans hC.1 hl8) (by rw[hs,hd])
     . rw[hneg]
       exact zt rfl rfl
end
end Den
end

section
namespace Den
open Go Iv Lx
theorem z9q{cells:List Value}{K:Addr->Hp->Prop}{h:Hp}
 (H:∀a h',h.le h'->(∀i v,cells[i]?=some v->h'.cell (a.add i)=some v)->K a h'):Yu cells K h:=by
 intro b e hb
 refine H _ _ (Hp.le_ins hb) λi v hv=>?_
 unfold Hp.cell
 rw[Yi,V1 rfl,Xr]
 simpa [Hp.ins_same] using hv
theorem Wo{v:Value}{K:Addr->Hp->Prop}{h:Hp}(H:∀a h',h.le h'->h'.cell a=some v->K a h'):Yu [v] K h:=
 z9q λa h' hl hc=>H a h' hl (by have:=hc 0 v rfl;rwa [Zq]at this)
theorem zez{h:Hp}{a:Addr}{cells:List Value}(hc:∀i v,cells[i]?=some v->h.cell (a.add i)=some v):∀n,n<=cells.length->Zz h a n=some (cells.take n)
 | 0,_=>by simp[Zz]
 | n+1,hn=>by
   unfold Zz
   rw[zez hc n (by omega)]
   simp only
   rw[hc n _ (List.getElem?_eq_getElem (by omega))]
   simp only
   rw[List.take_add_one,List.getElem?_eq_getElem (by omega)]
   rfl
theorem z2t{h:Hp}{a:Addr}{cells:List Value}{size n c:Nat}(hc:∀i v,cells[i]?=some v->h.cell (a.add i)=some v)(hn:n*size=cells.length):Rd h size ⟨some a,n,c⟩ cells:=by
 refine⟨hn,?_⟩
 show Zz h a cells.length=_
 rw[zez hc _ (Nat.le_refl _),List.take_length]
theorem zbx{cells:List Value}{K:Addr->Hp->Prop}{h:Hp}(size n:Nat)(hn:n*size=cells.length)(H:∀a h',h.le h'->Rd h' size ⟨some a,n,n⟩ cells->K a h'):Yu cells K h:=
 z9q λa h' hl hc=>H a h' hl (z2t hc hn)
section
variable {α β : Type}
def LR(c:α->List Value)(n:Nat)(P:Hp->α->β->Prop)(h:Hp)(l:Sl)(ps:List β):Prop:=
 ∃xs:List α,Rd h n l (xs.flatMap c)/\l.len<=l.cap/\xs.length=ps.length/\∀k (h1:k<xs.length) (h2:k<ps.length),P h xs[k] ps[k]
def LO(c:α->List Value)(n:Nat)(P:Hp->α->β->Prop)(D h:Hp)(l:Sl)(ps:List β):Prop:=
 ∃xs:List α,Own D h n l (xs.flatMap c)/\xs.length=ps.length/\∀k (h1:k<xs.length) (h2:k<ps.length),P D xs[k] ps[k]
structure Rec(c:α->List Value)(n:Nat)(P:Hp->α->β->Prop):Prop where
 len:∀x,(c x).length=n
 pos:0<n
 leaf:∀x,(c x).all Value.leaf=true
 mono:∀{h h':Hp} {x:α} {b:β},P h x b->h.le h'->P h' x b
variable {c : α → List Value} {n : Nat} {P : Hp → α → β → Prop} {D h h' : Hp} {l : Sl} {ps : List β}
theorem LR.le(hR:Rec c n P)(hx:LR c n P h l ps)(hl:h.le h'):LR c n P h' l ps:=by
 obtain⟨xs,h1,h2,h3,h4⟩:=hx
 exact⟨xs,h1.le hl,h2,h3,λk k1 k2=>hR.mono (h4 k k1 k2) hl⟩
theorem LR.len(hR:Rec c n P)(hx:LR c n P h l ps):l.len=ps.length:=by
 obtain⟨xs,h1,h2,h3,h4⟩:=hx
 have:=h1.1
 rw[Qf hR.len]at this
 rw[<-h3]
 exact Nat.eq_of_mul_eq_mul_right hR.pos this
theorem LR.nil:LR c n P h zf []:=⟨[],Rd.nil,Nat.le_refl _,rfl,λk h1 _=>by simp at h1⟩
theorem LR.get{i:Int}{K:Addr->Prop}(hR:Rec c n P)(hx:LR c n P h l ps)(k:Nat)(hi:i=k)(hk:k<ps.length)
 (H:∀a x,P h x ps[k]->(∀j v,(c x)[j]?=some v->h.cell (a.add j)=some v)->K a):zg l i n K:=by
 obtain⟨xs,h1,h2,h3,h4⟩:=hx
 refine zkb hR.len hR.pos h1 k hi (by omega) λa ha=>H a xs[k] (h4 k (by omega) hk) λj v hv=>ha j v ?_ hv
 have:=(List.getElem?_eq_some_iff.1 hv).1
 rwa [hR.len]at this
theorem LO.lr(hR:Rec c n P)(hx:LO c n P D h l ps):LR c n P h l ps:=by
 obtain⟨xs,h1,h3,h4⟩:=hx
 exact⟨xs,h1.rd,h1.2.2.1,h3,λk k1 k2=>hR.mono (h4 k k1 k2) h1.1⟩
theorem LO.dle(hx:LO c n P D h l ps):D.le h:=by obtain⟨xs,h1,_⟩:=hx;exact h1.1
theorem LO.nil:LO c n P h h zf []:=⟨[],Own.nil (Hp.le_refl _),rfl,λk h1 _=>by simp at h1⟩
theorem LO.len(hR:Rec c n P)(hx:LO c n P D h l ps):l.len=ps.length:=(hx.lr hR).len hR
theorem LO.call{γ:Type}{G:(γ->Hp->Prop)->Hp->Prop}{K1 K:γ->Hp->Prop}(hR:Rec c n P)(hx:LO c n P D h l ps)(H:zc G K1 D)
 (k:∀v D' h',D.le D'->LO c n P D' h' l ps->K1 v D'->K v h'):zc G K h:=by
 obtain⟨xs,h1,h3,h4⟩:=hx
 exact h1.call H λv D' h' g1 g2 g3=>k v D' h' g1 ⟨xs,g2,h3,λk k1 k2=>hR.mono (h4 k k1 k2) g1⟩ g3
theorem LO.app{Ks:Sl->Hp->Prop}{x:α}{b:β}{bytes:Nat}{zero:List Value}(hR:Rec c n P)(hx:LO c n P D h l ps)(hz:zero.length=n)(hlen:(ps.length+1)*bytes<=140737488355328)(hlen2:ps.length+1<=140737488355328)
 (hp:P D x b) (H:∀y h',LO c n P D h' y (ps++[b])->Ks y h'):Y6 n bytes zero l 1 (c x) Ks h:=by
 have hl:=hx.len hR
 obtain⟨xs,h1,h3,h4⟩:=hx
 refine z3r h1 (n:=1) (new:=c x) (by rw[hR.len];omega) hz (hR.leaf x) (by rw[hl];exact hlen) (by rw[hl];exact hlen2) λy h' hy hyl=>H y h' ⟨xs++[x],?_,by simp[h3],λk k1 k2=>?_⟩
 . rw[List.flatMap_append]
   simp only[List.flatMap_cons,List.flatMap_nil,List.append_nil]
   exact hy
 . rcases Nat.lt_or_ge k xs.length with h5 | h5
   . rw[List.getElem_append_left h5,List.getElem_append_left (by omega)]
     exact h4 k h5 (by omega)
   . have h6:k=xs.length:=by simp at k1;omega
     subst h6
     rw[List.getElem_append_right (Nat.le_refl _),List.getElem_append_right (by omega)]
     simp only[Nat.sub_self,List.getElem_cons_zero]
     have:xs.length-ps.length=0:=by omega
     simp only[this,List.getElem_cons_zero]
     exact hp
end
theorem zlv{n:Int}{len:Nat}{p:Prop}(h0:0<=n)(h1:n<len)(hp:p):z9k n len p:=by
 unfold z9k
 rw[decide_eq_true ⟨h0,h1⟩];exact hp
def Fnd(g:Int->Prop)(xs:List Int)(r:Int):Prop:=(r=-1/\∀x∈xs,¬g x)\/∃k,∃hk:k<xs.length,r=(k:Int)/\g xs[k]/\∀j (hj:j<xs.length),j<k->¬g xs[j]
theorem Fnd.iff{g:Int->Prop}{xs:List Int}{r:Int}(hf:Fnd g xs r):0<=r↔∃x∈xs,g x:=by
 rcases hf with ⟨rfl,h1⟩ | ⟨k,hk,rfl,h1,_⟩
 . exact⟨λhh=>by omega,λ⟨x,hx,hg⟩=>absurd hg (h1 x hx)⟩
 . exact⟨λ_=>⟨_,List.getElem_mem hk,h1⟩,λ_=>by omega⟩
theorem zct{h:Hp}{Ki:Int->Hp->Prop}{s:Sl}{xs:List Int}{g:Int->Prop}{G:Int->(Bool->Hp->Prop)->Hp->Prop}(hx:IL h s xs)(hlen:xs.length<=1000000)
 (hG:∀x∈xs,∀h',h.le h'->∀K:Bool->Hp->Prop,(∀b h'',h'.le h''->(b=true↔g x)->K b h'')->zc (G x) K h') (H:∀r h',h.le h'->Fnd g xs r->Ki r h') :
 (zr (S:=Int×Unit) (λs1 k2 h1=>
 (ifP (decide (s1.1<(s.len:Int)))
 (zg s s1.1 1 λa3=>
 (ldL (.int .i64) a3 (λx4=>
 (zc (G x4) (λr5 h2=>
 (ifP r5
 (Ki s1.1 h2)
 (k2 ((i64.wrap (s1.1+1)),()) h2))) h1)) h1))
 (Ki (-1) h1)))
 (0,()) h):=by
  have hl:=hx.len
  refine Yr (n:=xs.length) (by omega) (λi h'=>h.le h'/\∀j (hj:j<xs.length),j<i->¬g xs[j]) ⟨Hp.le_refl _,λj _ hj=>by omega⟩ ?_
  rintro i h1 hi ⟨hl1,hno⟩ k hk2
  refine ze (λh2=>?_) (λh2=>?_)
  . have hi':i<xs.length:=by simp only at h2;omega
    refine(hx.le hl1).get i rfl hi' ?_
    refine hG _ (List.getElem_mem _) _ hl1 _ λb h3 hl3 hb=>?_
    refine zp (λh4=>H _ _ (Hp.le_trans hl1 hl3) (.inr ⟨i,hi',rfl,hb.1 h4,hno⟩)) (λh4=>hk2 _ hi' ⟨Hp.le_trans hl1 hl3,λj hj hji=>?_⟩)
    rcases Nat.lt_or_ge j i with h5 | h5
    . exact hno j hj h5
    . have:j=i:=by omega
      subst this
      intro hg
      rw[hb.2 hg]at h4;cases h4
  . refine H _ _ hl1 (.inl ⟨rfl,λx hx hg=>?_⟩)
    obtain⟨j,hj,rfl⟩:=List.mem_iff_getElem.1 hx
    exact hno j hj (by simp only at h2;omega) hg
theorem NI.back{h h':Hp}{a:TInt}{n:Int}(ha:AI h a)(hl:h.le h')(hn:NI h' a n):NI h a n:=by
 obtain⟨l,h1,_⟩:=ha
 have:=(h1.le hl).uniq hn.1
 exact⟨by rw[<-this];exact h1,hn.2⟩
def OR(h:Hp)(x:TRat)(v:Option Rat):Prop:=AR h x/\x.num.mag.len<=35184372087808/\x.den.mag.len<=35184372087808/\∀q,NR h x q↔v=some q
theorem OR.le{h h':Hp}{x:TRat}{v:Option Rat}(hx:OR h x v)(hl:h.le h'):OR h' x v:=
 ⟨hx.1.le hl,hx.2.1,hx.2.2.1,λq=>⟨λhq=>(hx.2.2.2 q).1 ⟨hq.1.back hx.1.1 hl,hq.2.back hx.1.2 hl⟩,λhq=>((hx.2.2.2 q).2 hq).le hl⟩⟩
theorem NR.inj{h:Hp}{x:TRat}{p q:Rat}(h1:NR h x p)(h2:NR h x q):p=q:=Rat.ext (h1.1.inj h2.1) (by have:=h1.2.inj h2.2;omega)
theorem NR.ar{h:Hp}{x:TRat}{q:Rat}(hq:NR h x q):AR h x:=⟨⟨_,hq.1.1,qr _⟩,⟨_,hq.2.1,qr _⟩⟩
theorem OR.br{h:Hp}{x:TRat}{q:Rat}{k:Nat}(hx:OR h x (some q))(h1:x.num.mag.len<=k)(h2:x.den.mag.len<=k):BR k q:=Zis ((hx.2.2.2 q).2 rfl) h1 h2
theorem OR.nr{h:Hp}{x:TRat}{q:Rat}(hx:OR h x (some q)):NR h x q:=(hx.2.2.2 q).2 rfl
section
variable {h : Hp} {x : TRat} {v : Option Rat} {Kb : Bool → Hp → Prop}
theorem zg5(hx:OR h x v)(H:∀h',h.le h'->Kb v.isSome h'):zc (F.qt x) Kb h:=
 z9w hx.1 hx.2.1 hx.2.2.1 (λq h' hl hq=>by have:=(hx.2.2.2 q).1 hq;subst this;exact H h' hl)
  (λh' hl hq=>by
    cases v with
    | none=>exact H h' hl
    | some q=>exact absurd ⟨q,(hx.2.2.2 q).2 rfl⟩ hq)
end
end Den
end

section
namespace Den
open Go Iv Lx
def siz(p d:Nat):Nat:=if p=0 then d else max d (p+1)+1
def zj3:Nat->Nat->Rat->Bool
 | 0,_,_=>false
 | f+1,p,q=>if q.den=1 then decide (siz p (dgt q.num.natAbs)<=40)else zj3 f (p+1) (q*((10:Int):Rat))
def zf4(v:Option Rat):Bool:=match v with | none=>false | some q=>decide (0<=q.num)&&zj3 40 0 q
theorem zwy{q:Rat}(h:0<=q.num):0<=(q*((10:Int):Rat)).num:=by
 rw[Rat.num_nonneg]at h |-
 exact Rat.mul_nonneg h (by decide)
theorem Z9n:BR 1 ((10:Int):Rat):=⟨by unfold Lt;decide,by unfold Lt;decide⟩
theorem Z54{z:Int}:0<=z.sign↔0<=z:=by
 constructor
 . intro h
   apply Classical.byContradiction
   intro hn
   rw[Int.sign_eq_neg_one_of_neg (by omega)]at h
   omega
 . intro h
   rcases Int.lt_or_eq_of_le h with h | h
   . rw[Int.sign_eq_one_of_pos h];decide
   . rw[<-h];decide
theorem ok_one':Ok 1:=(show Lt 1 1 by unfold Lt;decide).ok (by decide)
section
variable {h : Hp} {x : TRat} {v : Option Rat} {q : Rat} {K : (ByteArray × Bool) → Hp → Prop}
theorem zlb(hx:OR h x v)(hb:∀q,v=some q->BR 4 q)(ht:P10 h)(H:∀s h',h.le h'->K (s,zf4 v) h'):zc (F.z1o x) K h:=by
 refine zd (λr h'=>r.2=zf4 v) (λK' hk=>?_) λr h' hl hs=>by
  obtain⟨s,b⟩:=r
  simp only at hs
  subst hs
  exact H s h' hl
 unfold F.z1o
 refine zk (λ_ h1=>h.le h1/\∃q,v=some q/\0<=q.num) ?_ ?_
 . rintro _ h1 ⟨hl1,q,rfl,hq0⟩
   have hbq:=hb q rfl
   have hq:=hx.nr.le hl1
   have hv:zf4 (some q)=zj3 40 0 q:=by unfold zf4;simp[hq0]
   refine z1j (by decide) (by decide) λr3 h2 hl2 hr3=>?_
   refine z81 (by decide) (by decide) λr4 h3 hl3 hr4=>?_
   refine y9 (λst h'=>∃(i:Nat) (y:TRat) (p:Rat),st=((y.num.neg,y.num.mag,y.den.neg,y.den.mag,()),(i:Int),())/\i<=40/\h3.le h'/\NR h' y p/\BR (4+i) p/\0<=p.num/\zj3 (40-i) i p=zj3 40 0 q)
    (λst=>(40-st.2.1).toNat) ⟨0,x,q,rfl,by omega,Hp.le_refl _,hq.le (Hp.le_trans hl2 hl3),hbq,hq0,rfl⟩ ?_
   rintro _ h4 ⟨i,y,p,rfl,hi,hl4,hy,by4,hp0,hd⟩
   refine ze (λh5=>?_) (λh5=>?_)
   . simp only at h5
     obtain⟨f,hf⟩:∃f,40-i=f+1:=⟨39-i,by omega⟩
     rw[hf]at hd
     refine zxx (m:=p.den) (n:=1) hy.2 (hr4.le hl4) (by4.2.ok (by omega)) ok_one' ?_
     refine yt (λh6=>?_) (λh6=>?_)
     . have hden:¬p.den=1:=λhh=>h6 (by rw[hh];rfl)
       refine zka hy ((hr3.le hl3).le hl4) by4 Z9n (by omega) (by omega) λr8 h7 hl7 hr8=>?_
       refine⟨⟨i+1,r8,_,by simp only;rw[w64 (by omega)];rfl,by omega,Hp.le_trans hl4 hl7,hr8,(by4.mul Z9n).mono (by omega),zwy hp0,?_⟩,by simp only;rw[w64 (by omega)];omega⟩
       rw[<-hd,show 40-(i+1)=f by omega]
       conv=>rhs;unfold zj3
       rw[if_neg hden]
     . have hden:p.den=1:=by
        rw[Int.sign_eq_zero_iff_zero]at h6
        omega
       have hd1:zj3 (f+1) i p=decide (siz i (dgt p.num.natAbs)<=40):=by unfold zj3;rw[if_pos hden]
       have hnn:p.num=(p.num.natAbs:Int):=by omega
       have hnum:NI h4 y.num (p.num.natAbs:Int):=by have:=hy.1;rwa [hnn]at this
       refine zmz hnum (Nat.le_trans (Xm.2 by4.1) (by omega)) (ht.le (Hp.le_trans hl1 (Hp.le_trans hl2 (Hp.le_trans hl3 hl4)))) λs h6 hl6 hs=>?_
       have hle:=Hp.le_trans hl1 (Hp.le_trans hl2 (Hp.le_trans hl3 (Hp.le_trans hl4 hl6)))
       have d0:=Z89 p.num.natAbs
       have d1:dgt p.num.natAbs<=1000:=Zc1 (Nat.le_trans (Xm.2 by4.1) (by omega))
       refine zk (λs h'=>h.le h'/\s.1.size=siz i (dgt p.num.natAbs)) ?_ ?_
       . rintro⟨s,_⟩ h8 ⟨hl8,hs8⟩
         refine hk _ _ hl8 ?_
         simp only at hs8 |-
         rw[hv,<-hd,hd1,hs8]
         exact decide_eq_decide.2 (by omega)
       . refine ze (λh7=>?_) (λh7=>?_)
         . simp only at h7
           refine zk (λs h'=>h.le h'/\s.1.size=max (dgt p.num.natAbs) (i+1)) ?_ ?_
           . rintro⟨t,_⟩ h8 ⟨hl8,hs8⟩
             simp only at hs8
             have e1:i64.wrap ((t.size:Int)-(i:Int))=((t.size-i:Nat):Int):=by rw[w64 (by omega)];omega
             simp only
             rw[e1]
             refine zak (by omega) (by omega) (by omega) λc hc _=>⟨?_,zak (by omega) (by omega) (by omega) λd hd _=>⟨?_,hl8,?_⟩⟩
             . have:(⟨#[46]⟩:ByteArray).size=1:=rfl
               rw[this];omega
             . have:(⟨#[46]⟩:ByteArray).size=1:=rfl
               rw[ByteArray.size_append,this];omega
             . try simp only
               rw[ByteArray.size_append,ByteArray.size_append]
               have:(⟨#[46]⟩:ByteArray).size=1:=rfl
               unfold siz
               rw[this,if_neg (by omega)];omega
           . refine ze (λh8=>?_) (λh8=>?_)
             . simp only at h8
               rw[w64 (show _ by rw[w64 (by omega)];omega),w64 (by omega)]at h8
               have e2:i64.wrap (i64.wrap ((i:Int)+1)-(s.size:Int))=((i+1-s.size:Nat):Int):=by rw[w64 (show _ by rw[w64 (by omega)];omega),w64 (by omega)];omega
               rw[e2]
               refine zes (by omega) λr h9 hl9 hr=>⟨by omega,Hp.le_trans hle hl9,?_⟩
               simp only
               rw[ByteArray.size_append];omega
             . simp only at h8
               rw[w64 (show _ by rw[w64 (by omega)];omega),w64 (by omega)]at h8
               exact⟨hle,by simp only;omega⟩
         . simp only at h7
           refine⟨hle,?_⟩
           unfold siz
           rw[if_pos (by omega)];exact hs
   . simp only at h5
     have:i=40:=by omega
     subst this
     refine hk _ _ (Hp.le_trans hl1 (Hp.le_trans hl2 (Hp.le_trans hl3 hl4))) ?_
     rw[hv,<-hd];rfl
 . refine zg5 hx λh1 hl1=>?_
   cases v with
   | none=>exact hk _ _ hl1 rfl
   | some q=>
     have hq:=hx.nr.le hl1
     refine zt rfl ?_
     refine zi1 hq (hb q rfl) (by decide) ?_
     refine ze (λh2=>hk _ _ hl1 ?_) (λh2=>⟨hl1,q,rfl,?_⟩)
     . have:¬0<=q.num:=by
        intro hh
        have:=Z54.2 hh
        omega
       unfold zf4;simp[this]
     . exact Z54.1 (by omega)
end
end Den
end

section
namespace Den
open Go Iv Lx
inductive PEx where
 | mk (op:Int) (x:TRat) (v:Option Rat) (name:ByteArray) (args:List PEx)
def PEx.args:PEx->List PEx | .mk _ _ _ _ l=>l
def ec(e:TExpr):List Value:=[.int .i64 e.op,.bool e.value.num.neg,Lf.sl.up e.value.num.mag,.bool e.value.den.neg,Lf.sl.up e.value.den.mag,.string e.name,Lf.sl.up e.args]
theorem Zcx(e:TExpr):(ec e).length=7:=rfl
inductive EX (h:Hp):TExpr->PEx->Prop
 | mk (e:TExpr) (v:Option Rat) (xs:List TExpr) (ps:List PEx):OR h e.value v->Rd h 7 e.args (xs.flatMap ec)->e.args.len<=e.args.cap->xs.length=ps.length->(∀k (h1:k<xs.length) (h2:k<ps.length),EX h xs[k] ps[k])->EX h e (.mk e.op e.value v e.name ps)
theorem EX.le{h h':Hp}(hl:h.le h'){e:TExpr}{p:PEx}(hx:EX h e p):EX h' e p:=by
 induction hx with
 | mk e v xs ps h1 h2 h3 h4 _ ih=>exact .mk e v xs ps (h1.le hl) (h2.le hl) h3 h4 ih
theorem z4m:Rec ec 7 EX:=⟨Zcx,by decide,λx=>rfl,λhx hl=>hx.le hl⟩
theorem EX.args{h:Hp}{e:TExpr}{p:PEx}(hx:EX h e p):LR ec 7 EX h e.args p.args:=by
 cases hx with
 | mk _ v xs ps h1 h2 h3 h4 h5=>exact⟨xs,h2,h3,h4,h5⟩
def zk2(x:TRat):Bool:=decide (x.num.mag.len=0)&&(decide (x.den.mag.len=0)&&(!x.num.neg&&!x.den.neg))
def shp(op:Int)(x:TRat)(v:Option Rat)(name:ByteArray)(n:Nat):Bool:=
 if op=1 then zf4 v&&(decide (BS name=[])||Z40 (BS name))&&decide (n=0)
 else if op=2 then zk2 x&&Z40 (BS name)&&decide (n=0)
 else if op=3 then zk2 x&&decide (BS name=[])&&decide (n=1)
 else if 4<=op/\op<=7 then zk2 x&&decide (BS name=[])&&decide (n=2)
 else false
mutual
def fmd:PEx->Bool
 | .mk op x v name args=>shp op x v name args.length&&zj4 args
def zj4:List PEx->Bool
 | []=>true
 | a :: r=>fmd a&&zj4 r
end
theorem zo2:∀l:List PEx,zj4 l=l.all fmd
 | []=>rfl
 | a :: r=>by rw[zj4,zo2 r];rfl
mutual
def dep:PEx->Nat
 | .mk _ _ _ _ args=>zfu args+1
def zfu:List PEx->Nat
 | []=>0
 | a :: r=>max (dep a) (zfu r)
end
theorem zlc:∀{l:List PEx} {a:PEx},a∈l->dep a<=zfu l
 | _ :: _,_,h=>by
   unfold zfu
   rcases List.mem_cons.1 h with rfl | h
   . omega
   . have:=zlc h;omega
theorem zjp:∀(l:List PEx) (a:PEx),zfu (l++[a])=max (zfu l) (dep a)
 | [],a=>by simp[zfu]
 | b :: r,a=>by rw[List.cons_append];unfold zfu;rw[zjp r a];omega
theorem zcl(p:PEx):dep p=zfu p.args+1:=by cases p;rfl
mutual
def smE:PEx->Prop
 | .mk op x v name args=>args.length<=4/\name.size<=40/\x.num.mag.len<=4/\x.den.mag.len<=4/\Z9e args
def Z9e:List PEx->Prop
 | []=>True
 | a :: r=>smE a/\Z9e r
end
theorem zii:∀{l:List PEx} {a:PEx},Z9e l->a∈l->smE a
 | _ :: _,_,hs,h=>by
   unfold Z9e at hs
   rcases List.mem_cons.1 h with rfl | h
   . exact hs.1
   . exact zii hs.2 h
def vE(p:PEx):Bool:=fmd p&&decide (dep p<=40)
def sE(p:PEx):Prop:=smE p/\dep p<=61
def OPT(h:Hp):Prop:=∀i:Nat,i<8->h.cell ((⟨1,0,none⟩:Addr).add i)=some (.int .i64 (([0,0,0,1,2,2,2,2]:List Int).getD i 0))
theorem OPT.le{h h':Hp}(ht:OPT h)(hl:h.le h'):OPT h':=λi hi=>Hp.cell_le hl (ht i hi)
section
variable {h : Hp} {e : TExpr} {p : PEx} {Kb : Bool → Hp → Prop} {Ki : Int → Hp → Prop}
theorem zuv{x:TRat}(H:Kb (zk2 x) h):zc (F.z2j x) Kb h:=by
 refine Zk _ (λK' hk=>?_) H
 unfold F.z2j
 unfold zk2 at hk
 refine Za (λh1=>Za (λh2=>?_) (λh2=>?_)) (λh1=>?_)
 . rw[decide_eq_true (show x.num.mag.len=0 by omega),decide_eq_true (show x.den.mag.len=0 by omega)]at hk
   refine zp (λh3=>?_) (λh3=>?_)
   . rw[h3]at hk;exact hk
   . rw[h3]at hk;exact hk
 . rw[decide_eq_false (show ¬x.den.mag.len=0 by omega),Bool.false_and,Bool.and_false]at hk;exact hk
 . rw[decide_eq_false (show ¬x.num.mag.len=0 by omega),Bool.false_and]at hk;exact hk
theorem zfd{s:ByteArray}(H:Kb (Z40 (BS s)) h):zc (F.z0o s) Kb h:=Zk _ (λK' hk=>zvi hk) H
theorem zun{A B:Prop}{s:ByteArray}(hA:BS s=[]->A)(hB:BS s≠[]->B):ifP ((s:ByteArray).toList==(Xx:ByteArray).toList) A B:=by
 rw[zb7,z7h]
 refine zp (λhh=>hA ?_) (λhh=>hB ?_)
 . simpa using hh
 . intro h0;rw[h0]at hh;cases hh
theorem zuk{s:Sl}{g:PEx->Bool}{ps:List PEx}{G:TExpr->(Bool->Hp->Prop)->Hp->Prop}(hx:LR ec 7 EX h s ps)(hlen:ps.length<=1000000)
 (hG:∀e p h',h.le h'->EX h' e p->p∈ps->∀K:Bool->Hp->Prop,(∀h'',h'.le h''->K (g p) h'')->zc (G e) K h') (H:∀r h',h.le h'->(0<=r↔∃p∈ps,g p=true)->Ki r h') :
 (zr (S:=Int×Unit) (λs1 k2 h1=>
 (ifP (decide (s1.1<(s.len:Int)))
 (zg s s1.1 7 λa3=>
 (ldL (.int .i64) (a3.add 0) (λx4_0=>
 (ldL (.bool) (a3.add 1) (λx4_1=>
 (ldL (.sl) (a3.add 2) (λx4_2=>
 (ldL (.bool) (a3.add 3) (λx4_3=>
 (ldL (.sl) (a3.add 4) (λx4_4=>
 (ldL (.str) (a3.add 5) (λx4_5=>
 (ldL (.sl) (a3.add 6) (λx4_6=>
 (zc (G (⟨x4_0,(⟨(⟨x4_1,x4_2⟩:TInt),(⟨x4_3,x4_4⟩:TInt)⟩:TRat),x4_5,x4_6⟩:TExpr)) (λr5 h2=>
 (ifP r5
 (Ki s1.1 h2)
 (k2 ((i64.wrap (s1.1+1)),()) h2))) h1)) h1)) h1)) h1)) h1)) h1)) h1)) h1))
 (Ki (-1) h1)))
 (0,()) h):=by
  have hl:=hx.len z4m
  refine Yr (n:=ps.length) (by omega) (λi h'=>h.le h'/\∀j (hj:j<ps.length),j<i->g ps[j]=false) ⟨Hp.le_refl _,λj _ hj=>by omega⟩ ?_
  rintro i h1 hi ⟨hl1,hno⟩ k hk2
  refine ze (λh2=>?_) (λh2=>?_)
  . have hi':i<ps.length:=by simp only at h2;omega
    refine(hx.le z4m hl1).get z4m i rfl hi' λa x hxx hc=>?_
    refine⟨_,hc 0 _ rfl,_,hc 1 _ rfl,_,hc 2 _ rfl,_,hc 3 _ rfl,_,hc 4 _ rfl,_,hc 5 _ rfl,_,hc 6 _ rfl,?_⟩
    refine hG _ _ _ hl1 hxx (List.getElem_mem _) _ λh3 hl3=>?_
    refine zp (λh4=>H _ _ (Hp.le_trans hl1 hl3) ⟨λ_=>⟨_,List.getElem_mem hi',h4⟩,λ_=>by simp only;omega⟩) (λh4=>hk2 _ hi' ⟨Hp.le_trans hl1 hl3,λj hj hji=>?_⟩)
    rcases Nat.lt_or_ge j i with h5 | h5
    . exact hno j hj h5
    . have:j=i:=by omega
      subst this;exact h4
  . refine H _ _ hl1 ⟨λhh=>by omega,λ⟨p,hp,hg⟩=>?_⟩
    obtain⟨j,hj,rfl⟩:=List.mem_iff_getElem.1 hp
    have:j<i:=by simp only at h2;omega
    rw[hno j hj this]at hg;cases hg
theorem Z8g{l:List PEx}:(∃p∈l,(!fmd p)=true)↔zj4 l=false:=by
 rw[zo2,<-Bool.not_eq_true,List.all_eq_true]
 constructor
 . rintro⟨p,hp,h1⟩ hh
   rw[hh p hp]at h1;cases h1
 . intro hh
   apply Classical.byContradiction
   intro hn
   exact hh λp hp=>by
    cases hf:fmd p with
    | true=>rfl
    | false=>exact absurd ⟨p,hp,by rw[hf];rfl⟩ hn
theorem zo3(hx:EX h e p)(hs:sE p)(ht:P10 h)(ho:OPT h)(H:∀h',h.le h'->Kb (fmd p) h'):zc (F.z2i e) Kb h:=by
 have key:∀(fuel:Nat) (h:Hp) (e:TExpr) (p:PEx) (K:Bool->Hp->Prop),EX h e p->smE p->dep p<=fuel->P10 h->OPT h->(∀h',h.le h'->K (fmd p) h')->F.qx fuel e K h:=by
  intro fuel
  induction fuel with
  | zero=>intro h e p K _ _ hd _ _ _;rw[zcl]at hd;omega
  | succ fuel ih=>
    intro h e p K hx hs hd ht ho H
    have hargs:=hx.args
    cases hx with
    | mk _ v xs ps g1 g2 g3 g4 g5=>
    simp only[PEx.args]at hargs
    have hal:=hargs.len z4m
    have hd':zfu ps<=fuel:=by have:=zcl (PEx.mk e.op e.value v e.name ps);simp only[PEx.args]at this;omega
    unfold smE at hs
    obtain⟨s1,s2,s3,s4,s5⟩:=hs
    unfold fmd at H
    unfold F.qx
    refine zk (λ_ h1=>h1=h/\1<=e.op/\e.op<=7/\(ps.length:Int)=([0,0,0,1,2,2,2,2]:List Int).getD e.op.toNat 0) ?_ ?_
    . rintro _ h ⟨rfl,o1,o2,hn⟩
      refine Za (λh1=>?_) (λh1=>Za (λh2=>?_) (λh2=>?_))
      . rw[h1]at hn
        have hn0:ps=[]:=List.eq_nil_of_length_eq_zero (by have:(ps.length:Int)=0:=hn;omega)
        subst hn0
        unfold shp zj4 at H
        rw[if_pos h1,decide_eq_true (show([]:List PEx).length=0 from rfl),Bool.and_true,Bool.and_true]at H
        refine zlb g1 (λq hq=>by subst hq;exact g1.br s3 s4) ht λs h2 hl2=>?_
        refine zp (λh3=>?_) (λh3=>?_)
        . simp only at h3
          rw[h3,Bool.true_and]at H
          refine zun (λh4=>?_) (λh4=>?_)
          . rw[decide_eq_true h4]at H;exact H _ hl2
          . rw[decide_eq_false h4,Bool.false_or]at H
            exact zfd (H _ hl2)
        . simp only at h3
          rw[h3,Bool.false_and]at H;exact H _ hl2
      . rw[h2]at hn
        have hn0:ps=[]:=List.eq_nil_of_length_eq_zero (by have:(ps.length:Int)=0:=hn;omega)
        subst hn0
        unfold shp zj4 at H
        rw[if_neg h1,if_pos h2,decide_eq_true (show([]:List PEx).length=0 from rfl),Bool.and_true,Bool.and_true]at H
        refine zuv ?_
        refine zp (λh3=>?_) (λh3=>?_)
        . rw[h3,Bool.true_and]at H
          exact zfd (H _ (Hp.le_refl _))
        . rw[h3,Bool.false_and]at H;exact H _ (Hp.le_refl _)
      . have hsh:shp e.op e.value v e.name ps.length=(zk2 e.value&&decide (BS e.name=[])):=by
         unfold shp
         rw[if_neg h1,if_neg h2]
         rcases(by omega:e.op=3\/e.op=4\/e.op=5\/e.op=6\/e.op=7)with h3 | h3 | h3 | h3 | h3<;>rw[h3]at hn |-
         . have:ps.length=1:=by have:(ps.length:Int)=1:=hn;omega
           simp[this]
         all_goals
          have:ps.length=2:=by have:(ps.length:Int)=2:=hn;omega
          simp[this]
        rw[hsh]at H
        refine zuv ?_
        refine zp (λh3=>?_) (λh3=>?_)
        . rw[h3,Bool.true_and]at H
          refine zun (λh4=>?_) (λh4=>?_)
          . rw[decide_eq_true h4,Bool.true_and]at H
            refine zd (λb h'=>b=!zj4 ps) (λK' hk=>?_) λb h' hl hb=>by subst hb;rw[Bool.not_not];exact H _ hl
            unfold F.yc
            refine zd (λr h'=>(0<=r↔∃p∈ps,(!fmd p)=true)) (λK2 hk2=>?_) λr h' hl hr=>hk _ _ hl ?_
            . unfold F.yp
              refine zuk (g:=λp=>!fmd p) (ps:=ps) (G:=F.z0l (F.qx fuel)) hargs (by omega) ?_ λr h' hl hr=>hk2 _ _ hl hr
              intro e2 p2 h2 hl2 hx2 hm K3 hK3
              refine zd (λb h'=>b=!fmd p2) (λK' hk=>?_) λb h' hl hb=>by subst hb;exact hK3 _ hl
              unfold F.z0l
              refine zd (λb h'=>b=fmd p2) (λK' hk=>?_) λb h' hl hb=>hk _ _ hl (by rw[hb])
              exact ih _ _ _ _ hx2 (zii s5 hm) (by have:=zlc hm;omega) (ht.le hl2) (ho.le hl2) λh' hl=>hk _ _ hl rfl
            . rw[Z8g]at hr
              cases hf:zj4 ps with
              | true=>rw[hf]at hr;exact decide_eq_false λhh=>by have:=hr.1 hh;cases this
              | false=>exact decide_eq_true (hr.2 hf)
          . rw[decide_eq_false h4,Bool.false_and]at H;exact H _ (Hp.le_refl _)
        . rw[h3,Bool.false_and,Bool.false_and]at H;exact H _ (Hp.le_refl _)
    . have hf:∀{q:Prop},(shp e.op e.value v e.name ps.length=true->False)->(K false h):=λhh=>by
       have:=H _ (Hp.le_refl _)
       rwa [Bool.eq_false_iff.2 hh,Bool.false_and]at this
      refine ze (λh1=>hf (q:=True) λhh=>?_) (λh1=>ze (λh2=>hf (q:=True) λhh=>?_) (λh2=>?_))
      . unfold shp at hh
        rw[if_neg (by omega),if_neg (by omega),if_neg (by omega),if_neg (by omega)]at hh;cases hh
      . unfold shp at hh
        rw[if_neg (by omega),if_neg (by omega),if_neg (by omega),if_neg (by omega)]at hh;cases hh
      . refine zlv (by omega) (by omega) ?_
        have hc:=ho e.op.toNat (by omega)
        rw[Nat.mul_one]
        refine⟨_,hc,?_⟩
        refine yt (λh3=>hf (q:=True) λhh=>?_) (λh3=>⟨rfl,by omega,by omega,by rw[<-hal];exact h3⟩)
        unfold shp at hh
        rcases(by omega:e.op=1\/e.op=2\/e.op=3\/e.op=4\/e.op=5\/e.op=6\/e.op=7)with h4 | h4 | h4 | h4 | h4 | h4 | h4<;>rw[h4]at hh h3<;>simp at hh h3<;>first | omega | (have hz:=hh.2;rw[hz]at hal;simp at hal;omega)
 refine zd (λb h'=>b=fmd p) (λK' hk=>?_) λb h' hl hb=>by subst hb;exact H h' hl
 unfold F.z2i
 exact⟨61,key 61 h e p K' hx hs.1 hs.2 ht ho λh' hl=>hk _ _ hl rfl⟩
theorem Z47(a b:Nat):zse (a:Int) (b:Int)=((max a b:Nat):Int):=by unfold zse;split<;>omega
theorem zss:∀(fuel:Nat) (h:Hp) (e:TExpr) (p:PEx) (K:Int->Hp->Prop),EX h e p->smE p->dep p<=fuel->dep p<=1000->(∀h',h.le h'->K (dep p:Nat) h')->F.z2u fuel e K h:=by
 intro fuel
 induction fuel with
 | zero=>intro h e p K _ _ hd _ _;rw[zcl]at hd;omega
 | succ fuel ih=>
   intro h e p K hx hs hd hd2 H
   have hargs:=hx.args
   have hda:=zcl p
   cases hx with
   | mk _ v xs ps g1 g2 g3 g4 g5=>
   simp only[PEx.args]at hargs hda
   have hal:=hargs.len z4m
   unfold smE at hs
   obtain⟨s1,s2,s3,s4,s5⟩:=hs
   unfold F.z2u
   refine Yq (n:=ps.length) (by omega) (λi a h'=>h.le h'/\a=((zfu (ps.take i):Nat):Int)) ⟨Hp.le_refl _,by simp[zfu]⟩ ?_
   rintro i a h3 hi ⟨hl3,ha⟩ k hk2
   refine ze (λh4=>?_) (λh4=>?_)
   . have hi':i<ps.length:=by simp only at h4;omega
     refine(hargs.le z4m hl3).get z4m i rfl hi' λa' x hxx hc=>?_
     refine⟨_,hc 0 _ rfl,_,hc 1 _ rfl,_,hc 2 _ rfl,_,hc 3 _ rfl,_,hc 4 _ rfl,_,hc 5 _ rfl,_,hc 6 _ rfl,?_⟩
     have hdm:=zlc (List.getElem_mem hi')
     refine zd (λb h'=>b=((dep ps[i]:Nat):Int)) (λK' hk=>ih _ _ _ _ hxx (zii s5 (List.getElem_mem _)) (by omega) (by omega) λh' hl=>hk _ _ hl rfl) λb h5 hl5 hb=>?_
     subst hb
     refine hk2 _ _ hi' ⟨Hp.le_trans hl3 hl5,?_⟩
     simp only
     rw[ha,Z47,<-List.take_append_getElem hi',zjp]
   . have hi':i=ps.length:=by simp only at h4;omega
     subst hi'
     rw[List.take_length]at ha
     have:=H _ hl3
     rw[hda]at this
     simp only
     rw[ha,w64 (by omega)]
     exact this
theorem zmx:∀fuel,F.Xz fuel=F.z2u fuel
 | 0=>rfl
 | fuel+1=>by
   funext e K h
   unfold F.Xz F.z2u
   rw[zmx fuel]
theorem zpx(hx:EX h e p)(hs:sE p)(H:∀h',h.le h'->Ki (dep p:Nat) h'):zc (F.z3u e) Ki h:=by
 refine zd (λb h'=>b=((dep p:Nat):Int)) (λK' hk=>?_) λb h' hl hb=>by subst hb;exact H h' hl
 unfold F.z3u
 have:=hs.2
 exact⟨61,by rw[zmx];exact zss 61 h e p K' hx hs.1 hs.2 (by omega) λh' hl=>hk _ _ hl rfl⟩
theorem zny(hx:EX h e p)(hs:sE p)(ht:P10 h)(ho:OPT h)(H:∀r h',h.le h'->(r=0↔vE p=true)->Ki r h'):zc (F.z3v e) Ki h:=by
 refine zd (λr h'=>r=0↔vE p=true) (λK' hk=>?_) λb h' hl hb=>H b h' hl hb
 unfold F.z3v
 refine zo3 hx hs ht ho λh1 hl1=>?_
 unfold vE at hk
 cases hf:fmd p with
 | false=>exact Z9 rfl (hk _ _ hl1 (by rw[hf];simp))
 | true=>
   refine zt rfl ?_
   refine zpx (hx.le hl1) hs λh2 hl2=>?_
   refine ze (λh3=>hk _ _ (Hp.le_trans hl1 hl2) ?_) (λh3=>hk _ _ (Hp.le_trans hl1 hl2) ?_)
   . rw[hf,decide_eq_false (by omega)];simp
   . rw[hf,decide_eq_true (by omega)];simp
end
end Den
end

section
namespace Den
open Go Iv Lx
def Z6i:List (Nat×Nat×Nat×Nat×Bool):=[(1,0,2,2,false),(2,0,1,1,false),(3,0,0,1,false),(3,0,1,1,true),(4,0,1,1,false),(4,0,0,1,false),(4,0,0,1,false),(4,0,0,1,false),(3,0,0,2,false),(4,0,0,2,false),(2,0,0,1,false),(2,0,0,1,false),(1,1,0,1,false),(0,1,1,1,false),(0,2,0,1,false),(2,1,0,1,true),(0,2,0,1,true)]
def shK(k:Int):Nat×Nat×Nat×Nat×Bool:=if 1<=k then Z6i.getD (k.toNat-1) (0,0,0,0,false)else (0,0,0,0,false)
def eqK(k:Int):Nat:=(shK k).2.2.2.1
structure PCon where
 kind:Int
 pts:List Int
 cir:List Int
 vals:List PEx
 side:Int
def cc(x:TConstraint):List Value:=[.int .i64 x.kind,Lf.sl.up x.points,Lf.sl.up x.circles,Lf.sl.up x.values,.int .i64 x.side]
def CO(h:Hp)(x:TConstraint)(c:PCon):Prop:=x.kind=c.kind/\IL h x.points c.pts/\IL h x.circles c.cir/\LR ec 7 EX h x.values c.vals/\x.side=c.side
theorem CO.le{h h':Hp}{x:TConstraint}{c:PCon}(hx:CO h x c)(hl:h.le h'):CO h' x c:=⟨hx.1,hx.2.1.le hl,hx.2.2.1.le hl,hx.2.2.2.1.le z4m hl,hx.2.2.2.2⟩
theorem Yy:Rec cc 5 CO:=⟨λ_=>rfl,by decide,λ_=>rfl,λhx hl=>hx.le hl⟩
def zbi:List Int->Prop
 | [a,b,c,d]=>a≠b/\c≠d/\¬(a=c/\b=d)/\¬(a=d/\b=c)
 | _=>False
def z4w(k:Int):Prop:=k=5\/k=6\/k=7\/k=8
instance (k:Int):Decidable (z4w k):=by unfold z4w;infer_instance
def VC(c:PCon)(n m:Int):Prop:=
 (1<=c.kind/\c.kind<=17)/\(c.pts.length=(shK c.kind).1/\∀x∈c.pts,0<=x/\x<n)/\(c.cir.length=(shK c.kind).2.1/\∀x∈c.cir,0<=x/\x<m)/\c.vals.length=(shK c.kind).2.2.1 /\
 (∀v∈c.vals,vE v=true)/\(if (shK c.kind).2.2.2.2=true then c.side=1\/c.side=-1 else c.side=0)/\(if z4w c.kind then zbi c.pts else c.pts.Nodup/\c.cir.Nodup)
def sC(c:PCon):Prop:=c.pts.length<=10/\c.cir.length<=10/\c.vals.length<=10/\∀v∈c.vals,sE v
def TBL(h:Hp):Prop:=∀k:Nat,1<=k->k<=17->∃ln ps:Bool,∀j v,([.int .i64 ((shK k).1:Int),.int .i64 ((shK k).2.1:Int),.int .i64 ((shK k).2.2.1:Int),.int .i64 ((shK k).2.2.2.1:Int),.bool (shK k).2.2.2.2,.bool ln,.bool ps]:List Value)[j]?=some v ->
 h.cell ((((⟨0,0,none⟩:Addr).add (k*8)).add 1).add j)=some v
theorem TBL.le{h h':Hp}(ht:TBL h)(hl:h.le h'):TBL h':=λk h1 h2=>by
 obtain⟨ln,ps,h3⟩:=ht k h1 h2
 exact⟨ln,ps,λj v hv=>Hp.cell_le hl (h3 j v hv)⟩
def GT(h:Hp):Prop:=P10 h/\OPT h/\TBL h
theorem GT.le{h h':Hp}(ht:GT h)(hl:h.le h'):GT h':=⟨ht.1.le hl,ht.2.1.le hl,ht.2.2.le hl⟩
section
variable {h : Hp} {x : TConstraint} {c : PCon} {l : Sl} {xs : List Int} {Kb : Bool → Hp → Prop} {Ki : Int → Hp → Prop}
theorem zca{kind:Int}{K:(Tconstraint_Shape×Bool)->Hp->Prop}(ht:TBL h)(H1:1<=kind->kind<=17->∀ln ps,K (⟨((shK kind).1:Int),((shK kind).2.1:Int),((shK kind).2.2.1:Int),((shK kind).2.2.2.1:Int),(shK kind).2.2.2.2,ln,ps⟩,true) h)
 (H0:¬(1<=kind/\kind<=17)->K (⟨0,0,0,0,false,false,false⟩,false) h):zc (F.Xw kind) K h:=by
 refine zd (λr h'=>h'=h/\((1<=kind/\kind<=17/\∃ln ps,r=(⟨((shK kind).1:Int),((shK kind).2.1:Int),((shK kind).2.2.1:Int),((shK kind).2.2.2.1:Int),(shK kind).2.2.2.2,ln,ps⟩,true))\/(¬(1<=kind/\kind<=17)/\r=(⟨0,0,0,0,false,false,false⟩,false)))) (λK' hk=>?_) λr h' _ hr=>by
  obtain⟨rfl,hr | hr⟩:=hr
  . obtain⟨h1,h2,ln,ps,rfl⟩:=hr
    exact H1 h1 h2 ln ps
  . rw[hr.2];exact H0 hr.1
 unfold F.Xw
 refine zk (λ_ h1=>h1=h/\1<=kind/\kind<=17) ?_ ?_
 . rintro _ h ⟨rfl,h1,h2⟩
   obtain⟨k,rfl⟩:∃k:Nat,kind=k:=⟨kind.toNat,by omega⟩
   obtain⟨ln,ps,hc⟩:=ht k (by omega) (by omega)
   refine zlv (by omega) (by omega) ?_
   exact⟨_,hc 0 _ rfl,_,hc 1 _ rfl,_,hc 2 _ rfl,_,hc 3 _ rfl,_,hc 4 _ rfl,_,hc 5 _ rfl,_,hc 6 _ rfl,hk _ _ (Hp.le_refl _) ⟨rfl,.inl ⟨h1,h2,ln,ps,rfl⟩⟩⟩
 . refine ze (λh1=>hk _ _ (Hp.le_refl _) ⟨rfl,.inr ⟨by omega,rfl⟩⟩) λh1=>ze (λh2=>hk _ _ (Hp.le_refl _) ⟨rfl,.inr ⟨by omega,rfl⟩⟩) λh2=>⟨rfl,by omega,by omega⟩
theorem zfb{n z9p:Int}(hx:IL h l xs)(hlen:xs.length<=1000000)(H:∀b h',h.le h'->(b=true↔(xs.length:Int)=n/\∀x∈xs,0<=x/\x<z9p)->Kb b h'):zc (F.Wm l n z9p) Kb h:=by
 refine zd (λb h'=>b=true↔(xs.length:Int)=n/\∀x∈xs,0<=x/\x<z9p) (λK' hk=>?_) λb h' hl hb=>H b h' hl hb
 unfold F.Wm
 have hl:=hx.len
 refine Wo λa h1 hl1 hc=>?_
 refine Za (λh2=>?_) (λh2=>hk _ _ hl1 ⟨λhh=>(by cases hh),λhh=>by omega⟩)
 refine zd (λb h'=>b=true↔∃x∈xs,¬(0<=x/\x<z9p)) (λK' hk=>?_) λb h3 hl3 hb=>hk _ _ (Hp.le_trans hl1 hl3) ?_
 . unfold F.Ya
   refine zd (λr h'=>Fnd (λx=>¬(0<=x/\x<z9p)) xs r) (λK' hk=>?_) λr h4 hl4 hr=>hk _ _ hl4 (by rw[decide_eq_true_iff];exact hr.iff)
   unfold F.Yk
   refine zct (hx.le hl1) hlen (λx _ h5 hl5 K hK=>?_) λr h' hl hr=>hk _ _ hl hr
   refine Zk (decide (¬(0<=x/\x<z9p))) (λK' hk=>?_) (hK _ _ (Hp.le_refl _) (by rw[decide_eq_true_iff]))
   unfold F.z14
   refine ze (λh6=>?_) (λh6=>?_)
   . rw[decide_eq_true (by omega)]at hk;exact hk
   . refine⟨_,Hp.cell_le hl5 hc,?_⟩
     have:decide (x>=z9p)=decide (¬(0<=x/\x<z9p)):=decide_eq_decide.2 (by omega)
     show K' (decide (x>=z9p)) h5
     rw[this];exact hk
 . rw[Bool.not_eq_true',<-Bool.not_eq_true,hb]
   constructor
   . intro hh
     exact⟨by omega,λx hx=>Classical.byContradiction λhn=>hh ⟨x,hx,hn⟩⟩
   . rintro⟨_,h4⟩ ⟨x,hx,hn⟩
     exact hn (h4 x hx)
theorem zhn{xs:List Int}{i:Nat}(hi:i<xs.length):(xs.take (i+1)).Nodup↔(xs.take i).Nodup/\xs[i]∉xs.take i:=by
 rw[<-List.take_append_getElem hi,List.nodup_append]
 constructor
 . rintro⟨h1,_,h3⟩
   exact⟨h1,λhm=>h3 _ hm _ (List.mem_singleton.2 rfl) rfl⟩
 . rintro⟨h1,h2⟩
   exact⟨h1,by simp,λa ha b hb hab=>by rw[List.mem_singleton.1 hb]at hab;subst hab;exact h2 ha⟩
theorem zj9{xs:List Int}{i:Nat}(h:xs.Nodup):(xs.take i).Nodup:=h.sublist (List.take_sublist _ _)
theorem z99(hx:IL h l xs)(hlen:xs.length<=1000000)(H:∀b h',h.le h'->(b=true↔xs.Nodup)->Kb b h'):zc (F.Xc l) Kb h:=by
 refine zd (λb h'=>b=true↔xs.Nodup) (λK' hk=>?_) λb h' hl hb=>H b h' hl hb
 unfold F.Xc
 have hl:=hx.len
 have hcap:=hx.2
 refine Yr (n:=xs.length) (by omega) (λi h'=>h.le h'/\(xs.take i).Nodup) ⟨Hp.le_refl _,by simp⟩ ?_
 rintro i h1 hi ⟨hl1,hno⟩ k hk2
 refine ze (λh2=>?_) (λh2=>?_)
 . have hi':i<xs.length:=by simp only at h2;omega
   refine(hx.le hl1).get i rfl hi' ?_
   refine⟨by omega,by simp only;omega,by simp only;omega,?_⟩
   refine Wt ((hx.le hl1).cut (n:=i) (by omega)) (by rw[List.length_take];omega) λh3 hl3=>?_
   refine ze (λh4=>hk _ _ (Hp.le_trans hl1 hl3) ⟨λhh=>(by cases hh),λhh=>?_⟩) (λh4=>hk2 _ hi' ⟨Hp.le_trans hl1 hl3,(zhn hi').2 ⟨hno,h4⟩⟩)
   exact absurd h4 ((zhn hi').1 (zj9 hh)).2
 . have:i=xs.length:=by simp only at h2;omega
   subst this
   rw[List.take_length]at hno
   exact hk _ _ hl1 ⟨λ_=>hno,λ_=>rfl⟩
theorem zso(hx:IL h l xs)(hlen:xs.length=4)(H:∀b h',h.le h'->(b=true↔zbi xs)->Kb b h'):zc (F.z0k l) Kb h:=by
 refine zd (λb h'=>b=true↔zbi xs) (λK' hk=>?_) λb h' hl hb=>H b h' hl hb
 unfold F.z0k
 match xs,hlen with
 | [a,b,c,d],_=>
 refine hx.get 0 rfl (by simp) (hx.get 1 rfl (by simp) (hx.get 2 rfl (by simp) (hx.get 3 rfl (by simp) ?_)))
 simp only[List.getElem_cons_zero,List.getElem_cons_succ]
 have fin:∀b',(b'=true↔zbi [a,b,c,d])->K' b' h:=λb' hb=>hk _ _ (Hp.le_refl _) hb
 unfold zbi at fin
 refine yt (λh1=>yt (λh2=>Za (λh3=>zp (λh4=>Za (λh5=>fin _ ?_) (λh5=>fin _ ?_)) (λh4=>fin _ ?_)) (λh3=>Za (λh5=>fin _ ?_) (λh5=>fin _ ?_))) (λh2=>fin _ ?_)) (λh1=>fin _ ?_)
 all_goals simp_all
theorem zxt{n:Sl}{ps:List PEx}(hx:LR ec 7 EX h n ps)(hlen:ps.length<=10)(hs:∀v∈ps,sE v)(ht:GT h)(H:∀b h',h.le h'->(b=true↔¬∀v∈ps,vE v=true)->Kb b h'):zc (F.Zp n) Kb h:=by
 refine zd (λb h'=>b=true↔¬∀v∈ps,vE v=true) (λK' hk=>?_) λb h' hl hb=>H b h' hl hb
 unfold F.Zp
 refine zd (λr h'=>(0<=r↔∃p∈ps,(!vE p)=true)) (λK2 hk2=>?_) λr h' hl hr=>hk _ _ hl ?_
 . unfold F.yi
   refine zuk (g:=λp=>!vE p) (ps:=ps) (G:=F.Vi) hx (by omega) ?_ λr h' hl hr=>hk2 _ _ hl hr
   intro e2 p2 h2 hl2 hx2 hm K3 hK3
   refine zd (λb h'=>b=!vE p2) (λK' hk=>?_) λb h' hl hb=>by subst hb;exact hK3 _ hl
   unfold F.Vi
   refine zny hx2 (hs _ hm) (ht.1.le hl2) (ht.2.1.le hl2) λr h' hl hr=>hk _ _ hl ?_
   cases hv:vE p2 with
   | true=>rw[hr.2 hv];rfl
   | false=>
     have:r≠0:=λhh=>by rw[hr.1 hh]at hv;cases hv
     simp[this]
 . rw[decide_eq_true_iff,ge_iff_le,hr]
   constructor
   . rintro⟨p,hp,h1⟩ hh
     rw[hh p hp]at h1;cases h1
   . intro hh
     apply Classical.byContradiction
     intro hn
     exact hh λp hp=>by
      cases hf:vE p with
      | true=>rfl
      | false=>exact absurd ⟨p,hp,by rw[hf];rfl⟩ hn
theorem Z9b{A B:Prop}{sd:Bool}{z:Int}(hA:¬(if sd=true then z=1\/z=-1 else z=0)->A)(hB:(if sd=true then z=1\/z=-1 else z=0)->B) :
 ifP sd (ifP (z != 1) (ifP (z != (-1)) A (ifP (!sd) (ifP (z != 0) A B) B)) (ifP (!sd) (ifP (z != 0) A B) B)) (ifP (!sd) (ifP (z != 0) A B) B):=by
 cases sd with
 | true=>
   simp only[if_true]at hA hB
   refine Z9 rfl (yt (λh1=>yt (λh2=>hA (by omega)) (λh2=>zt rfl (hB (by omega)))) (λh1=>zt rfl (hB (by omega))))
 | false=>
   simp only[Bool.false_eq_true,if_false]at hA hB
   exact zt rfl (Z9 rfl (yt (λh1=>hA h1) (λh1=>hB h1)))
theorem Z8h{k:Int}{T:Bool×Unit->Hp->Prop}(H:T (decide (z4w k),()) h):ifP (k==5) (T ((k==5),()) h) (ifP (k==6) (T ((k==6),()) h) (ifP (k==7) (T ((k==7),()) h) (T ((k==8),()) h))):=by
 refine Za (λh1=>?_) (λh1=>Za (λh2=>?_) (λh2=>Za (λh3=>?_) (λh3=>?_)))
 . subst h1;exact H
 . subst h2;exact H
 . subst h3;exact H
 . have:(k==8)=decide (z4w k):=by
    by_cases h4:k=8
    . subst h4;rfl
    . rw[decide_eq_false (show ¬z4w k by unfold z4w;omega),beq_eq_false_iff_ne];exact h4
   rw[this];exact H
theorem znf{n m:Int}(hx:CO h x c)(hs:sC c)(ht:GT h)(H:∀b h',h.le h'->(b=true↔VC c n m)->Kb b h'):zc (F.z0j x n m) Kb h:=by
 refine zd (λb h'=>b=true↔VC c n m) (λK' hk=>?_) λb h' hl hb=>H b h' hl hb
 unfold F.z0j
 obtain⟨x1,x2,x3,x4,x5⟩:=hx
 obtain⟨s1,s2,s3,s4⟩:=hs
 have hvl:=x4.len z4m
 have no:∀h',h.le h'->¬VC c n m->K' false h':=λh' hl hn=>hk _ _ hl ⟨λhh=>(by cases hh),λhh=>absurd hh hn⟩
 rw[x1,x5]
 refine zca ht.2.2 (λk1 k2 ln ps=>?_) (λhn=>?_)
 . refine zk (λ_ h1=>h.le h1/\((c.pts.length:Int)=(shK c.kind).1/\∀x∈c.pts,0<=x/\x<n)/\((c.cir.length:Int)=(shK c.kind).2.1/\∀x∈c.cir,0<=x/\x<m)/\c.vals.length=(shK c.kind).2.2.1) ?_ ?_
   . rintro _ h1 ⟨hl1,g1,g2,g3⟩
     refine zxt (x4.le z4m hl1) s3 s4 (ht.le hl1) λb h2 hl2 hb=>?_
     have hle:=Hp.le_trans hl1 hl2
     refine zp (λh3=>no _ hle λhv=>hb.1 h3 hv.2.2.2.2.1) (λh3=>?_)
     have hv:∀v∈c.vals,vE v=true:=Classical.byContradiction λhn=>by rw[hb.2 hn]at h3;cases h3
     refine zk (λ_ h'=>h'=h2/\(if (shK c.kind).2.2.2.2=true then c.side=1\/c.side=-1 else c.side=0)) ?_ (Z9b (λhn=>no _ hle λhv=>hn hv.2.2.2.2.2.1) λhy=>⟨rfl,hy⟩)
     rintro _ h2 ⟨rfl,hsd⟩
     have vc:∀{b:Bool},(b=true↔(if z4w c.kind then zbi c.pts else c.pts.Nodup/\c.cir.Nodup))->(b=true↔VC c n m):=λhb=>by
      rw[hb]
      exact⟨λhh=>⟨⟨k1,k2⟩,⟨by omega,g1.2⟩,⟨by omega,g2.2⟩,g3,hv,hsd,hh⟩,λhh=>hh.2.2.2.2.2.2⟩
     refine zk (λs h'=>h'=h2/\s.1=decide (z4w c.kind)) ?_ (Z8h (T:=λs h'=>h'=h2/\s.1=decide (z4w c.kind)) ⟨rfl,rfl⟩)
     rintro⟨b,_⟩ h2 ⟨rfl,hbb⟩
     simp only at hbb
     subst hbb
     refine ze (λh4=>?_) (λh4=>?_)
     . rw[if_pos h4]at vc
       refine zso (x2.le hle) ?_ λb h5 hl5 hb=>hk _ _ (Hp.le_trans hle hl5) (vc hb)
       have:(shK c.kind).1=4:=by unfold z4w at h4;rcases h4 with h4 | h4 | h4 | h4<;>rw[h4]<;>rfl
       omega
     . rw[if_neg h4]at vc
       refine z99 (x2.le hle) (by omega) λb h5 hl5 hb=>?_
       refine zp (λh6=>?_) (λh6=>hk _ _ (Hp.le_trans hle hl5) (vc ⟨λhh=>(by cases hh),λhh=>by rw[hb.2 hh.1]at h6;cases h6⟩))
       refine z99 ((x3.le hle).le hl5) (by omega) λb' h7 hl7 hb'=>hk _ _ (Hp.le_trans hle (Hp.le_trans hl5 hl7)) (vc ?_)
       rw[hb']
       exact⟨λhh=>⟨hb.1 h6,hh⟩,λhh=>hh.2⟩
   . refine zt rfl ?_
     refine zfb x2 (by omega) λb h1 hl1 hb=>?_
     refine zp (λh2=>no _ hl1 λhv=>?_) (λh2=>?_)
     . have:b=true:=hb.2 ⟨by rw[hv.2.1.1],hv.2.1.2⟩
       rw[this]at h2;cases h2
     have hb1:=hb.1 (by simpa using h2)
     refine zfb (x3.le hl1) (by omega) λb3 h3 hl3 hb3=>?_
     have hle:=Hp.le_trans hl1 hl3
     refine zp (λh4=>no _ hle λhv=>?_) (λh4=>?_)
     . have:b3=true:=hb3.2 ⟨by rw[hv.2.2.1.1],hv.2.2.1.2⟩
       rw[this]at h4;cases h4
     have hb4:=hb3.1 (by simpa using h4)
     refine yt (λh5=>no _ hle λhv=>h5 ?_) (λh5=>⟨hle,hb1,hb4,by simp only at h5;omega⟩)
     have:=hv.2.2.2.1
     simp only
     omega
 . exact zk (λ_ _=>False) (λ_ _ hh=>hh.elim) (Z9 rfl (no _ (Hp.le_refl _) λhv=>hn hv.1))
end
end Den
end

section
namespace Den
open Go Iv Lx
theorem z9f{h:Hp}{Ki:Int->Hp->Prop}{body:(Int×Unit)->((Int×Unit)->Hp->Prop)->Hp->Prop}{n:Nat}{g:Nat->Prop}(hn:n<=140737488355328)
 (hb:∀(i:Nat) h' (k:(Int×Unit)->Hp->Prop),h.le h'->i<n->(∀b h'',h'.le h''->(b=true↔g i)->ifP b (Ki (i:Int) h'') (k (i64.wrap ((i:Int)+1),()) h''))->body ((i:Int),()) k h')
 (he:∀h' (k:(Int×Unit)->Hp->Prop),Ki (-1) h'->body ((n:Int),()) k h')
 (H:∀r h',h.le h'->(0<=r↔∃i,i<n/\g i)->Ki r h'):zr body (0,()) h:=by
 refine Yr hn (λi h'=>h.le h'/\∀j,j<i->¬g j) ⟨Hp.le_refl _,λj hj=>by omega⟩ ?_
 rintro i h1 hi ⟨hl1,hno⟩ k hk2
 by_cases hi':i<n
 . refine hb i h1 k hl1 hi' λb h2 hl2 hbg=>?_
   refine zp (λh3=>H _ _ (Hp.le_trans hl1 hl2) ⟨λ_=>⟨i,hi',hbg.1 h3⟩,λ_=>by omega⟩) (λh3=>hk2 _ hi' ⟨Hp.le_trans hl1 hl2,λj hj=>?_⟩)
   rcases Nat.lt_or_ge j i with h5 | h5
   . exact hno j h5
   . have:j=i:=by omega
     subst this
     intro hg
     rw[hbg.2 hg]at h3;cases h3
 . obtain rfl:i=n:=by omega
   exact he h1 k (H _ _ hl1 ⟨λhh=>by omega,λ⟨j,hj,hg⟩=>absurd hg (hno j hj)⟩)
def eqP{α:Type}(h:Hp)(x b:α):Prop:=x=b
def ptc(x:TPoint):List Value:=[.bool x.x.num.neg,Lf.sl.up x.x.num.mag,.bool x.x.den.neg,Lf.sl.up x.x.den.mag,.bool x.y.num.neg,Lf.sl.up x.y.num.mag,.bool x.y.den.neg,Lf.sl.up x.y.den.mag]
def rdc(x:TRound):List Value:=[.int .i64 x.center,.bool x.radius.num.neg,Lf.sl.up x.radius.num.mag,.bool x.radius.den.neg,Lf.sl.up x.radius.den.mag]
def sgc(x:TSegment):List Value:=[.int .i64 x.a,.int .i64 x.b]
def Z7y(x:TArc):List Value:=[.int .i64 x.circle,.int .i64 x.a,.int .i64 x.b,.bool x.cw]
def pic(x:TPiece):List Value:=[.bool x.arc,.int .i64 x.index,.bool x.back]
def slc(x:Sl):List Value:=[Lf.sl.up x]
def PTT(h:Hp)(x:TPoint)(b:Option Rat×Option Rat):Prop:=OR h x.x b.1/\OR h x.y b.2
def RN(h:Hp)(x:TRound)(b:Int×Option Rat):Prop:=x.center=b.1/\OR h x.radius b.2
def CHN(h:Hp)(x:Sl)(ps:List TPiece):Prop:=LR pic 3 eqP h x ps
theorem z3g:Rec ptc 8 PTT:=⟨λ_=>rfl,by decide,λ_=>rfl,λhx hl=>⟨hx.1.le hl,hx.2.le hl⟩⟩
theorem z69:Rec rdc 5 RN:=⟨λ_=>rfl,by decide,λ_=>rfl,λhx hl=>⟨hx.1,hx.2.le hl⟩⟩
theorem za3:Rec sgc 2 eqP:=⟨λ_=>rfl,by decide,λ_=>rfl,λhx hl=>hx⟩
theorem z3s:Rec Z7y 4 eqP:=⟨λ_=>rfl,by decide,λ_=>rfl,λhx hl=>hx⟩
theorem zm7:Rec pic 3 eqP:=⟨λ_=>rfl,by decide,λ_=>rfl,λhx hl=>hx⟩
theorem z83:Rec slc 1 CHN:=⟨λ_=>rfl,by decide,λ_=>rfl,λhx hl=>LR.le zm7 hx hl⟩
structure PSk where
 pts:List (Option Rat×Option Rat)
 cir:List (Int×Option Rat)
 seg:List TSegment
 arc:List TArc
 chn:List (List TPiece)
 con:List PCon
def SK(h:Hp)(s:TSketch)(S:PSk):Prop:=
 LR ptc 8 PTT h s.points S.pts/\LR rdc 5 RN h s.circles S.cir/\LR sgc 2 eqP h s.segments S.seg/\LR Z7y 4 eqP h s.arcs S.arc/\LR slc 1 CHN h s.chains S.chn/\LR cc 5 CO h s.constraints S.con
theorem SK.le{h h':Hp}{s:TSketch}{S:PSk}(hx:SK h s S)(hl:h.le h'):SK h' s S:=
 ⟨hx.1.le z3g hl,hx.2.1.le z69 hl,hx.2.2.1.le za3 hl,hx.2.2.2.1.le z3s hl,hx.2.2.2.2.1.le z83 hl,hx.2.2.2.2.2.le Yy hl⟩
def sSk(S:PSk):Prop:=S.pts.length<=10/\S.cir.length<=10/\S.seg.length<=10/\S.arc.length<=10/\S.chn.length<=10/\S.con.length<=20/\(∀c∈S.chn,c.length<=20)/\∀c∈S.con,sC c
def z9i(n:Nat)(i:Int):Prop:=0<=i/\i<n
def cen(S:PSk)(i:Int):Int:=(S.cir.getD i.toNat (0,none)).1
def z9c(S:PSk)(p:TPiece):Int×Int:=
 let q:=if p.arc=true then ((S.arc.getD p.index.toNat ⟨0,0,0,false⟩).a,(S.arc.getD p.index.toNat ⟨0,0,0,false⟩).b)else ((S.seg.getD p.index.toNat ⟨0,0⟩).a,(S.seg.getD p.index.toNat ⟨0,0⟩).b)
 if p.back=true then (q.2,q.1)else q
def okP(S:PSk)(p:TPiece):Prop:=z9i (if p.arc=true then S.arc.length else S.seg.length) p.index
def VCh(S:PSk)(c:List TPiece):Prop:=c≠[]/\(∀p∈c,okP S p)/\∀i (h:i+1<c.length),(z9c S c[i]).2=(z9c S c[i+1]).1
def VA(S:PSk)(a:TArc):Prop:=z9i S.cir.length a.circle/\z9i S.pts.length a.a/\z9i S.pts.length a.b/\a.a≠cen S a.circle/\a.b≠cen S a.circle
def VR(S:PSk)(c:Int×Option Rat):Prop:=z9i S.pts.length c.1/\∃q,c.2=some q/\0<q.num
def VG(S:PSk)(g:TSegment):Prop:=z9i S.pts.length g.a/\z9i S.pts.length g.b/\g.a≠g.b
def VP(p:Option Rat×Option Rat):Prop:=p.1.isSome=true/\p.2.isSome=true
def VS(S:PSk):Prop:=(∀p∈S.pts,VP p)/\(∀c∈S.cir,VR S c)/\(∀g∈S.seg,VG S g)/\(∀a∈S.arc,VA S a)/\(∀c∈S.chn,VCh S c)/\∀c∈S.con,VC c S.pts.length S.cir.length
theorem Q4{α:Type}{l:List α}{i:Nat}{d:α}(h:i<l.length):l.getD i d=l[i]:=by rw[List.getD_eq_getElem?_getD,List.getElem?_eq_getElem h];rfl
theorem ze2{α:Type}{l:List α}{P:α->Prop}:(∃i,i<l.length/\∃h:i<l.length,¬P l[i])↔¬∀x∈l,P x:=by
 constructor
 . rintro⟨i,hi,h,hn⟩ hh
   exact hn (hh _ (List.getElem_mem h))
 . intro hh
   apply Classical.byContradiction
   intro hn
   exact hh λx hx=>by
    obtain⟨i,hi,rfl⟩:=List.mem_iff_getElem.1 hx
    exact Classical.byContradiction λhp=>hn ⟨i,hi,hi,hp⟩
section
variable {h : Hp} {s : TSketch} {S : PSk} {Kb : Bool → Hp → Prop} {Ki : Int → Hp → Prop} {l : Sl}
theorem z5v{n:Nat}{i:Int}(H:∀b,(b=true↔z9i n i)->Kb b h):zc (F.W0 (n:Int) i) Kb h:=by
 refine zd (λb h'=>h'=h/\(b=true↔z9i n i)) (λK' hk=>?_) λb h' _ hb=>by obtain⟨rfl,hb⟩:=hb;exact H b hb
 unfold F.W0
 refine ze (λh1=>hk _ _ (Hp.le_refl _) ⟨rfl,by rw[decide_eq_true_iff];exact⟨λhh=>⟨h1,hh⟩,λhh=>hh.2⟩⟩) (λh1=>hk _ _ (Hp.le_refl _) ⟨rfl,λhh=>(by cases hh),λhh=>absurd hh.1 h1⟩)
theorem zla(hx:SK h s S)(hs:sSk S)(H:∀h',h.le h'->Kb false h'):zc (F.z2z s) Kb h:=by
 refine zd (λb h'=>b=false) (λK' hk=>?_) λb h' hl hb=>by subst hb;exact H h' hl
 unfold F.z2z
 obtain⟨x1,x2,x3,x4,x5,x6⟩:=hx
 obtain⟨s1,s2,s3,s4,s5,s6,s7,s8⟩:=hs
 have l1:=x1.len z3g
 have l2:=x2.len z69
 have l3:=x3.len za3
 have l4:=x4.len z3s
 have l5:=x5.len z83
 have l6:=x6.len Yy
 refine z9q λa h1 hl1 hc=>?_
 have hr:IL h1 ⟨some a,6,6⟩ [(s.points.len:Int),s.circles.len,s.segments.len,s.arcs.len,s.chains.len,s.constraints.len]:=⟨z2t hc rfl,Nat.le_refl _⟩
 refine Yr (n:=6) (by omega) (λi h'=>h'=h1) rfl ?_
 rintro i h1 hi rfl k hk2
 refine ze (λh2=>?_) (λh2=>?_)
 . have hi':i<6:=by have:(i:Int)<6:=h2;omega
   have hall:∀z∈([(s.points.len:Int),s.circles.len,s.segments.len,s.arcs.len,s.chains.len,s.constraints.len]:List Int),z<=20:=by
    simp only[List.mem_cons,List.not_mem_nil,or_false,forall_eq_or_imp,forall_eq]
    omega
   have h9:=hall _ (List.getElem_mem (show i<([(s.points.len:Int),s.circles.len,s.segments.len,s.arcs.len,s.chains.len,s.constraints.len]:List Int).length from hi'))
   refine hr.get i rfl hi' (ze (λh3=>?_) (λh3=>hk2 _ hi' rfl))
   exfalso
   have h3:_>(200:Int):=h3
   omega
 . refine zd (λb h'=>b=false) (λK2 hk3=>?_) λb h' hl hb=>hk _ _ (Hp.le_trans hl1 hl) hb
   unfold F.Z8
   refine zd (λr h'=>¬0<=r) (λK4 hk4=>?_) λr h' hl hr=>hk3 _ _ hl (decide_eq_false hr)
   unfold F.yk
   refine z9f (n:=S.chn.length) (g:=λi=>False) (by omega) (λi h' k hl hi' hb=>?_) (λh' k hk=>ze (λhh=>by simp only at hh;omega) (λ_=>hk)) (λr h' hl hr=>hk4 _ _ hl (λhh=>by obtain⟨_,_,hf⟩:=hr.1 hh;exact hf))
   refine ze (λ_=>?_) (λhh=>by simp only at hh;omega)
   refine(x5.le z83 (Hp.le_trans hl1 hl)).get z83 i rfl hi' λb x hxx hcc=>?_
   have e0:=hcc 0 _ rfl
   rw[Zq]at e0
   refine⟨_,e0,?_⟩
   have hxl:=LR.len zm7 hxx
   have:=s7 _ (List.getElem_mem hi')
   refine Zk false (λK' hk=>?_) (hb false _ (Hp.le_refl _) (by simp))
   unfold F.z3l
   rw[decide_eq_false (by omega)];exact hk
theorem Z52{p:TPiece}{K:(Int×Int)->Hp->Prop}(hx:SK h s S)(hp:okP S p)(H:K (z9c S p) h):F.z4j s p K h:=by
 unfold F.z4j
 obtain⟨x1,x2,x3,x4,x5,x6⟩:=hx
 unfold okP z9i at hp
 unfold z9c at H
 refine zk (λst h'=>h'=h/\(st.1,st.2.1)=(if p.arc=true then ((S.arc.getD p.index.toNat ⟨0,0,0,false⟩).a,(S.arc.getD p.index.toNat ⟨0,0,0,false⟩).b)else ((S.seg.getD p.index.toNat ⟨0,0⟩).a,(S.seg.getD p.index.toNat ⟨0,0⟩).b))) ?_ ?_
 . rintro⟨a,b,_⟩ h ⟨rfl,hab⟩
   simp only at hab H
   rw[<-hab]at H
   refine zp (λh1=>?_) (λh1=>?_)
   . rw[if_pos h1]at H;exact H
   . rw[h1]at H;exact H
 . refine zp (λh1=>?_) (λh1=>?_)
   . rw[if_pos h1]at hp
     have hk:p.index.toNat<S.arc.length:=by omega
     refine x4.get z3s p.index.toNat (by omega) hk λa x hxx hc=>⟨_,hc 1 _ rfl,x4.get z3s p.index.toNat (by omega) hk λb y hyy hc2=>⟨_,hc2 2 _ rfl,rfl,?_⟩⟩
     have e1:x=S.arc[p.index.toNat]:=hxx
     have e2:y=S.arc[p.index.toNat]:=hyy
     subst e1
     rw[if_pos h1,Q4 hk,e2]
   . rw[h1]at hp
     simp only[Bool.false_eq_true,if_false]at hp
     have hk:p.index.toNat<S.seg.length:=by omega
     refine x3.get za3 p.index.toNat (by omega) hk λa x hxx hc=>⟨_,hc 0 _ rfl,x3.get za3 p.index.toNat (by omega) hk λb y hyy hc2=>⟨_,hc2 1 _ rfl,rfl,?_⟩⟩
     have e1:x=S.seg[p.index.toNat]:=hxx
     have e2:y=S.seg[p.index.toNat]:=hyy
     subst e1
     rw[h1,Q4 hk,e2]
     rfl
theorem zt0{p:TPiece}{K:(Int×Int)->Hp->Prop}(hx:SK h s S)(hp:okP S p)(H:K (z9c S p) h):zc (F.z4j s p) K h:=Zk _ (λK' hk=>Z52 hx hp hk) H
end
end Den
end

section
namespace Den
open Go Iv Lx Go.Proofs
open Go.ChangeShapes Go.WideShapes Go.ChangeAt Go.RowKit
theorem Zip:laidOutB Tryz.prog=true:=by kernel_rfl
theorem Zdk:mapsRowed Tryz.prog=true:=by kernel_rfl
theorem Zdq:zt3 Tryz.prog=true:=by kernel_rfl
theorem Zbm:Tryz.prog.cellsOf 4=1:=by kernel_rfl
theorem zu9:Tryz.prog.cellsOf 3=1:=by kernel_rfl
section
variable {H : Type} {enc : TypeId × Value → H} {P : Program} {w : World}
theorem zuq{α β:Type}{c:α->List Value}{Q:α->β->Prop}{R:List Value->Prop}(hel:∀cs,R cs->∃x b,cs=c x/\Q x b):∀{css:List (List Value)},(∀d∈css,R d) ->
 ∃(xs:List α) (ps:List β),css.flatten=xs.flatMap c/\xs.length=ps.length/\css.length=xs.length/\∀k (h1:k<xs.length) (h2:k<ps.length),Q xs[k] ps[k]
 | [],_=>⟨[],[],rfl,rfl,rfl,λk h1 _=>by simp at h1⟩
 | d :: r,h=>by
   obtain⟨xs,ps,h1,h2,h3,h4⟩:=zuq hel (css:=r) λx hx=>h x (List.mem_cons_of_mem _ hx)
   obtain⟨x,b,hx,hq⟩:=hel d (h d (by simp))
   refine⟨x :: xs,b :: ps,?_,by simp[h2],by simp[h3],λk k1 k2=>?_⟩
   . rw[List.flatten_cons,h1,hx];rfl
   . cases k with
     | zero=>exact hq
     | succ k=>exact h4 k (by simpa using k1) (by simpa using k2)
theorem X4{cs a r:List Value}{o k:Nat}(h1:(cs.drop o).take k=a)(h2:cs.drop (o+k)=r):cs.drop o=a++r:=by
 rw[<-h1,<-h2,<-List.drop_drop,List.take_append_drop]
theorem zdu{cs:List Value}{n:Nat}(h:cs.length=n):cs.drop n=[]:=List.drop_of_length_le (by omega)
end
section
variable {H : Type} {enc : TypeId × Value → H} {w : World} {cs : List Value}
end
theorem Zko{P:Program}{W:World}{r:Reach}{b:Nat}{t:TypeId}{v:Value}(h:Value.okWide P W r b t v)(hu:isAgg? P t=some true):∃c:List Value,v=.agg c.toArray/\v.cells.toList=c:=by
 unfold isAgg? at hu
 unfold Value.okWide at h
 split at h
 . obtain⟨cs,rfl,_⟩:=h;exact⟨cs.toList,by simp,by simp[Value.cells]⟩
 . obtain⟨cs,rfl,_⟩:=h;exact⟨cs.toList,by simp,by simp[Value.cells]⟩
 . rename_i h1 h2
   split at hu
   . rename_i hh;exact absurd hh (h1 _)
   . rename_i hh;exact absurd hh (h2 _ _)
   . cases hu
   . cases hu
end Den
end

section
namespace Den
open Go Iv Lx Go.Proofs Go.Proofs.YtijmjfcnjfnpgaaGreatDoor
open Go.ChangeShapes Go.WideShapes Go.ChangeAt Go.RowKit
theorem z59{P:Program}{w:World}:∀{l:List (String×DataW Unit)} {ps:List MemPlace},DataW.LaidVars P w l ps->∀{n:String} {d:DataW Unit},(n,d)∈l ->
 ∃g t cs fuel p,P.globalNamed n=some g/\(P.globals[g]?).map (·.type)=some t/\w.var? P n=some cs/\DataW.trod (λ_=>()) P w 0 (λ_=>true) false fuel t cs.toList=some (d,p)
 | [],_,_,_,_,hm=>by simp at hm
 | (n0,d0) :: r,_,⟨g,t,cs,fuel,p,q,h1,h2,h3,h4,h5,_⟩,n,d,hm=>by
   rcases List.mem_cons.1 hm with e | hm
   . cases e
     exact⟨g,t,cs,fuel,p,h1,h2,h3,h4⟩
   . exact z59 h5 hm
section
variable {H : Type} {enc : TypeId × Value → H} {P : Program} {w : World} {base : Nat} {sp : Nat → Bool} {held : Bool} {n : Nat} {t e : TypeId} {cs : List Value} {ps : List MemPlace}
theorem zcu{k:IntKind}{ns:List Int}{m:Nat}(ht:P.underlying t=some (.array m e))(he:P.underlying e=some (.int k))(hc:P.cellsOf e=1)
 (h:DataW.trod enc P w base sp held n t cs=some (.agg (ns.map λz=>.lit (.int k z)),ps)):∀i,i<ns.length->cs[i]?=some (.int k (ns.getD i 0)):=by
 obtain⟨xs,q,_,hx,hl,hxl,hf⟩:=DataW.trod_array ht h
 simp only[Prod.mk.injEq,DataW.agg.injEq]at hx
 intro i hi
 have hxs:xs.length=ns.length:=by have:=congrArg List.length hx.1;simpa using this.symm
 have h1:=hf i (by omega)
 rw[hc,Nat.mul_one,List.getElem?_eq_getElem (by omega)]at h1
 have h2:xs[i].1=.lit (.int k ns[i]):=by
  have:=congrArg (λl:List (DataW H)=>l[i]?) hx.1
  simp only[List.getElem?_map]at this
  rw[List.getElem?_eq_getElem hi,List.getElem?_eq_getElem (by omega)]at this
  exact(Option.some.inj this).symm
 obtain⟨z,e1,e2,_⟩:=DataW.trod_int he h1
 rw[e2]at h2
 have hz:z=ns[i]:=by simpa using h2
 have h3:((cs.drop i).take 1)[0]?=some (.int k z):=by rw[e1];rfl
 rw[hz]at h3
 have e4:ns.getD i 0=ns[i]:=by rw[List.getD_eq_getElem?_getD,List.getElem?_eq_getElem hi];rfl
 rw[e4]
 simpa [List.getElem?_take,List.getElem?_drop] using h3
theorem zpd{cs a:List Value}{o k j:Nat}{v:Value}(h:(cs.drop o).take k=a)(hv:a[j]?=some v):cs[o+j]?=some v:=by
 rw[<-h]at hv
 rw[List.getElem?_take]at hv
 split at hv
 . rw[List.getElem?_drop]at hv;exact hv
 . cases hv
theorem zao{k:IntKind}{z:Int}(he:P.underlying t=some (.int k))(h:DataW.trod enc P w base sp held n t cs=some (.lit (.int k z),ps)):cs=[.int k z]:=by
 obtain⟨y,e1,e2,_⟩:=DataW.trod_int he h
 simp only[Prod.mk.injEq,DataW.lit.injEq,Lit.int.injEq]at e2
 rw[e1,e2.1.2]
theorem zbl{b:Bool}(he:P.underlying t=some .bool)(h:DataW.trod enc P w base sp held n t cs=some (.lit (.bool b),ps)):cs=[.bool b]:=by
 obtain⟨y,e1,e2⟩:=DataW.trod_bool he h
 simp only[Prod.mk.injEq,DataW.lit.injEq,Lit.bool.injEq]at e2
 rw[e1,e2.1]
end
theorem zqe(g i:Nat):(⟨g,0,none⟩:Addr).add i=⟨g,i,none⟩:=by
 have h1:=Yi (⟨g,0,none⟩:Addr) i
 have h2:=Xr (⟨g,0,none⟩:Addr) i
 have h3:=V1 (a:=(⟨g,0,none⟩:Addr)) rfl i
 cases hh:(⟨g,0,none⟩:Addr).add i with
 | mk a b c=>
   rw[hh]at h1 h2 h3
   simp only at h1 h2 h3
   subst h1 h2 h3
   simp
theorem Zkt:Tryz.prog.globalNamed "internal/strconv.uint64pow10"=some 2:=by kernel_rfl
theorem Zks:Tryz.prog.globalNamed "setsquare/formula.operands"=some 1:=by kernel_rfl
theorem Zku:Tryz.prog.globalNamed "setsquare/constraint.table"=some 0:=by kernel_rfl
theorem Zl4:(Tryz.prog.globals[2]?).map (·.type)=some 401:=by kernel_rfl
theorem Zl3:(Tryz.prog.globals[1]?).map (·.type)=some 309:=by kernel_rfl
theorem Zl5:(Tryz.prog.globals[0]?).map (·.type)=some 265:=by kernel_rfl
theorem Zj1:Tryz.prog.cellsOf 203=1:=by kernel_rfl
theorem Ziz:Tryz.prog.cellsOf 264=8:=by kernel_rfl
theorem Z9q:Tryz.prog.cellsOf 214=7:=by kernel_rfl
section
variable {W : World}
theorem Zcy{H:Type}{enc:TypeId×Value->H}{n:Nat}{c:List Value}{nm:DataW H}{a b d e:Int}{f g k:Bool}{ps:List MemPlace}
 (h:DataW.trod enc Tryz.prog W 0 (λ_=>true) false n 264 c=some (.agg [nm,.agg [.lit (.int .i64 a),.lit (.int .i64 b),.lit (.int .i64 d),.lit (.int .i64 e),.lit (.bool f),.lit (.bool g),.lit (.bool k)]],ps)) :
 ∀j v,([.int .i64 a,.int .i64 b,.int .i64 d,.int .i64 e,.bool f,.bool g,.bool k]:List Value)[j]?=some v->c[1+j]?=some v:=by
 obtain⟨xs,m,_,hx,hl,hxl,hf⟩:=DataW.trod_struct Tryz.underlying264 h
 simp only[Prod.mk.injEq,DataW.agg.injEq]at hx
 have h1:DataW.trod enc Tryz.prog W 0 (λ_=>true) false m 214 ((c.drop 1).take (Tryz.prog.cellsOf 214))=xs[1]?:=hf 1 _ rfl
 rw[Z9q]at h1
 match xs,hx with
 | [x0,x1],hx=>
   simp only[List.map_cons,List.map_nil,List.cons.injEq,and_true]at hx
   obtain⟨⟨_,hx1⟩,_⟩:=hx
   simp only[List.getElem?_cons_succ,List.getElem?_cons_zero]at h1
   obtain⟨d1,p1⟩:=x1
   simp only at hx1
   subst hx1
   obtain⟨ys,q,_,hy,hyl,hyl2,hg⟩:=DataW.trod_struct Tryz.underlying214 h1
   simp only[Prod.mk.injEq,DataW.agg.injEq]at hy
   match ys,hy with
   | [y0,y1,y2,y3,y4,y5,y6],hy=>
     simp only[List.map_cons,List.map_nil,List.cons.injEq,and_true]at hy
     obtain⟨⟨z0,z1,z2,z3,z4,z5,z6⟩,_⟩:=hy
     have g0:DataW.trod enc Tryz.prog W 0 (λ_=>true) false q 3 ((((c.drop 1).take 7).drop 0).take (Tryz.prog.cellsOf 3))=some y0:=hg 0 _ rfl
     have g1:DataW.trod enc Tryz.prog W 0 (λ_=>true) false q 3 ((((c.drop 1).take 7).drop 1).take (Tryz.prog.cellsOf 3))=some y1:=hg 1 _ rfl
     have g2:DataW.trod enc Tryz.prog W 0 (λ_=>true) false q 3 ((((c.drop 1).take 7).drop 2).take (Tryz.prog.cellsOf 3))=some y2:=hg 2 _ rfl
     have g3:DataW.trod enc Tryz.prog W 0 (λ_=>true) false q 3 ((((c.drop 1).take 7).drop 3).take (Tryz.prog.cellsOf 3))=some y3:=hg 3 _ rfl
     have g4:DataW.trod enc Tryz.prog W 0 (λ_=>true) false q 4 ((((c.drop 1).take 7).drop 4).take (Tryz.prog.cellsOf 4))=some y4:=hg 4 _ rfl
     have g5:DataW.trod enc Tryz.prog W 0 (λ_=>true) false q 4 ((((c.drop 1).take 7).drop 5).take (Tryz.prog.cellsOf 4))=some y5:=hg 5 _ rfl
     have g6:DataW.trod enc Tryz.prog W 0 (λ_=>true) false q 4 ((((c.drop 1).take 7).drop 6).take (Tryz.prog.cellsOf 4))=some y6:=hg 6 _ rfl
     rw[zu9]at g0 g1 g2 g3
     rw[Zbm]at g4 g5 g6
     obtain⟨u0,w0⟩:=y0;obtain⟨u1,w1⟩:=y1;obtain⟨u2,w2⟩:=y2;obtain⟨u3,w3⟩:=y3;obtain⟨u4,w4⟩:=y4;obtain⟨u5,w5⟩:=y5;obtain⟨u6,w6⟩:=y6
     simp only at z0 z1 z2 z3 z4 z5 z6
     subst z0 z1 z2 z3 z4 z5 z6
     have r0:=zao Tryz.underlying3 g0
     have r1:=zao Tryz.underlying3 g1
     have r2:=zao Tryz.underlying3 g2
     have r3:=zao Tryz.underlying3 g3
     have r4:=zbl Tryz.underlying4 g4
     have r5:=zbl Tryz.underlying4 g5
     have r6:=zbl Tryz.underlying4 g6
     have hall:(c.drop 1).take 7=[.int .i64 a,.int .i64 b,.int .i64 d,.int .i64 e,.bool f,.bool g,.bool k]:=by
      have hl7:((c.drop 1).take 7).length=7:=by rw[Z9q]at hyl;exact hyl
      exact X4 r0 (X4 r1 (X4 r2 (X4 r3 (X4 r4 (X4 r5 (X4 r6 (zdu hl7)))))))
     intro j v hv
     exact zpd hall hv
def Zaw:List Int:=[1,10,100,1000,10000,100000,1000000,10000000,100000000,1000000000,10000000000,100000000000,1000000000000,10000000000000,100000000000000,1000000000000000,10000000000000000,100000000000000000,1000000000000000000,10000000000000000000]
theorem Z4w:∀i:Fin 20,Zaw.getD i 0=((10 ^ (i:Nat):Nat):Int):=by decide
theorem Zlc{l:List (String×DataW Unit)}(h:laidMet Tryz.prog l W)(h1:("internal/strconv.uint64pow10",Rows.laid_internal_strconv_uint64pow10)∈l)
 (h2:("setsquare/formula.operands",Rows.laid_setsquare_formula_operands)∈l) (h3:("setsquare/constraint.table",Rows.laid_setsquare_constraint_table)∈l):GT (hpW W):=by
 obtain⟨ps,hv,_⟩:=h
 refine⟨λi hi=>?_,λi hi=>?_,λk hk1 hk2=>?_⟩
 . obtain⟨g,t,cs,fuel,p,hg,ht,hvar,hd⟩:=z59 hv h1
   obtain rfl:=Option.some.inj (Zkt.symm.trans hg)
   obtain rfl:=Option.some.inj (Zl4.symm.trans ht)
   have hd':DataW.trod (λ_=>()) Tryz.prog W 0 (λ_=>true) false fuel 401 cs.toList=some (.agg (Zaw.map λz=>.lit (.int .u64 z)),p):=hd
   have:=zcu Tryz.underlying401 Tryz.underlying203 Zj1 hd' i hi
   rw[zcs,zqe,World.var?_cell hg hvar i,<-Array.getElem?_toList,this]
   have e:=Z4w ⟨i,hi⟩
   rw[<-e]
 . obtain⟨g,t,cs,fuel,p,hg,ht,hvar,hd⟩:=z59 hv h2
   obtain rfl:=Option.some.inj (Zks.symm.trans hg)
   obtain rfl:=Option.some.inj (Zl3.symm.trans ht)
   have hd':DataW.trod (λ_=>()) Tryz.prog W 0 (λ_=>true) false fuel 309 cs.toList=some (.agg (([0,0,0,1,2,2,2,2]:List Int).map λz=>.lit (.int .i64 z)),p):=hd
   have:=zcu Tryz.underlying309 Tryz.underlying3 zu9 hd' i hi
   rw[zcs,zqe,World.var?_cell hg hvar i,<-Array.getElem?_toList,this]
 . obtain⟨g,t,cs,fuel,p,hg,ht,hvar,hd⟩:=z59 hv h3
   obtain rfl:=Option.some.inj (Zku.symm.trans hg)
   obtain rfl:=Option.some.inj (Zl5.symm.trans ht)
   obtain⟨xs,q,_,hx,hl,hxl,hf⟩:=DataW.trod_array Tryz.underlying265 hd
   simp only[Prod.mk.injEq]at hx
   have hk:=hf k (by omega)
   rw[Ziz]at hk
   rw[List.getElem?_eq_getElem (by omega)]at hk
   have hx1:(xs.map (·.1))=(match (Rows.laid_setsquare_constraint_table:DataW Unit)with | .agg l=>l | _=>[]):=by rw[hx.1]
   have hxk:(xs[k]'(by omega)).1=((match (Rows.laid_setsquare_constraint_table:DataW Unit)with | .agg l=>l | _=>[]):List (DataW Unit)).getD k .nil:=by
    rw[<-hx1,List.getD_eq_getElem?_getD,List.getElem?_map,List.getElem?_eq_getElem (by omega)]
    rfl
   have fin:∀(nm:DataW Unit) (a b d e:Int) (f g kk:Bool),(xs[k]'(by omega)).1=.agg [nm,.agg [.lit (.int .i64 a),.lit (.int .i64 b),.lit (.int .i64 d),.lit (.int .i64 e),.lit (.bool f),.lit (.bool g),.lit (.bool kk)]] ->
    ((shK k).1:Int)=a->((shK k).2.1:Int)=b->((shK k).2.2.1:Int)=d->((shK k).2.2.2.1:Int)=e->(shK k).2.2.2.2=f ->
    ∃ln ps:Bool,∀j v,([.int .i64 ((shK k).1:Int),.int .i64 ((shK k).2.1:Int),.int .i64 ((shK k).2.2.1:Int),.int .i64 ((shK k).2.2.2.1:Int),.bool (shK k).2.2.2.2,.bool ln,.bool ps]:List Value)[j]?=some v ->
     (hpW W).cell ((((⟨0,0,none⟩:Addr).add (k*8)).add 1).add j)=some v:=by
    intro nm a b d e f g kk he ea eb ed ee ef
    refine⟨g,kk,λj v hv=>?_⟩
    have hk':DataW.trod (λ_=>()) Tryz.prog W 0 (λ_=>true) false q 264 ((cs.toList.drop (k*8)).take 8)=some (.agg [nm,.agg [.lit (.int .i64 a),.lit (.int .i64 b),.lit (.int .i64 d),.lit (.int .i64 e),.lit (.bool f),.lit (.bool g),.lit (.bool kk)]],(xs[k]'(by omega)).2):=by
     rw[hk]
     congr 1
     exact Prod.ext he rfl
    rw[ea,eb,ed,ee,ef]at hv
    have h5:=Zcy hk' j v hv
    have h6:cs.toList[k*8+(1+j)]?=some v:=zpd rfl h5
    rw[zcs,Wl,Wl,zqe,World.var?_cell hg hvar,<-Array.getElem?_toList]
    exact h6
   clear hd hf hk hl hx hx1
   rcases(by omega:k=1\/k=2\/k=3\/k=4\/k=5\/k=6\/k=7\/k=8\/k=9\/k=10\/k=11\/k=12\/k=13\/k=14\/k=15\/k=16\/k=17)with rfl | rfl | rfl | rfl | rfl | rfl | rfl | rfl | rfl | rfl | rfl | rfl | rfl | rfl | rfl | rfl | rfl <;>
    exact fin _ _ _ _ _ _ _ _ hxk rfl rfl rfl rfl rfl
end
end Den
end

section
namespace Den
open Go Iv Lx
section
variable {h : Hp} {s : TSketch} {S : PSk} {Kb : Bool → Hp → Prop} {Ki : Int → Hp → Prop} {l : Sl}
theorem zaq{b:Bool}{P:Prop}(h:b=true↔¬P):(!b)=true↔P:=by
 rw[Bool.not_eq_true',<-Bool.not_eq_true,h]
 exact⟨λhh=>Classical.byContradiction hh,λhh hn=>hn hh⟩
theorem zn4{ps:List (Option Rat×Option Rat)}(hx:LR ptc 8 PTT h l ps)(hlen:ps.length<=1000000)(H:∀b h',h.le h'->(b=true↔∀p∈ps,VP p)->Kb b h'):zc (F.Ym l) Kb h:=by
 refine zd (λb h'=>(b=true↔∀p∈ps,VP p)) (λK' hk=>?_) λb h' hl hb=>H b h' hl hb
 unfold F.Ym
 refine Wo λa h1 hl1 hc1=>?_
 have hl:=hx.len z3g
 refine zd (λb h'=>(b=true↔¬∀p∈ps,VP p)) (λK2 hk2=>?_) λb h' hl hb=>hk _ _ (Hp.le_trans hl1 hl) (zaq hb)
 unfold F.Zd
 refine zd (λr h'=>(0<=r↔¬∀p∈ps,VP p)) (λK3 hk3=>?_) λr h' hl hr=>hk2 _ _ hl (by rw[decide_eq_true_iff];exact hr)
 unfold F.Zi
 refine z9f (n:=ps.length) (g:=λi=>∃h:i<ps.length,¬VP ps[i]) (by omega) (λi h' k hl' hi' hb=>?_) (λh' k hk=>ze (λhh=>by simp only at hh;omega) (λ_=>hk)) (λr h' hl hr=>hk3 _ _ hl (by rw[hr,ze2]))
 refine ze (λ_=>?_) (λhh=>by simp only at hh;omega)
 refine(hx.le z3g (Hp.le_trans hl1 hl')).get z3g i rfl hi' λb x hxx hc=>?_
 refine⟨_,hc 0 _ rfl,_,hc 1 _ rfl,_,hc 2 _ rfl,_,hc 3 _ rfl,_,hc 4 _ rfl,_,hc 5 _ rfl,_,hc 6 _ rfl,_,hc 7 _ rfl,?_⟩
 refine zd (λb h'=>(b=true↔¬VP ps[i])) (λK4 hk4=>?_) λb h'' hl'' hbb=>hb b h'' hl'' (by rw[hbb];exact⟨λhh=>⟨hi',hh⟩,λ⟨_,hh⟩=>hh⟩)
 unfold F.qa
 refine⟨_,Hp.cell_le hl' hc1,rfl,?_⟩
 refine zd (λb h'=>(b=true↔VP ps[i])) (λK5 hk5=>?_) λb h'' hl'' hbb=>hk4 _ _ hl'' (by rw[Bool.not_eq_true',<-Bool.not_eq_true,hbb])
 unfold F.z6b
 refine zg5 hxx.1 λh2 hl2=>?_
 refine zp (λh3=>zg5 (hxx.2.le hl2) λh4 hl4=>hk5 _ _ (Hp.le_trans hl2 hl4) ⟨λhh=>⟨h3,hh⟩,λhh=>hh.2⟩) (λh3=>hk5 _ _ hl2 ⟨λhh=>(by cases hh),λhh=>by rw[hh.1]at h3;cases h3⟩)
theorem Zl0{q:Rat}:q.num.sign>0↔0<q.num:=by
 constructor
 . intro hh;exact Int.sign_pos_iff.1 hh
 . intro hh;exact Int.sign_pos_iff.2 hh
theorem zov{x:TRat}{q:Rat}(hx:NR h x q)(hl1:x.num.mag.len<=35184372087808)(H:Ki q.num.sign h):zc (F.Qj x) Ki h:=
 Zk _ (λK' hk=>zbj hx.1 (zm3 hx.1 hl1) hk) H
theorem zn5{ps:List (Int×Option Rat)}{a0:Addr}(hx:LR rdc 5 RN h l ps)(hlen:ps.length<=1000000)(h0:h.cell a0=some (.int .i64 (S.pts.length:Int)))(H:∀b h',h.le h'->(b=true↔∀p∈ps,VR S p)->Kb b h'):zc (F.Yn l (some a0,())) Kb h:=by
 refine zd (λb h'=>(b=true↔∀p∈ps,VR S p)) (λK' hk=>?_) λb h' hl hb=>H b h' hl hb
 unfold F.Yn
 refine Wo λa h1 hl1 hc1=>?_
 have hl:=hx.len z69
 refine zd (λb h'=>(b=true↔¬∀p∈ps,VR S p)) (λK2 hk2=>?_) λb h' hl hb=>hk _ _ (Hp.le_trans hl1 hl) (zaq hb)
 unfold F.Ze
 refine zd (λr h'=>(0<=r↔¬∀p∈ps,VR S p)) (λK3 hk3=>?_) λr h' hl hr=>hk2 _ _ hl (by rw[decide_eq_true_iff];exact hr)
 unfold F.Zj
 refine z9f (n:=ps.length) (g:=λi=>∃h:i<ps.length,¬VR S ps[i]) (by omega) (λi h' k hl' hi' hb=>?_) (λh' k hk=>ze (λhh=>by simp only at hh;omega) (λ_=>hk)) (λr h' hl hr=>hk3 _ _ hl (by rw[hr,ze2]))
 refine ze (λ_=>?_) (λhh=>by simp only at hh;omega)
 refine(hx.le z69 (Hp.le_trans hl1 hl')).get z69 i rfl hi' λb x hxx hc=>?_
 refine⟨_,hc 0 _ rfl,_,hc 1 _ rfl,_,hc 2 _ rfl,_,hc 3 _ rfl,_,hc 4 _ rfl,?_⟩
 refine zd (λb h'=>(b=true↔¬VR S ps[i])) (λK4 hk4=>?_) λb h'' hl'' hbb=>hb b h'' hl'' (by rw[hbb];exact⟨λhh=>⟨hi',hh⟩,λ⟨_,hh⟩=>hh⟩)
 unfold F.qb
 refine⟨_,Hp.cell_le hl' hc1,some a0,rfl,?_⟩
 refine zd (λb h'=>(b=true↔VR S ps[i])) (λK5 hk5=>?_) λb h'' hl'' hbb=>hk4 _ _ hl'' (by rw[Bool.not_eq_true',<-Bool.not_eq_true,hbb])
 unfold F.z6c
 refine⟨_,Hp.cell_le (Hp.le_trans hl1 hl') h0,?_⟩
 have hx1:=hxx.1
 have hx2:=hxx.2
 have no:∀h'',h'.le h''->¬VR S ps[i]->K5 false h'':=λh'' hl hn=>hk5 _ _ hl ⟨λhh=>(by cases hh),λhh=>absurd hh hn⟩
 simp only
 rw[hx1]
 refine z5v λb hb=>?_
 refine zp (λh2=>?_) (λh2=>no _ (Hp.le_refl _) λhv=>by rw[hb.2 hv.1]at h2;cases h2)
 refine zg5 hx2 λh3 hl3=>?_
 refine zp (λh4=>?_) (λh4=>no _ hl3 λhv=>by obtain⟨q,hq,_⟩:=hv.2;rw[hq]at h4;cases h4)
 obtain⟨q,hq⟩:=Option.isSome_iff_exists.1 h4
 rw[hq]at hx2
 refine zov (hx2.nr.le hl3) hx2.2.1 (hk5 _ _ hl3 ?_)
 rw[decide_eq_true_iff,Zl0]
 exact⟨λhh=>⟨hb.1 h2,q,hq,hh⟩,λhh=>by obtain⟨q',hq',h5⟩:=hh.2;rw[hq]at hq';cases hq';exact h5⟩
theorem zn6{ps:List TSegment}{a0:Addr}(hx:LR sgc 2 eqP h l ps)(hlen:ps.length<=1000000)(h0:h.cell a0=some (.int .i64 (S.pts.length:Int)))(H:∀b h',h.le h'->(b=true↔∀p∈ps,VG S p)->Kb b h'):zc (F.Yc l (some a0,())) Kb h:=by
 refine zd (λb h'=>(b=true↔∀p∈ps,VG S p)) (λK' hk=>?_) λb h' hl hb=>H b h' hl hb
 unfold F.Yc
 refine Wo λa h1 hl1 hc1=>?_
 have hl:=hx.len za3
 refine zd (λb h'=>(b=true↔¬∀p∈ps,VG S p)) (λK2 hk2=>?_) λb h' hl hb=>hk _ _ (Hp.le_trans hl1 hl) (zaq hb)
 unfold F.zz
 refine zd (λr h'=>(0<=r↔¬∀p∈ps,VG S p)) (λK3 hk3=>?_) λr h' hl hr=>hk2 _ _ hl (by rw[decide_eq_true_iff];exact hr)
 unfold F.z7
 refine z9f (n:=ps.length) (g:=λi=>∃h:i<ps.length,¬VG S ps[i]) (by omega) (λi h' k hl' hi' hb=>?_) (λh' k hk=>ze (λhh=>by simp only at hh;omega) (λ_=>hk)) (λr h' hl hr=>hk3 _ _ hl (by rw[hr,ze2]))
 refine ze (λ_=>?_) (λhh=>by simp only at hh;omega)
 refine(hx.le za3 (Hp.le_trans hl1 hl')).get za3 i rfl hi' λb x hxx hc=>?_
 refine⟨_,hc 0 _ rfl,_,hc 1 _ rfl,?_⟩
 have hxx:x=ps[i]:=hxx
 subst hxx
 refine zd (λb h'=>(b=true↔¬VG S ps[i])) (λK4 hk4=>?_) λb h'' hl'' hbb=>hb b h'' hl'' (by rw[hbb];exact⟨λhh=>⟨hi',hh⟩,λ⟨_,hh⟩=>hh⟩)
 unfold F.Y2
 refine⟨_,Hp.cell_le hl' hc1,some a0,rfl,?_⟩
 refine zd (λb h'=>(b=true↔VG S ps[i])) (λK5 hk5=>?_) λb h'' hl'' hbb=>hk4 _ _ hl'' (by rw[Bool.not_eq_true',<-Bool.not_eq_true,hbb])
 unfold F.z6d
 have c0:=Hp.cell_le (Hp.le_trans hl1 hl') h0
 have no:¬VG S ps[i]->K5 false h':=λhn=>hk5 _ _ (Hp.le_refl _) ⟨λhh=>(by cases hh),λhh=>absurd hh hn⟩
 refine⟨_,c0,?_⟩
 refine z5v λb hb=>?_
 refine zp (λh2=>?_) (λh2=>no λhv=>by rw[hb.2 hv.1]at h2;cases h2)
 refine⟨_,c0,?_⟩
 refine z5v λb3 hb3=>?_
 refine zp (λh4=>?_) (λh4=>no λhv=>by rw[hb3.2 hv.2.1]at h4;cases h4)
 refine hk5 _ _ (Hp.le_refl _) ?_
 rw[bne_iff_ne]
 exact⟨λhh=>⟨hb.1 h2,hb3.1 h4,hh⟩,λhh=>hh.2.2⟩
theorem Z83{i:Int}{K:Int->Prop}(hx:SK h s S)(hi:z9i S.cir.length i)(H:K (cen S i)):zg s.circles i 5 λa=>ldL (.int .i64) (a.add 0) K h:=by
 obtain⟨h0,h1⟩:=hi
 have hk:i.toNat<S.cir.length:=by omega
 refine hx.2.1.get z69 i.toNat (by omega) hk λa x hxx hc=>⟨_,hc 0 _ rfl,?_⟩
 rw[hxx.1]
 unfold cen at H
 rw[List.getD_eq_getElem?_getD,List.getElem?_eq_getElem hk]at H
 exact H
theorem zje{a:TArc}(hx:SK h s S)(H:∀b,(b=true↔VA S a)->Kb b h):zc (F.z1t s a) Kb h:=by
 refine zd (λb h'=>h'=h/\(b=true↔VA S a)) (λK' hk=>?_) λb h' _ hb=>by obtain⟨rfl,hb⟩:=hb;exact H b hb
 unfold F.z1t
 have l1:=hx.1.len z3g
 have l2:=hx.2.1.len z69
 have no:¬VA S a->K' false h:=λhn=>hk _ _ (Hp.le_refl _) ⟨rfl,λhh=>(by cases hh),λhh=>absurd hh hn⟩
 refine zk (λ_ h'=>h'=h/\z9i S.cir.length a.circle/\z9i S.pts.length a.a/\z9i S.pts.length a.b) ?_ ?_
 . rintro _ h ⟨rfl,g1,g2,g3⟩
   refine Z83 hx g1 ?_
   refine yt (λh1=>hk _ _ (Hp.le_refl _) ⟨rfl,?_⟩) (λh1=>no λhv=>hv.2.2.2.1 h1)
   rw[bne_iff_ne]
   exact⟨λhh=>⟨g1,g2,g3,h1,hh⟩,λhh=>hh.2.2.2.2⟩
 . rw[l1,l2]
   refine z5v λb hb=>zp (λh2=>no λhv=>by rw[hb.2 hv.1]at h2;cases h2) λh2=>?_
   refine z5v λb3 hb3=>zp (λh4=>no λhv=>by rw[hb3.2 hv.2.1]at h4;cases h4) λh4=>?_
   refine z5v λb5 hb5=>zp (λh6=>no λhv=>by rw[hb5.2 hv.2.2.1]at h6;cases h6) λh6=>?_
   exact⟨rfl,hb.1 (by simpa using h2),hb3.1 (by simpa using h4),hb5.1 (by simpa using h6)⟩
def SKC(h:Hp)(a:Addr)(s:TSketch):Prop:=∀i v,([Lf.sl.up s.points,Lf.sl.up s.circles,Lf.sl.up s.segments,Lf.sl.up s.arcs,Lf.sl.up s.chains,Lf.sl.up s.constraints]:List Value)[i]?=some v->h.cell (a.add i)=some v
theorem SKC.le{h h':Hp}{a:Addr}{s:TSketch}(hx:SKC h a s)(hl:h.le h'):SKC h' a s:=λi v hv=>Hp.cell_le hl (hx i v hv)
theorem zn1{ps:List TArc}{a0:Addr}(hx:LR Z7y 4 eqP h l ps)(hlen:ps.length<=1000000)(h0:SKC h a0 s)(hS:SK h s S)(H:∀b h',h.le h'->(b=true↔∀p∈ps,VA S p)->Kb b h'):zc (F.Yv l (some a0,())) Kb h:=by
 refine zd (λb h'=>(b=true↔∀p∈ps,VA S p)) (λK' hk=>?_) λb h' hl hb=>H b h' hl hb
 unfold F.Yv
 refine Wo λa h1 hl1 hc1=>?_
 have hl:=hx.len z3s
 refine zd (λb h'=>(b=true↔¬∀p∈ps,VA S p)) (λK2 hk2=>?_) λb h' hl hb=>hk _ _ (Hp.le_trans hl1 hl) (zaq hb)
 unfold F.Zl
 refine zd (λr h'=>(0<=r↔¬∀p∈ps,VA S p)) (λK3 hk3=>?_) λr h' hl hr=>hk2 _ _ hl (by rw[decide_eq_true_iff];exact hr)
 unfold F.Zr
 refine z9f (n:=ps.length) (g:=λi=>∃h:i<ps.length,¬VA S ps[i]) (by omega) (λi h' k hl' hi' hb=>?_) (λh' k hk=>ze (λhh=>by simp only at hh;omega) (λ_=>hk)) (λr h' hl hr=>hk3 _ _ hl (by rw[hr,ze2]))
 refine ze (λ_=>?_) (λhh=>by simp only at hh;omega)
 refine(hx.le z3s (Hp.le_trans hl1 hl')).get z3s i rfl hi' λb x hxx hc=>?_
 refine⟨_,hc 0 _ rfl,_,hc 1 _ rfl,_,hc 2 _ rfl,_,hc 3 _ rfl,?_⟩
 have hxx:x=ps[i]:=hxx
 subst hxx
 refine zd (λb h'=>(b=true↔¬VA S ps[i])) (λK4 hk4=>?_) λb h'' hl'' hbb=>hb b h'' hl'' (by rw[hbb];exact⟨λhh=>⟨hi',hh⟩,λ⟨_,hh⟩=>hh⟩)
 unfold F.qu
 refine⟨_,Hp.cell_le hl' hc1,some a0,rfl,?_⟩
 refine zd (λb h'=>(b=true↔VA S ps[i])) (λK5 hk5=>?_) λb h'' hl'' hbb=>hk4 _ _ hl'' (by rw[Bool.not_eq_true',<-Bool.not_eq_true,hbb])
 unfold F.z6e
 have c0:=h0.le (Hp.le_trans hl1 hl')
 refine⟨_,c0 0 _ rfl,_,c0 1 _ rfl,_,c0 2 _ rfl,_,c0 3 _ rfl,_,c0 4 _ rfl,_,c0 5 _ rfl,?_⟩
 exact zje (s:=s) (hS.le (Hp.le_trans hl1 hl')) λb hb=>hk5 _ _ (Hp.le_refl _) hb
theorem zfy{ps:List TPiece}(hx:SK h s S)(hc:LR pic 3 eqP h l ps)(hlen:ps.length<=1000)(hs:sSk S)(H:∀b,(b=true↔VCh S ps)->Kb b h):zc (F.z02 s l) Kb h:=by
 refine zd (λb h'=>h'=h/\(b=true↔VCh S ps)) (λK' hk=>?_) λb h' _ hb=>by obtain⟨rfl,hb⟩:=hb;exact H b hb
 unfold F.z02
 have l3:=hx.2.2.1.len za3
 have l4:=hx.2.2.2.1.len z3s
 have lc:=hc.len zm7
 have no:¬VCh S ps->K' false h:=λhn=>hk _ _ (Hp.le_refl _) ⟨rfl,λhh=>(by cases hh),λhh=>absurd hh hn⟩
 refine Yq (n:=ps.length) (by omega) (λi a h'=>h'=h/\(∀j (hj:j<ps.length),j<i->okP S ps[j])/\(∀j (hj:j+1<ps.length),j+1<i->(z9c S ps[j]).2=(z9c S ps[j+1]).1)/\∀j (hj:j<ps.length),j+1=i->a=(z9c S ps[j]).2) ⟨rfl,λj _ hj=>by omega,λj _ hj=>by omega,λj _ hj=>by omega⟩ ?_
 rintro i a h hi ⟨rfl,g1,g2,g3⟩ k hk2
 refine ze (λh2=>?_) (λh2=>?_)
 . have hi':i<ps.length:=by simp only at h2;omega
   refine zk (λst h'=>h'=h/\okP S ps[i]/\(∀j (hj:j<ps.length),j+1=i->(z9c S ps[j]).2=(z9c S ps[i]).1)/\st.1=(z9c S ps[i]).2) ?_ ?_
   . rintro⟨z,_⟩ h ⟨rfl,k1,k2,k3⟩
     refine hk2 _ _ hi' ⟨rfl,λj hj hji=>?_,λj hj hji=>?_,λj hj hji=>?_⟩
     . rcases Nat.lt_or_ge j i with h5 | h5
       . exact g1 j hj h5
       . have:j=i:=by omega
         subst this;exact k1
     . rcases Nat.lt_or_ge (j+1) i with h5 | h5
       . exact g2 j hj h5
       . have:j+1=i:=by omega
         subst this;exact k2 j (by omega) rfl
     . have:j=i:=by omega
       subst this;exact k3
   . refine hc.get zm7 i rfl hi' λb x hxx hcc=>?_
     refine⟨_,hcc 0 _ rfl,_,hcc 1 _ rfl,_,hcc 2 _ rfl,?_⟩
     have hxx:x=ps[i]:=hxx
     rw[<-hxx]
     refine zk (λst h'=>h'=h/\st.1=(((if x.arc=true then S.arc.length else S.seg.length):Nat):Int)) ?_ ?_
     . rintro⟨z,_⟩ h ⟨rfl,hz⟩
       simp only at hz
       subst hz
       refine z5v λb hb=>zp (λh4=>no λhv=>?_) λh4=>?_
       . have:=hv.2.1 _ (List.getElem_mem hi')
         rw[<-hxx]at this
         rw[hb.2 this]at h4;cases h4
       have hok:okP S x:=hb.1 (by simpa using h4)
       refine zt0 hx (p:=x) hok ?_
       refine ze (λh5=>?_) (λh5=>⟨rfl,hok,λj hj hji=>by simp only at h5;omega,rfl⟩)
       simp only at h5
       obtain⟨j,rfl⟩:∃j,i=j+1:=⟨i-1,by omega⟩
       have ha:=g3 j (by omega) rfl
       refine yt (λh6=>no λhv=>?_) (λh6=>⟨rfl,hok,λj' hj' hji=>?_,rfl⟩)
       . have:=hv.2.2 j hi'
         rw[<-hxx]at this
         simp only at h6
         rw[ha]at h6
         exact h6 this.symm
       . have:j'=j:=by omega
         subst this
         simp only at h6
         rw[<-ha,h6]
     . refine zp (λh3=>⟨rfl,?_⟩) (λh3=>⟨rfl,?_⟩)
       . simp only;rw[if_pos h3,l4]
       . simp only;rw[h3,l3];rfl
 . have hi':i=ps.length:=by simp only at h2;omega
   subst hi'
   refine hk _ _ (Hp.le_refl _) ⟨rfl,?_⟩
   rw[decide_eq_true_iff]
   constructor
   . intro hh
     refine⟨λh0=>by rw[h0]at lc;simp at lc;omega,λp hp=>?_,λj hj=>g2 j hj (by omega)⟩
     obtain⟨j,hj,rfl⟩:=List.mem_iff_getElem.1 hp
     exact g1 j hj hj
   . intro hh
     have:=List.length_pos_iff.2 hh.1
     omega
theorem zn2{ps:List (List TPiece)}{a0:Addr}(hx:LR slc 1 CHN h l ps)(hlen:ps.length<=1000000)(hp20:∀c∈ps,c.length<=20)(h0:SKC h a0 s)(hS:SK h s S)(hs:sSk S)(H:∀b h',h.le h'->(b=true↔∀p∈ps,VCh S p)->Kb b h'):zc (F.Yl l (some a0,())) Kb h:=by
 refine zd (λb h'=>(b=true↔∀p∈ps,VCh S p)) (λK' hk=>?_) λb h' hl hb=>H b h' hl hb
 unfold F.Yl
 refine Wo λa h1 hl1 hc1=>?_
 have hl:=hx.len z83
 refine zd (λb h'=>(b=true↔¬∀p∈ps,VCh S p)) (λK2 hk2=>?_) λb h' hl hb=>hk _ _ (Hp.le_trans hl1 hl) (zaq hb)
 unfold F.Zc
 refine zd (λr h'=>(0<=r↔¬∀p∈ps,VCh S p)) (λK3 hk3=>?_) λr h' hl hr=>hk2 _ _ hl (by rw[decide_eq_true_iff];exact hr)
 unfold F.Zh
 refine z9f (n:=ps.length) (g:=λi=>∃h:i<ps.length,¬VCh S ps[i]) (by omega) (λi h' k hl' hi' hb=>?_) (λh' k hk=>ze (λhh=>by simp only at hh;omega) (λ_=>hk)) (λr h' hl hr=>hk3 _ _ hl (by rw[hr,ze2]))
 refine ze (λ_=>?_) (λhh=>by simp only at hh;omega)
 refine(hx.le z83 (Hp.le_trans hl1 hl')).get z83 i rfl hi' λb x hxx hc=>?_
 have e0:=hc 0 _ rfl
 rw[Zq]at e0
 refine⟨_,e0,?_⟩
 refine zd (λb h'=>(b=true↔¬VCh S ps[i])) (λK4 hk4=>?_) λb h'' hl'' hbb=>hb b h'' hl'' (by rw[hbb];exact⟨λhh=>⟨hi',hh⟩,λ⟨_,hh⟩=>hh⟩)
 unfold F.Y9
 refine⟨_,Hp.cell_le hl' hc1,some a0,rfl,?_⟩
 refine zd (λb h'=>(b=true↔VCh S ps[i])) (λK5 hk5=>?_) λb h'' hl'' hbb=>hk4 _ _ hl'' (by rw[Bool.not_eq_true',<-Bool.not_eq_true,hbb])
 unfold F.z6f
 have c0:=h0.le (Hp.le_trans hl1 hl')
 refine⟨_,c0 0 _ rfl,_,c0 1 _ rfl,_,c0 2 _ rfl,_,c0 3 _ rfl,_,c0 4 _ rfl,_,c0 5 _ rfl,?_⟩
 exact zfy (s:=s) (hS.le (Hp.le_trans hl1 hl')) hxx (by have:=hp20 _ (List.getElem_mem hi');omega) hs λb hb=>hk5 _ _ (Hp.le_refl _) hb
theorem zn3{ps:List PCon}{a0 a1:Addr}{n m:Int}(hx:LR cc 5 CO h l ps)(hlen:ps.length<=1000000)(hps:∀c∈ps,sC c)(h0:h.cell a0=some (.int .i64 n))(h1:h.cell a1=some (.int .i64 m))(ht:GT h)(H:∀b h',h.le h'->(b=true↔∀p∈ps,VC p n m)->Kb b h'):zc (F.yx l (some a0,some a1,())) Kb h:=by
 refine zd (λb h'=>(b=true↔∀p∈ps,VC p n m)) (λK' hk=>?_) λb h' hl hb=>H b h' hl hb
 unfold F.yx
 refine Wo λa h2 hl2 hc1=>?_
 have hl:=hx.len Yy
 refine zd (λb h'=>(b=true↔¬∀p∈ps,VC p n m)) (λK2 hk2=>?_) λb h' hl hb=>hk _ _ (Hp.le_trans hl2 hl) (zaq hb)
 unfold F.zx
 refine zd (λr h'=>(0<=r↔¬∀p∈ps,VC p n m)) (λK3 hk3=>?_) λr h' hl hr=>hk2 _ _ hl (by rw[decide_eq_true_iff];exact hr)
 unfold F.zy
 refine z9f (n:=ps.length) (g:=λi=>∃h:i<ps.length,¬VC ps[i] n m) (by omega) (λi h' k hl' hi' hb=>?_) (λh' k hk=>ze (λhh=>by simp only at hh;omega) (λ_=>hk)) (λr h' hl hr=>hk3 _ _ hl (by rw[hr];exact ze2 (P:=λc=>VC c n m)))
 refine ze (λ_=>?_) (λhh=>by simp only at hh;omega)
 refine(hx.le Yy (Hp.le_trans hl2 hl')).get Yy i rfl hi' λb x hxx hc=>?_
 refine⟨_,hc 0 _ rfl,_,hc 1 _ rfl,_,hc 2 _ rfl,_,hc 3 _ rfl,_,hc 4 _ rfl,?_⟩
 refine zd (λb h'=>(b=true↔¬VC ps[i] n m)) (λK4 hk4=>?_) λb h'' hl'' hbb=>hb b h'' hl'' (by rw[hbb];exact⟨λhh=>⟨hi',hh⟩,λ⟨_,hh⟩=>hh⟩)
 unfold F.Ys
 refine⟨_,Hp.cell_le hl' hc1,some a0,some a1,rfl,?_⟩
 refine zd (λb h'=>(b=true↔VC ps[i] n m)) (λK5 hk5=>?_) λb h'' hl'' hbb=>hk4 _ _ hl'' (by rw[Bool.not_eq_true',<-Bool.not_eq_true,hbb])
 unfold F.z6g
 have hle:=Hp.le_trans hl2 hl'
 refine⟨_,Hp.cell_le hle h0,_,Hp.cell_le hle h1,?_⟩
 exact znf hxx (hps _ (List.getElem_mem hi')) (ht.le hle) λb h'' hl hb=>hk5 _ _ hl hb
theorem zmg(hx:SK h s S)(hs:sSk S)(ht:GT h)(H:∀r h',h.le h'->(r=0↔VS S)->(r=0\/r=1)->Ki r h'):zc (F.z0y s) Ki h:=by
 refine zd (λr h'=>(r=0↔VS S)/\(r=0\/r=1)) (λK' hk0=>?_) λb h' hl hb=>H b h' hl hb.1 hb.2
 have hk:∀v h',h.le h'->(v=0↔VS S)->(v=0\/v=1)->K' v h':=λv h' hl h1 h2=>hk0 v h' hl ⟨h1,h2⟩
 unfold F.z0y
 refine z9q λp1 h1 hl1 hc=>?_
 have c0:SKC h1 p1 s:=hc
 have hx1:=hx.le hl1
 refine⟨_,c0 0 _ rfl,_,c0 1 _ rfl,_,c0 2 _ rfl,_,c0 3 _ rfl,_,c0 4 _ rfl,_,c0 5 _ rfl,?_⟩
 refine zla (s:=s) hx1 hs λh2 hl2=>zt rfl ?_
 have c2:=c0.le hl2
 refine⟨_,c2 0 _ rfl,_,c2 1 _ rfl,?_⟩
 refine Wo λp6 h3 hl3 e6=>Wo λp7 h4 hl4 e7=>?_
 have hle4:=Hp.le_trans hl1 (Hp.le_trans hl2 (Hp.le_trans hl3 hl4))
 have hx4:=hx.le hle4
 have c4:=(c2.le hl3).le hl4
 have l1:=hx.1.len z3g
 have l2:=hx.2.1.len z69
 obtain⟨s1,s2,s3,s4,s5,s6,s7,s8⟩:=hs
 have e64:h4.cell p6=some (.int .i64 (S.pts.length:Int)):=by have:=Hp.cell_le hl4 e6;rw[l1]at this;exact this
 have e74:h4.cell p7=some (.int .i64 (S.cir.length:Int)):=by rw[l2]at e7;exact e7
 refine zk (λst h'=>h.le h'/\(st.1=true↔VS S)) ?_ ?_
 . rintro⟨b,_⟩ h5 ⟨hl5,hb⟩
   simp only at hb
   refine zp (λh6=>hk _ _ hl5 ⟨λhh=>(by cases hh),λhh=>?_⟩ (.inr rfl)) (λh6=>hk _ _ hl5 ⟨λ_=>hb.1 (by simpa using h6),λ_=>rfl⟩ (.inl rfl))
   simp only at h6
   rw[hb.2 hh]at h6;cases h6
 . have fl:∀(b:Bool) {P:Prop},(b=true↔P)->b=false->¬P:=λb P hb h0 hp=>by rw[hb.2 hp]at h0;cases h0
   refine⟨_,c4 0 _ rfl,?_⟩
   refine zn4 hx4.1 (by omega) λb1 h5 hl5 hb1=>zp (λt1=>?_) (λt1=>⟨Hp.le_trans hle4 hl5,λhh=>(by cases hh),λhv=>absurd hv.1 (fl _ hb1 t1)⟩)
   refine⟨_,c4.le hl5 1 _ rfl,?_⟩
   refine zn5 (S:=S) (hx4.le hl5).2.1 (by omega) (Hp.cell_le hl5 e64) λb2 h6 hl6 hb2=>zp (λt2=>?_) (λt2=>⟨Hp.le_trans hle4 (Hp.le_trans hl5 hl6),λhh=>(by cases hh),λhv=>absurd hv.2.1 (fl _ hb2 t2)⟩)
   have l56:=Hp.le_trans hl5 hl6
   refine⟨_,c4.le l56 2 _ rfl,?_⟩
   refine zn6 (S:=S) (hx4.le l56).2.2.1 (by omega) (Hp.cell_le l56 e64) λb3 h7 hl7 hb3=>zp (λt3=>?_) (λt3=>⟨Hp.le_trans hle4 (Hp.le_trans l56 hl7),λhh=>(by cases hh),λhv=>absurd hv.2.2.1 (fl _ hb3 t3)⟩)
   have l57:=Hp.le_trans l56 hl7
   refine⟨_,c4.le l57 3 _ rfl,?_⟩
   refine zn1 (s:=s) (S:=S) (hx4.le l57).2.2.2.1 (by omega) (c4.le l57) (hx4.le l57) λb4 h8 hl8 hb4=>zp (λt4=>?_) (λt4=>⟨Hp.le_trans hle4 (Hp.le_trans l57 hl8),λhh=>(by cases hh),λhv=>absurd hv.2.2.2.1 (fl _ hb4 t4)⟩)
   have l58:=Hp.le_trans l57 hl8
   refine⟨_,c4.le l58 4 _ rfl,?_⟩
   refine zn2 (s:=s) (S:=S) (hx4.le l58).2.2.2.2.1 (by omega) s7 (c4.le l58) (hx4.le l58) ⟨s1,s2,s3,s4,s5,s6,s7,s8⟩ λb5 h9 hl9 hb5=>zp (λt5=>?_) (λt5=>⟨Hp.le_trans hle4 (Hp.le_trans l58 hl9),λhh=>(by cases hh),λhv=>absurd hv.2.2.2.2.1 (fl _ hb5 t5)⟩)
   have l59:=Hp.le_trans l58 hl9
   refine⟨_,c4.le l59 5 _ rfl,?_⟩
   refine zn3 (hx4.le l59).2.2.2.2.2 (by omega) s8 (Hp.cell_le l59 e64) (Hp.cell_le l59 e74) (ht.le (Hp.le_trans hle4 l59)) λb6 h10 hl10 hb6=>⟨Hp.le_trans hle4 (Hp.le_trans l59 hl10),?_⟩
   rw[hb6]
   exact⟨λhh=>⟨hb1.1 t1,hb2.1 t2,hb3.1 t3,hb4.1 t4,hb5.1 t5,hh⟩,λhh=>hh.2.2.2.2.2⟩
theorem zfj(hx:SK h s S)(hs:sSk S)(ht:GT h)(H:∀r h',h.le h'->(r=0↔VS S)->Ki r h'):zc (F.z0y s) Ki h:=zmg hx hs ht λr h' h1 h2 _=>H r h' h1 h2
end
end Den
end

section
namespace Den
open Go Iv Lx
section
variable {h : Hp} {s : TSketch} {S : PSk} {Kb : Bool → Hp → Prop} {Ki : Int → Hp → Prop} {l : Sl}
theorem Zik{α:Type}{l:List α}{P:α->Prop}{i:Nat}(h:∀j (hj:j<l.length),j<i->P l[j])(hi:i<l.length)(hp:P l[i]):∀j (hj:j<l.length),j<i+1->P l[j]:=λj hj hji=>by
 rcases Nat.lt_or_ge j i with h5 | h5
 . exact h j hj h5
 . have:j=i:=by omega
   subst this;exact hp
theorem Z75{α:Type}{l:List α}{P:α->Prop}{i:Nat}(h:∀j (hj:j<l.length),j<i->P l[j])(hi:l.length<=i):∀x∈l,P x:=λx hx=>by
 obtain⟨j,hj,rfl⟩:=List.mem_iff_getElem.1 hx
 exact h j hj (by omega)
end
end Den
end

section
namespace Den
open Go Iv Lx
section
variable {D h h' : Hp} {n : Nat} {l : Sl} {cs : List Value}
theorem Own.newb{K:Addr->Hp->Prop}{cells:List Value}(ho:Own D h n l cs)(H:∀a D' h',D.le D'->h.le h'->Own D' h' n l cs->(∀i v,cells[i]?=Option.some v->D'.cell (a.add i)=Option.some v)->K a h'):Yu cells K h:=by
 intro b e hb
 obtain⟨g1,g2,g3,g4⟩:=ho
 have hDb:D b=none:=by
  cases hd:D b with
  | none=>rfl
  | some x=>rw[g1 _ _ hd]at hb;cases hb
 refine H _ (D.ins b ⟨cells,e,(0,0)⟩) _ (Hp.le_ins hDb) (Hp.le_ins hb) ⟨?_,g2,g3,?_⟩ λi v hv=>?_
 . intro k x hk
   by_cases hkb:k=b
   . subst hkb;rw[Hp.ins_same]at hk |-;exact hk
   . rw[Hp.ins_ne hkb]at hk |-;exact g1 _ _ hk
 . cases ha:l.a with
   | none=>rw[ha]at g4;exact g4
   | some a=>
     rw[ha]at g4
     obtain⟨k1,k2,k3,x,k4,k5⟩:=g4
     have hne:a.block≠b:=λhh=>by rw[hh,hb]at k4;cases k4
     exact⟨k1,k2,by rw[Hp.ins_ne hne];exact k3,x,by rw[Hp.ins_ne hne];exact k4,k5⟩
 . unfold Hp.cell
   rw[Yi,V1 rfl,Xr]
   simpa [Hp.ins_same] using hv
theorem Own.preN{x:Sl}{k:Nat}(ho:Own D h n x cs)(hk:k<=x.len):Own D h n (x.cut 0 k n) (cs.take (k*n)):=by
 have hc:=ho.2.2.1
 obtain⟨g1,g2,g3,g4⟩:=ho
 have hkl:k*n<=cs.length:=by rw[<-g2];exact Nat.mul_le_mul_right _ hk
 have el:(cs.take (k*n)).length=k*n:=by rw[List.length_take];omega
 refine⟨g1,?_,?_,?_⟩
 . show(k-0)*n=_
   rw[el,Nat.sub_zero]
 . show k-0<=x.cap-0;omega
 . rw[zgr]
   cases ha:x.a with
   | none=>
     rw[ha]at g4
     simp only at g4 |-
     show x.cap-0=0;omega
   | some a=>
     rw[ha]at g4
     obtain⟨k1,k2,k3,b,k4,k5,k6,k7⟩:=g4
     refine⟨k1,k2,k3,b,k4,k5,k6,?_⟩
     rw[el]
     have:=congrArg (List.take (k*n)) k7
     rw[List.take_take,Nat.min_eq_left (by omega)]at this
     exact this
end
section
variable {α β : Type} {c : α → List Value} {n : Nat} {P : Hp → α → β → Prop} {D h h' : Hp} {l : Sl} {ps : List β}
theorem LO.newb{K:Addr->Hp->Prop}{cells:List Value}(hR:Rec c n P)(hx:LO c n P D h l ps)(H:∀a D' h',D.le D'->h.le h'->LO c n P D' h' l ps->(∀i v,cells[i]?=Option.some v->D'.cell (a.add i)=Option.some v)->K a h'):Yu cells K h:=by
 obtain⟨xs,h1,h3,h4⟩:=hx
 exact h1.newb λa D' h' g1 g2 g3 g4=>H a D' h' g1 g2 ⟨xs,g3,h3,λk k1 k2=>hR.mono (h4 k k1 k2) g1⟩ g4
theorem LO.le(hx:LO c n P D h l ps)(hl:h.le h'):LO c n P D h' l ps:=by
 obtain⟨xs,h1,h3,h4⟩:=hx
 exact⟨xs,h1.le hl,h3,h4⟩
theorem LO.appAll{K:Sl->Hp->Prop}{m:Sl}{qs:List β}{bytes:Nat}{zero:List Value}(hR:Rec c n P)(hx:LO c n P D h l ps)(hm:LR c n P D m qs)(hz:zero.length=n)(hlen:(ps.length+qs.length)*bytes<=140737488355328)(hlen2:ps.length+qs.length<=140737488355328)
 (H:∀y h',LO c n P D h' y (ps++qs)->K y h'):rdO m.a (m.len*n) (λvs=>Y6 n bytes zero l m.len vs K h) h:=by
 have hl:=hx.len hR
 have hml:=hm.len hR
 obtain⟨ys,g1,g2,g3,g4⟩:=hm
 obtain⟨xs,h1,h3,h4⟩:=hx
 refine⟨ys.flatMap c,?_,?_⟩
 . have:=(g1.le h1.1).2
   rwa [<-g1.1]at this
 . refine z3r h1 (n:=m.len) (new:=ys.flatMap c) g1.1.symm hz ?_ (by rw[hl,hml];exact hlen) (by rw[hl,hml];exact hlen2) λy h' hy hyl=>H y h' ⟨xs++ys,by rw[List.flatMap_append];exact hy,by simp[h3,g3],λk k1 k2=>?_⟩
   . rw[List.all_flatMap,List.all_eq_true]
     exact λx _=>hR.leaf x
   . rcases Nat.lt_or_ge k xs.length with h5 | h5
     . rw[List.getElem_append_left h5,List.getElem_append_left (by omega)]
       exact h4 k h5 (by omega)
     . rw[List.getElem_append_right h5,List.getElem_append_right (by omega)]
       have e:k-xs.length=k-ps.length:=by omega
       have k1':k-xs.length<ys.length:=by simp at k1;omega
       have:=g4 (k-xs.length) k1' (by omega)
       simp only[e]at this |-
       exact this
end
section
variable {D h h' : Hp} {l m : Sl} {xs ys : List Int} {K : Sl → Hp → Prop}
theorem OI.le(ho:OI D h l xs)(hl:h.le h'):OI D h' l xs:=Own.le ho hl
theorem OI.base{h0:Hp}(ho:OI D h l xs)(hl:h0.le D):OI h0 h l xs:=Own.base ho hl
end
theorem Zd8{z vs:List Value}{K:Addr->Hp->Prop}{h:Hp}(hlen:vs.length=z.length)(hleaf:vs.all Value.leaf=true)(H:Yu vs K h):Yu z (λa h'=>stP a vs (K a) h') h:=by
 intro b e hb
 refine⟨_,Hp.ins_same _ _ _,rfl,rfl,by simp[hlen],hleaf,?_⟩
 have e2:z8 z 0 vs=vs:=by unfold z8;simp[hlen]
 simp only[e2]
 rw[Hp.ins_ins]
 exact H b e hb
def onC(c:PCon)(p k:Int):Prop:=c.kind=13/\c.pts=[p]/\c.cir=[k]
instance (c:PCon) (p k:Int):Decidable (onC c p k):=by unfold onC;infer_instance
def z0s(p k:Int):PCon:=⟨13,[p],[k],[],0⟩
def z35(con out:List PCon)(p k:Int):List PCon:=if (∃c∈con++out,onC c p k)then out else out++[z0s p k]
def zgd(con out:List PCon)(a:TArc):List PCon:=z35 con (z35 con out a.a a.circle) a.b a.circle
def ze5(con:List PCon)(l:List TArc):List PCon:=l.foldl (zgd con) []
def imp(S:PSk):List PCon:=ze5 S.con S.arc
def Qu(S:PSk):List PCon:=S.con++imp S
def Xl(S:PSk):List Int:=S.cir.map (·.1)
theorem ze6{con:List PCon}{l:List TArc}{i:Nat}(hi:i<l.length):ze5 con (l.take (i+1))=zgd con (ze5 con (l.take i)) l[i]:=by
 unfold ze5
 rw[<-List.take_append_getElem hi,List.foldl_append]
 rfl
theorem zdq(con out:List PCon)(p k:Int):(z35 con out p k).length<=out.length+1:=by
 unfold z35;split<;>simp
theorem zhb(con:List PCon)(l:List TArc):∀i,i<=l.length->(ze5 con (l.take i)).length<=2*i
 | 0,_=>by simp[ze5]
 | i+1,hi=>by
   rw[ze6 (by omega)]
   have:=zhb con l i (by omega)
   unfold zgd
   have h1:=zdq con (z35 con (ze5 con (l.take i)) l[i].a l[i].circle) l[i].b l[i].circle
   have h2:=zdq con (ze5 con (l.take i)) l[i].a l[i].circle
   omega
theorem zuo(S:PSk):(imp S).length<=2*S.arc.length:=by
 have:=zhb S.con S.arc S.arc.length (Nat.le_refl _)
 rwa [List.take_length]at this
def VC1(c:PCon):Prop:=c.pts.length<=10/\c.cir.length<=10/\(c.kind=13->c.pts.length=1/\c.cir.length=1/\c.vals=[]/\c.side=0)
theorem VC.one{c:PCon}{n m:Int}(hv:VC c n m)(hs:sC c):VC1 c:=⟨hs.1,hs.2.1,λhk=>by
 obtain⟨_,h2,h3,h4,_,h6,_⟩:=hv
 rw[hk]at h2 h3 h4 h6
 exact⟨h2.1,h3.1,List.eq_nil_of_length_eq_zero h4,by simpa [shK,Z6i] using h6⟩⟩
theorem Zb2{n m:Nat}{p k:Int}(hp:z9i n p)(hk:z9i m k):VC (z0s p k) n m:=by
 unfold z9i at hp hk
 refine⟨⟨by simp[z0s],by simp[z0s]⟩,⟨rfl,?_⟩,⟨rfl,?_⟩,rfl,by simp[z0s],by simp[z0s,shK,Z6i],?_⟩
 . intro x hx
   have:x=p:=by simpa [z0s] using hx
   omega
 . intro x hx
   have:x=k:=by simpa [z0s] using hx
   omega
 . rw[if_neg (show ¬z4w (z0s p k).kind by unfold z4w z0s;simp only;omega)]
   exact⟨by simp[z0s],by simp[z0s]⟩
theorem Zax{p k:Int}:sC (z0s p k):=⟨by simp[z0s],by simp[z0s],by simp[z0s],by simp[z0s]⟩
theorem zdp{P:PCon->Prop}{con out:List PCon}{p k:Int}(ho:∀c∈out,P c)(hp:P (z0s p k)):∀c∈z35 con out p k,P c:=by
 unfold z35
 split
 . exact ho
 . intro c hc
   rcases List.mem_append.1 hc with hc | hc
   . exact ho c hc
   . rw[List.mem_singleton.1 hc];exact hp
theorem zha{P:PCon->Prop}{con:List PCon}{l:List TArc}(hp:∀a∈l,P (z0s a.a a.circle)/\P (z0s a.b a.circle)):∀i,i<=l.length->∀c∈ze5 con (l.take i),P c
 | 0,_=>by simp[ze5]
 | i+1,hi=>by
   rw[ze6 (by omega)]
   have h1:=zha (con:=con) hp i (by omega)
   have h2:=hp _ (List.getElem_mem (show i<l.length by omega))
   exact zdp (zdp h1 h2.1) h2.2
theorem Z8j{P:PCon->Prop}{S:PSk}(hp:∀a∈S.arc,P (z0s a.a a.circle)/\P (z0s a.b a.circle)):∀c∈imp S,P c:=by
 have:=zha (con:=S.con) hp S.arc.length (Nat.le_refl _)
 rwa [List.take_length]at this
theorem zcb{S:PSk}(hv:VS S)(hs:sSk S):∀c∈Qu S,VC c S.pts.length S.cir.length/\sC c:=by
 intro c hc
 rcases List.mem_append.1 hc with hc | hc
 . exact⟨hv.2.2.2.2.2 c hc,hs.2.2.2.2.2.2.2 c hc⟩
 . refine Z8j (P:=λc=>VC c S.pts.length S.cir.length/\sC c) (λa ha=>?_) c hc
   have:=hv.2.2.2.1 a ha
   exact⟨⟨Zb2 this.2.1 this.1,Zax⟩,⟨Zb2 this.2.2.1 this.1,Zax⟩⟩
theorem zge{S:PSk}(hs:sSk S):(Qu S).length<=40:=by
 have h1:=zuo S
 have h2:=hs.2.2.2.1
 have h3:=hs.2.2.2.2.2.1
 unfold Qu
 rw[List.length_append];omega
section
variable {h : Hp} {s : TSketch} {S : PSk} {Kb : Bool → Hp → Prop} {Ki : Int → Hp → Prop} {Ks : Sl → Hp → Prop} {l m : Sl} {xs ys : List Int}
theorem zyh{s:Sl}{ps:List PCon}{g:PCon->Prop}{G:TConstraint->(Bool->Hp->Prop)->Hp->Prop}(hx:LR cc 5 CO h s ps)(hlen:ps.length<=1000000)
 (hG:∀x c h',h.le h'->CO h' x c->c∈ps->∀K:Bool->Hp->Prop,(∀b h'',h'.le h''->(b=true↔g c)->K b h'')->zc (G x) K h') (H:∀r h',h.le h'->(0<=r↔∃c∈ps,g c)->Ki r h') :
 (zr (S:=Int×Unit) (λs1 k2 h1=>
 (ifP (decide (s1.1<(s.len:Int)))
 (zg s s1.1 5 λa3=>
 (ldL (.int .i64) (a3.add 0) (λx4_0=>
 (ldL (.sl) (a3.add 1) (λx4_1=>
 (ldL (.sl) (a3.add 2) (λx4_2=>
 (ldL (.sl) (a3.add 3) (λx4_3=>
 (ldL (.int .i64) (a3.add 4) (λx4_4=>
 (zc (G (⟨x4_0,x4_1,x4_2,x4_3,x4_4⟩:TConstraint)) (λr5 h2=>
 (ifP r5
 (Ki s1.1 h2)
 (k2 ((i64.wrap (s1.1+1)),()) h2))) h1)) h1)) h1)) h1)) h1)) h1))
 (Ki (-1) h1)))
 (0,()) h):=by
  have hl:=hx.len Yy
  refine z9f (n:=ps.length) (g:=λi=>∃h:i<ps.length,g ps[i]) (by omega) (λi h' k hl' hi' hb=>?_) (λh' k hk=>ze (λhh=>by simp only at hh;omega) (λ_=>hk)) (λr h' hl hr=>H _ _ hl (by
   rw[hr]
   constructor
   . rintro⟨i,hi,hi2,hg⟩;exact⟨_,List.getElem_mem hi2,hg⟩
   . rintro⟨c,hc,hg⟩
     obtain⟨i,hi,rfl⟩:=List.mem_iff_getElem.1 hc
     exact⟨i,hi,hi,hg⟩))
  refine ze (λ_=>?_) (λhh=>by simp only at hh;omega)
  refine(hx.le Yy hl').get Yy i rfl hi' λa x hxx hc=>?_
  refine⟨_,hc 0 _ rfl,_,hc 1 _ rfl,_,hc 2 _ rfl,_,hc 3 _ rfl,_,hc 4 _ rfl,?_⟩
  exact hG _ _ _ hl' hxx (List.getElem_mem _) _ λb h3 hl3 hbb=>hb b h3 hl3 (by rw[hbb];exact⟨λhh=>⟨hi',hh⟩,λ⟨_,hh⟩=>hh⟩)
theorem zfa(hx:IL h l xs)(hy:IL h m ys)(hlen:xs.length<=1000000)(H:∀b h',h.le h'->(b=true↔xs=ys)->Kb b h'):zc (F.Xg l m) Kb h:=by
 refine zd (λb h'=>b=true↔xs=ys) (λK' hk=>?_) λb h' hl hb=>H b h' hl hb
 unfold F.Xg
 have hl:=hx.len
 have hm:=hy.len
 refine yt (λh1=>hk _ _ (Hp.le_refl _) ⟨λhh=>(by cases hh),λhh=>?_⟩) (λh1=>?_)
 . exfalso
   subst hh
   omega
 have hl2:xs.length=ys.length:=by omega
 refine Yr (n:=xs.length) (by omega) (λi h'=>h'=h/\xs.take i=ys.take i) ⟨rfl,by simp⟩ ?_
 rintro i h hi ⟨rfl,heq⟩ k hk2
 refine ze (λh2=>?_) (λh2=>?_)
 . have hi':i<xs.length:=by simp only at h2;omega
   refine hx.get i rfl hi' (hy.get i rfl (by omega) ?_)
   refine yt (λh3=>hk _ _ (Hp.le_refl _) ⟨λhh=>(by cases hh),λhh=>?_⟩) (λh3=>hk2 _ hi' ⟨rfl,?_⟩)
   . subst hh
     exact absurd rfl h3
   . rw[<-List.take_append_getElem hi',<-List.take_append_getElem (show i<ys.length by omega),heq,h3]
 . have:i=xs.length:=by simp only at h2;omega
   subst this
   refine hk _ _ (Hp.le_refl _) ⟨λ_=>?_,λ_=>rfl⟩
   rw[List.take_length,hl2,List.take_length]at heq
   exact heq
theorem zne{x y:TConstraint}{c:PCon}{p k:Int}(hx:CO h x (z0s p k))(hy:CO h y c)(hv:VC1 c)(H:∀b h',h.le h'->(b=true↔onC c p k)->Kb b h'):zc (F.z0i x y) Kb h:=by
 refine zd (λb h'=>b=true↔onC c p k) (λK' hk=>?_) λb h' hl hb=>H b h' hl hb
 unfold F.z0i
 obtain⟨x1,x2,x3,x4,x5⟩:=hx
 obtain⟨y1,y2,y3,y4,y5⟩:=hy
 obtain⟨v1,v2,v3⟩:=hv
 have no:∀h',h.le h'->¬onC c p k->K' false h':=λh' hl hn=>hk _ _ hl ⟨λhh=>(by cases hh),λhh=>absurd hh hn⟩
 rw[x1,x5,y1,y5]
 refine Za (λh1=>?_) (λh1=>no _ (Hp.le_refl _) λhv=>h1 hv.1.symm)
 have hk13:c.kind=13:=h1.symm
 obtain⟨w1,w2,w3,w4⟩:=v3 hk13
 refine Za (λh2=>?_) (λh2=>absurd (show(z0s p k).side=c.side by rw[w4];rfl) h2)
 refine zfa x2 y2 (by simp[z0s]) λb h3 hl3 hb=>?_
 refine zp (λh4=>?_) (λh4=>no _ hl3 λhv=>by rw[hb.2 hv.2.1.symm]at h4;cases h4)
 refine zfa (x3.le hl3) (y3.le hl3) (by simp[z0s]) λb5 h5 hl5 hb5=>?_
 have hle:=Hp.le_trans hl3 hl5
 refine zp (λh6=>?_) (λh6=>no _ hle λhv=>by rw[hb5.2 hv.2.2.symm]at h6;cases h6)
 refine zd (λb h'=>b=true) (λK2 hk2=>?_) λb h7 hl7 hb7=>hk _ _ (Hp.le_trans hle hl7) ⟨λ_=>⟨hk13,(hb.1 h4).symm,(hb5.1 h6).symm⟩,λ_=>hb7⟩
 unfold F.Zu
 refine⟨1,?_⟩
 unfold F.zn
 have e1:=x4.len z4m
 have e2:=y4.len z4m
 rw[w3]at e2
 have e3:x.values.len=0:=e1
 have e4:y.values.len=0:=e2
 refine yt (λh8=>by rw[e3,e4]at h8;exact absurd rfl h8) (λ_=>?_)
 refine y9 (λst h'=>h'=h5/\st=(0,())) (λ_=>0) ⟨rfl,rfl⟩ ?_
 rintro st h5 ⟨rfl,rfl⟩
 refine ze (λh8=>by rw[e3]at h8;exact absurd h8 (by decide)) (λ_=>hk2 _ _ (Hp.le_refl _) rfl)
def CKC(h:Hp)(a:Addr)(x:TConstraint):Prop:=∀i v,(cc x)[i]?=some v->h.cell (a.add i)=some v
theorem zb9{s:Sl}{ps:List PCon}{a:Addr}{x:TConstraint}{p k:Int}(hx:LR cc 5 CO h s ps)(hlen:ps.length<=1000000)(hv:∀c∈ps,VC1 c)(ha:CKC h a x)(hc:CO h x (z0s p k))(H:∀b h',h.le h'->(b=true↔∃c∈ps,onC c p k)->Kb b h') :
 zc (F.zo s (some a,())) Kb h:=by
 refine zd (λb h'=>(b=true↔∃c∈ps,onC c p k)) (λK2 hk2=>?_) λb h' hl hb=>H _ _ hl hb
 unfold F.zo
 refine zd (λr h'=>(0<=r↔∃c∈ps,onC c p k)) (λK3 hk3=>?_) λr h' hl hr=>hk2 _ _ hl (by rw[decide_eq_true_iff];exact hr)
 unfold F.Zx
 refine zyh (g:=λc=>onC c p k) (G:=λx=>F.z0x x (some a,()).1) hx hlen (λy c h' hl' hy hm K hK=>?_) λr h' hl hr=>hk3 _ _ hl hr
 refine zd (λb h'=>(b=true↔onC c p k)) (λK4 hk4=>?_) λb h'' hl'' hbb=>hK b h'' hl'' hbb
 unfold F.z0x
 have c0:CKC h' a x:=λi v hv=>Hp.cell_le hl' (ha i v hv)
 refine⟨_,c0 0 _ rfl,_,c0 1 _ rfl,_,c0 2 _ rfl,_,c0 3 _ rfl,_,c0 4 _ rfl,?_⟩
 exact zne (x:=x) (hc.le hl') hy (hv c hm) λb h'' hl hb=>hk4 _ _ hl hb
theorem Z3z{a:Addr}{z:Int}{c:Nat}(hc:h.cell a=some (.int .i64 z))(hcap:1<=c):IL h ⟨some a,1,c⟩ [z]:=by
 refine⟨z2t (cells:=[ic z]) (λi v hv=>?_) rfl,hcap⟩
 cases i with
 | zero=>
   rw[Zq,hc]
   simpa [ic] using hv
 | succ i=>simp at hv
theorem VS.one{c:PCon}(hv:VS S)(hs:sSk S)(hc:c∈S.con):VC1 c:=(hv.2.2.2.2.2 c hc).one (hs.2.2.2.2.2.2.2 c hc)
theorem zsl{p k:Int}:VC1 (z0s p k):=⟨by simp[z0s],by simp[z0s],λ_=>⟨rfl,rfl,rfl,rfl⟩⟩
theorem Z8k:∀i,i<=S.arc.length->∀c∈ze5 S.con (S.arc.take i),VC1 c:=zha λa _=>⟨zsl,zsl⟩
end
end Den
end

section
namespace Den
open Go Iv Lx
def itK(c:PCon)(cs:List Int)(k:Int):List Int:=if c.kind=13\/c.kind=16\/c.kind=17 then [-1-k,cs.getD k.toNat 0]else [-1-k]
def Wv(c:PCon)(cs:List Int):List Int:=c.pts++c.cir.flatMap (itK c cs)
theorem zup(c:PCon)(cs:List Int)(k:Int):(itK c cs k).length<=2:=by unfold itK;split<;>simp
theorem zs9{c:PCon}{cs:List Int}(hs:sC c):(Wv c cs).length<=30:=by
 unfold Wv
 have:∀l:List Int,(l.flatMap (itK c cs)).length<=2*l.length:=by
  intro l
  induction l with
  | nil=>simp
  | cons a r ih=>
    have:=zup c cs a
    simp only[List.flatMap_cons,List.length_append,List.length_cons]
    omega
 have h1:=this c.cir
 have h2:=hs.1
 have h3:=hs.2.1
 rw[List.length_append];omega
section
variable {h : Hp} {s : TSketch} {S : PSk} {Kb : Bool → Hp → Prop} {Ki : Int → Hp → Prop} {Ks : Sl → Hp → Prop} {l m : Sl} {xs ys : List Int}
theorem Zj2{a b:Addr}{p k:Int}{va vs:Sl}(ha:h.cell a=some (.int .i64 p))(hb:h.cell b=some (.int .i64 k)):CO h ⟨13,⟨some a,1,1⟩,⟨some b,1,1⟩,zf,0⟩ (z0s p k):=
 ⟨rfl,Z3z ha (by decide),Z3z hb (by decide),LR.nil,rfl⟩
theorem Z7x{i:Int}{K:Addr->Prop}(hx:SK h s S)(k:Nat)(hi:i=k)(hk:k<S.arc.length)(H:∀a,(∀j v,(Z7y S.arc[k])[j]?=some v->h.cell (a.add j)=some v)->K a):zg s.arcs i 4 K:=
 hx.2.2.2.1.get z3s k hi hk λa x hxx hc=>H a (by have hxx:x=S.arc[k]:=hxx;rw[<-hxx];exact hc)
theorem zo9{A:TArc}{out:List PCon}{p:Int}{y:Sl}{D:Hp}{K:Sl×Unit->Hp->Prop}(hv:VS S)(hs:sSk S)(hlen:out.length<=100)(hone:∀c∈out,VC1 c)(hS:SK D s S)(ho:LO cc 5 CO D h y out)
 (hK:∀y' D' h',D.le D'->LO cc 5 CO D' h' y' (z35 S.con out p A.circle)->K (y',()) h') :
 Yu [.int .i64 p] (λp12 h5=>
 (Yu [.int .i64 A.circle] (λp13 h6=>
 (Yu [.int .i64 0,.slice zf.a zf.len zf.cap,.slice zf.a zf.len zf.cap,.slice zf.a zf.len zf.cap,.int .i64 0] (λp14 h7=>
 (stP p14 [.int .i64 13,.slice (⟨some p12,1,1⟩:Sl).a (⟨some p12,1,1⟩:Sl).len (⟨some p12,1,1⟩:Sl).cap,.slice (⟨some p13,1,1⟩:Sl).a (⟨some p13,1,1⟩:Sl).len (⟨some p13,1,1⟩:Sl).cap,.slice zf.a zf.len zf.cap,.int .i64 0] (λh8=>
 (zc (F.zo s.constraints ((some p14),())) (λr15 h9=>
 (ifP (!r15)
 (zc (F.zo y ((some p14),())) (λr16 h10=>
 (ifP (!r16)
 (ldL (.int .i64) (p14.add 0) (λx17_0=>
 (ldL (.sl) (p14.add 1) (λx17_1=>
 (ldL (.sl) (p14.add 2) (λx17_2=>
 (ldL (.sl) (p14.add 3) (λx17_3=>
 (ldL (.int .i64) (p14.add 4) (λx17_4=>
 (Y6 5 88 [.int .i64 0,.slice zf.a zf.len zf.cap,.slice zf.a zf.len zf.cap,.slice zf.a zf.len zf.cap,.int .i64 0] y 1 [.int .i64 x17_0,.slice x17_1.a x17_1.len x17_1.cap,.slice x17_2.a x17_2.len x17_2.cap,.slice x17_3.a x17_3.len x17_3.cap,.int .i64 x17_4] (λw18 h11=>
 (K (w18,()) h11)) h10)) h10)) h10)) h10)) h10)) h10)
 (K (y,()) h10))) h9)
 (K (y,()) h9))) h8)) h7)) h6)) h5)) h:=by
  refine ho.newb Yy λp12 D3 h4 d3 l4 ho4 c12=>ho4.newb Yy λp13 D4 h5 d4 l5 ho5 c13=>?_
  refine Zd8 (vs:=[.int .i64 13,.slice (⟨some p12,1,1⟩:Sl).a (⟨some p12,1,1⟩:Sl).len (⟨some p12,1,1⟩:Sl).cap,.slice (⟨some p13,1,1⟩:Sl).a (⟨some p13,1,1⟩:Sl).len (⟨some p13,1,1⟩:Sl).cap,.slice zf.a zf.len zf.cap,.int .i64 0]) rfl rfl ?_
  refine ho5.newb Yy λp14 D5 h6 d5 l6 ho6 c14=>?_
  have e12:D5.cell p12=some (.int .i64 p):=by
   have:=c12 0 _ rfl
   rw[Zq]at this
   exact Hp.cell_le (Hp.le_trans d4 d5) this
  have e13:D5.cell p13=some (.int .i64 A.circle):=by
   have:=c13 0 _ rfl
   rw[Zq]at this
   exact Hp.cell_le d5 this
  have hDD:D.le D5:=Hp.le_trans d3 (Hp.le_trans d4 d5)
  have hco:CO D5 ⟨13,⟨some p12,1,1⟩,⟨some p13,1,1⟩,zf,0⟩ (z0s p A.circle):=Zj2 (va:=zf) (vs:=zf) e12 e13
  have hck:CKC D5 p14 ⟨13,⟨some p12,1,1⟩,⟨some p13,1,1⟩,zf,0⟩:=c14
  refine ho6.call Yy (K1:=λb h'=>(b=true↔∃c∈S.con,onC c p A.circle)) ?_ λb D6 h7 d6 ho7 hb=>?_
  . exact zb9 (hS.le hDD).2.2.2.2.2 (by have:=hs.2.2.2.2.2.1;omega) (λc hc=>hv.one hs hc) hck hco λb h' hl hb=>hb
  have hck6:CKC D6 p14 ⟨13,⟨some p12,1,1⟩,⟨some p13,1,1⟩,zf,0⟩:=λi v hv=>Hp.cell_le d6 (hck i v hv)
  refine zp (λh8=>?_) (λh8=>?_)
  . have hb':¬∃c∈S.con,onC c p A.circle:=λhh=>by rw[hb.2 hh]at h8;cases h8
    refine zb9 (ho7.lr Yy) (by omega) hone (λi v hv=>Hp.cell_le ho7.dle (hck6 i v hv)) ((hco.le d6).le ho7.dle) λb9 h9 hl9 hb9=>?_
    have ho9:=ho7.le hl9
    refine zp (λh10=>?_) (λh10=>?_)
    . have hb9':¬∃c∈out,onC c p A.circle:=λhh=>by rw[hb9.2 hh]at h10;cases h10
      have c9:∀i v,(cc ⟨13,⟨some p12,1,1⟩,⟨some p13,1,1⟩,zf,0⟩)[i]?=some v->h9.cell (p14.add i)=some v:=λi v hv=>Hp.cell_le ho9.dle (hck6 i v hv)
      refine⟨_,c9 0 _ rfl,_,c9 1 _ rfl,_,c9 2 _ rfl,_,c9 3 _ rfl,_,c9 4 _ rfl,?_⟩
      refine ho9.app Yy (bytes:=88) (zero:=[.int .i64 0,.slice zf.a zf.len zf.cap,.slice zf.a zf.len zf.cap,.slice zf.a zf.len zf.cap,.int .i64 0]) (x:=⟨13,⟨some p12,1,1⟩,⟨some p13,1,1⟩,zf,0⟩) (b:=z0s p A.circle) (by rfl) (by omega) (by omega) (hco.le d6) λy' h11 ho11=>?_
      refine hK y' D6 h11 (Hp.le_trans hDD d6) ?_
      . have:z35 S.con out p A.circle=out++[z0s p A.circle]:=by
         unfold z35
         rw[if_neg]
         rintro⟨c,hc,hon⟩
         rcases List.mem_append.1 hc with hc | hc
         . exact hb' ⟨c,hc,hon⟩
         . exact hb9' ⟨c,hc,hon⟩
        rw[this];exact ho11
    . have hb9':∃c∈out,onC c p A.circle:=hb9.1 (by simpa using h10)
      refine hK y D6 h9 (Hp.le_trans hDD d6) ?_
      . have:z35 S.con out p A.circle=out:=by
         unfold z35
         rw[if_pos]
         obtain⟨c,hc,hon⟩:=hb9'
         exact⟨c,List.mem_append_right _ hc,hon⟩
        rw[this];exact ho9
  . have hb':∃c∈S.con,onC c p A.circle:=hb.1 (by simpa using h8)
    refine hK y D6 h7 (Hp.le_trans hDD d6) ?_
    . have:z35 S.con out p A.circle=out:=by
       unfold z35
       rw[if_pos]
       obtain⟨c,hc,hon⟩:=hb'
       exact⟨c,List.mem_append_left _ hc,hon⟩
      rw[this];exact ho7
theorem zkr(hx:SK h s S)(hv:VS S)(hs:sSk S)(H:∀y h',h.le h'->LR cc 5 CO h' y (imp S)->Ks y h'):zc (F.z2y s) Ks h:=by
 refine zd (λy h'=>LR cc 5 CO h' y (imp S)) (λK' hk=>?_) λb h' hl hb=>H b h' hl hb
 unfold F.z2y
 have l4:=hx.2.2.2.1.len z3s
 have s4:=hs.2.2.2.1
 refine Yq (n:=S.arc.length) (by omega) (λi y h'=>∃D,h.le D/\LO cc 5 CO D h' y (ze5 S.con (S.arc.take i))) ⟨h,Hp.le_refl _,LO.nil⟩ ?_
 rintro i y h1 hi ⟨D,hD,ho⟩ k hk2
 refine ze (λh2=>?_) (λh2=>?_)
 . have hi':i<S.arc.length:=by simp only at h2;omega
   have hlen:=zhb S.con S.arc i hi
   refine Z7x (hx.le (Hp.le_trans hD ho.dle)) i rfl hi' λa hc=>⟨_,hc 0 _ rfl,_,hc 1 _ rfl,_,hc 2 _ rfl,_,hc 3 _ rfl,?_⟩
   refine ho.newb Yy λp5 D2 h3 d2 l3 ho3 c5=>?_
   have hD2:=Hp.le_trans hD d2
   obtain⟨A,hA⟩:∃A,A=S.arc[i]:=⟨_,rfl⟩
   rw[<-hA]at c5 |-
   obtain⟨out,hout⟩:∃out,out=ze5 S.con (S.arc.take i):=⟨_,rfl⟩
   rw[<-hout]at ho3 hlen
   have hone:∀c∈out,VC1 c:=by rw[hout];exact Z8k i hi
   obtain⟨st,hst⟩:∃st:Nat->List PCon,st=λj=>if j=0 then out else if j=1 then z35 S.con out A.a A.circle else zgd S.con out A:=⟨_,rfl⟩
   have st0:st 0=out:=by rw[hst];rfl
   have st1:st 1=z35 S.con out A.a A.circle:=by rw[hst];rfl
   have st2:st 2=zgd S.con out A:=by rw[hst];rfl
   have a1:=zdq S.con out A.a A.circle
   have hl5:IL D2 ⟨some p5,2,2⟩ [A.a,A.b]:=⟨z2t c5 rfl,Nat.le_refl _⟩
   refine Yq (n:=2) (by omega) (λj y h'=>∃D,D2.le D/\LO cc 5 CO D h' y (st j)) ⟨D2,Hp.le_refl _,by rw[st0];exact ho3⟩ ?_
   rintro j z h4 hj ⟨D3,d3,ho4⟩ k2 hk3
   refine ze (λh5=>?_) (λh5=>?_)
   . have hj':j<2:=by have:(j:Int)<((2:Nat):Int):=h5;omega
     refine zk (λs h'=>∃D,D2.le D/\LO cc 5 CO D h' s.1 (st (j+1))) (λs h' hs=>hk3 _ _ hj' hs) ?_
     refine(hl5.le (Hp.le_trans d3 ho4.dle)).get j rfl hj' ?_
     have fin:∀(p:Int),st (j+1)=z35 S.con (st j) p A.circle->∀y' D' h',D3.le D'->LO cc 5 CO D' h' y' (z35 S.con (st j) p A.circle)->(λ(s:Sl×Unit) h'=>∃D,D2.le D/\LO cc 5 CO D h' s.1 (st (j+1))) (y',()) h':=
      λp hp y' D' h' hd hl=>⟨D',Hp.le_trans d3 hd,by rw[hp];exact hl⟩
     have hS3:SK D3 s S:=hx.le (Hp.le_trans hD2 d3)
     rcases(by omega:j=0\/j=1)with rfl | rfl
     . exact zo9 (A:=A) (K:=λ(s:Sl×Unit) h'=>∃D,D2.le D/\LO cc 5 CO D h' s.1 (st (0+1))) hv hs (by rw[st0];omega) (by rw[st0];exact hone) hS3 ho4 (fin A.a (by rw[st1,st0]))
     . exact zo9 (A:=A) (K:=λ(s:Sl×Unit) h'=>∃D,D2.le D/\LO cc 5 CO D h' s.1 (st (1+1))) hv hs (by rw[st1];omega) (by rw[st1];exact zdp hone zsl) hS3 ho4 (fin A.b (by rw[st2,st1];rfl))
   . have:j=2:=by have:¬(j:Int)<((2:Nat):Int):=h5;omega
     subst this
     refine hk2 _ _ hi' ⟨D3,Hp.le_trans hD2 d3,?_⟩
     rw[ze6 hi',<-hout,<-hA,<-st2]
     exact ho4
 . have:i=S.arc.length:=by simp only at h2;omega
   subst this
   rw[List.take_length]at ho
   exact hk _ _ (Hp.le_trans hD ho.dle) (ho.lr Yy)
end
end Den
end

section
namespace Den
open Go Iv Lx
def zC:List Value:=[.int .i64 0,.slice zf.a zf.len zf.cap,.slice zf.a zf.len zf.cap,.slice zf.a zf.len zf.cap,.int .i64 0]
section
variable {h : Hp} {s : TSketch} {S : PSk} {Kb : Bool → Hp → Prop} {Ki : Int → Hp → Prop} {Ks : Sl → Hp → Prop} {l m : Sl} {xs ys : List Int}
theorem Z84{i:Int}{K:Addr->Prop}(hx:SK h s S)(k:Nat)(hi:i=k)(hk:k<S.cir.length)(H:∀a (x:TRound),x.center=(Xl S)[k]'(by unfold Xl;simpa using hk)->(∀j v,(rdc x)[j]?=some v->h.cell (a.add j)=some v)->K a):zg s.circles i 5 K:=
 hx.2.1.get z69 k hi hk λa x hxx hc=>H a x (by rw[hxx.1];simp[Xl]) hc
theorem zni:(Xl S).length=S.cir.length:=by simp[Xl]
end
end Den
end

section
namespace Den
open Go Iv Lx
def zce(c:PCon)(cs:List Int):Prop:=∀k∈c.cir,0<=k/\k<cs.length
theorem VC.cirOk{c:PCon}{n:Int}{S:PSk}(hv:VC c n S.cir.length):zce c (Xl S):=λk hk=>by
 have:=hv.2.2.1.2 k hk
 rw[zni];exact this
def zkl(c:PCon):Prop:=c.kind=13\/c.kind=16\/c.kind=17
instance (c:PCon):Decidable (zkl c):=by unfold zkl;infer_instance
theorem Z8p{c:PCon}{cs:List Int}{k:Int}(h:zkl c):itK c cs k=[-1-k,cs.getD k.toNat 0]:=by unfold itK;exact if_pos h
theorem Z8o{c:PCon}{cs:List Int}{k:Int}(h:¬zkl c):itK c cs k=[-1-k]:=by unfold itK;exact if_neg h
theorem zh3{c:PCon}{cs:List Int}:∀l:List Int,(l.flatMap (itK c cs)).length<=2*l.length:=by
 intro l
 induction l with
 | nil=>simp
 | cons a r ih=>
   have:=zup c cs a
   simp only[List.flatMap_cons,List.length_append,List.length_cons]
   omega
theorem zcp{c:PCon}{cs:List Int}{l:List Int}{i:Nat}(hi:i<l.length):(l.take (i+1)).flatMap (itK c cs)=(l.take i).flatMap (itK c cs)++itK c cs l[i]:=by
 rw[<-List.take_append_getElem hi,List.flatMap_append]
 simp
section
variable {h : Hp} {x : TConstraint} {c : PCon} {cs : List Int} {ce : Sl} {Kb : Bool → Hp → Prop} {Ki : Int → Hp → Prop} {Ks : Sl → Hp → Prop}
theorem Z4i{k:Int}{n:Nat}(h0:0<=k)(h1:k<n)(h2:n<=1000000):i64.wrap (-1-k)=-1-k:=w64 (by omega)
end
section
variable {h : Hp} {s : TSketch} {S : PSk} {Kb : Bool → Hp → Prop} {Ki : Int → Hp → Prop} {Ks : Sl → Hp → Prop} {l m : Sl} {xs ys : List Int}
theorem zvh{n:Nat}(hn:n<=1000000)(H:∀y h',h.le h'->LO cc 5 CO h h' y []->Ks y h'):zc (F.yr zf (n:Int)) Ks h:=by
 refine zd (λy h'=>LO cc 5 CO h h' y []) (λK' hk=>?_) λb h' hl hb=>H b h' hl hb
 unfold F.yr
 have e0:i64.wrap (((zf.cap:Nat):Int)-(zf.len:Int))=0:=by rw[show((zf.cap:Nat):Int)-(zf.len:Int)=0 from rfl];exact w64 (by omega)
 have e1:i64.wrap ((n:Int)-0)=(n:Int):=by rw[Int.sub_zero];exact w64 (by omega)
 refine zk (λ_ h'=>h'=h) ?_ (ze (λh1=>by omega) (λ_=>rfl))
 rintro _ h rfl
 rw[e0,e1]
 refine ze (λh1=>?_) (λh1=>hk _ _ (Hp.le_refl _) LO.nil)
 refine⟨by omega,by decide,by decide,by omega,?_⟩
 have hown:Own h h 5 (zf.cut 0 0 5) ([]:List Value):=⟨Hp.le_refl _,rfl,Nat.le_refl _,rfl⟩
 have ez:Z6 n zC=(List.replicate n (⟨0,zf,zf,zf,0⟩:TConstraint)).flatMap cc:=by
  unfold Z6
  rw[List.flatMap_replicate]
  rfl
 have key:Y6 5 88 zC (zf.cut 0 0 5) n (Z6 n zC) (λw4 h2=>slP w4 0 ((zf.len:Nat):Int) 5 λc5=>K' c5 h2) h:=by
  refine z3r hown (n:=n) ?_ rfl ?_ (by show(0+n)*88<=_;omega) (by show 0+n<=_;omega) λy h' hy hyl=>?_
  . rw[z2v];rfl
  . rw[ez,List.all_flatMap,List.all_eq_true]
    exact λx _=>rfl
  . have hcap:=hy.2.2.1
    have e9:zf.len=0:=rfl
    refine⟨by decide,by decide,by omega,hk _ _ hy.1 ?_⟩
    have hp:=hy.preN (k:=0) (by omega)
    refine⟨[],?_,rfl,λk h1 _=>by simp at h1⟩
    rw[Nat.zero_mul,List.take_zero]at hp
    exact hp
 exact key
theorem zmw{qs rs:List PCon}{p:Addr}(hl:LR cc 5 CO h l qs)(hm:LR cc 5 CO h m rs)(hlen:qs.length+rs.length<=1000)(hp:Rd h 1 ⟨some p,2,2⟩ [Lf.sl.up l,Lf.sl.up m])(H:∀y h',h.le h'->LR cc 5 CO h' y (qs++rs)->Ks y h') :
 zc (F.yh ⟨some p,2,2⟩) Ks h:=by
 refine zd (λy h'=>LR cc 5 CO h' y (qs++rs)) (λK' hk=>?_) λb h' hl hb=>H b h' hl hb
 unfold F.yh
 have ll:=hl.len Yy
 have ml:=hm.len Yy
 have g0:∀{h':Hp} {K:Sl->Prop},h.le h'->K l->zg (⟨some p,2,2⟩:Sl) ((0:Nat):Int) 1 λa=>ldL .sl a K h':=λ{h'} {K} hle hK=>zi3 0 (hp.le hle) rfl rfl λa ha=>⟨l,ha,hK⟩
 have g1:∀{h':Hp} {K:Sl->Prop},h.le h'->K m->zg (⟨some p,2,2⟩:Sl) ((1:Nat):Int) 1 λa=>ldL .sl a K h':=λ{h'} {K} hle hK=>zi3 1 (hp.le hle) rfl rfl λa ha=>⟨m,ha,hK⟩
 refine Yq (n:=2) (by omega) (λi a h'=>h'=h/\a=if i=0 then 0 else if i=1 then (qs.length:Int)else ((qs.length+rs.length:Nat):Int)) ⟨rfl,rfl⟩ ?_
 rintro i a h hi ⟨rfl,ha⟩ k hk2
 refine ze (λh1=>?_) (λh1=>?_)
 . have hi':i<2:=by have:(i:Int)<((2:Nat):Int):=h1;omega
   refine zk (λs h'=>h'=h/\s.1=if i+1=0 then 0 else if i+1=1 then (qs.length:Int)else ((qs.length+rs.length:Nat):Int)) (λs h' hs=>hk2 _ _ hi' hs) ?_
   rcases(by omega:i=0\/i=1)with rfl | rfl
   . refine g0 (Hp.le_refl _) ?_
     have ha:a=0:=ha
     have e:i64.wrap (a+(l.len:Int))=(qs.length:Int):=by rw[ha,ll,Int.zero_add];exact w64 (by omega)
     simp only
     rw[e]
     refine ze (λh2=>by omega) (λ_=>⟨by trivial,by trivial⟩)
   . refine g1 (Hp.le_refl _) ?_
     have ha:a=(qs.length:Int):=ha
     have e:i64.wrap (a+(m.len:Int))=((qs.length+rs.length:Nat):Int):=by rw[ha,ml];rw[w64 (by omega)];omega
     simp only
     rw[e]
     refine ze (λh2=>by omega) (λ_=>⟨by trivial,by trivial⟩)
 . have hi':i=2:=by have:¬(i:Int)<((2:Nat):Int):=h1;omega
   subst hi'
   have ha:a=((qs.length+rs.length:Nat):Int):=ha
   simp only
   rw[ha]
   refine zvh (by omega) λr7 h3 hl3 ho3=>?_
   refine Yq (n:=2) (by omega) (λi y h'=>LO cc 5 CO h h' y (if i=0 then []else if i=1 then qs else qs++rs)) ho3 ?_
   intro i y h4 hi ho4 k hk3
   refine ze (λh5=>?_) (λh5=>?_)
   . have hi':i<2:=by have:(i:Int)<((2:Nat):Int):=h5;omega
     rcases(by omega:i=0\/i=1)with rfl | rfl
     . refine g0 ho4.dle ?_
       have ho4:LO cc 5 CO h h4 y []:=ho4
       exact ho4.appAll Yy (bytes:=88) (zero:=zC) hl rfl (by simp;omega) (by simp;omega) λw h6 ho6=>hk3 _ _ (by decide) ho6
     . refine g1 ho4.dle ?_
       have ho4:LO cc 5 CO h h4 y qs:=ho4
       exact ho4.appAll Yy (bytes:=88) (zero:=zC) hm rfl (by omega) (by omega) λw h6 ho6=>hk3 _ _ (by decide) ho6
   . have hi':i=2:=by have:¬(i:Int)<((2:Nat):Int):=h5;omega
     subst hi'
     have ho4:LO cc 5 CO h h4 y (qs++rs):=ho4
     exact hk _ _ ho4.dle (ho4.lr Yy)
end
end Den
end

section
namespace Den
open Go Iv Lx
def ILP(h:Hp)(x:Sl)(xs:List Int):Prop:=IL h x xs
theorem z8b:Rec slc 1 ILP:=⟨λ_=>rfl,by decide,λ_=>rfl,λhx hl=>IL.le hx hl⟩
def zbs(s:TSketch)(lS itS ceS:Sl):List Value:=[Lf.sl.up s.points,Lf.sl.up s.circles,Lf.sl.up s.segments,Lf.sl.up s.arcs,Lf.sl.up s.chains,Lf.sl.up s.constraints,Lf.sl.up lS,Lf.sl.up itS,Lf.sl.up ceS]
def MB(h:Hp)(b:Nat)(cs:List Value):Prop:=∃e,h b=some ⟨cs,e,(0,0)⟩
theorem MB.ld{h:Hp}{b:Nat}{cs:List Value}(hb:MB h b cs)(j:Nat){v:Value}(hv:cs[j]?=some v):h.cell ((⟨b,0,none⟩:Addr).add j)=some v:=by
 obtain⟨e,hb⟩:=hb
 unfold Hp.cell
 rw[Yi,V1 rfl,Xr]
 simpa [hb] using hv
theorem MB.le{h h':Hp}{b:Nat}{cs:List Value}(hb:MB h b cs)(hl:h.le h'):MB h' b cs:=by
 obtain⟨e,hb⟩:=hb
 exact⟨e,hl _ _ hb⟩
theorem MB.st{h:Hp}{b j:Nat}{cs:List Value}{v:Value}{K:Hp->Prop}(hb:MB h b cs)(hj:j<cs.length)(hv:Value.leaf v=true)
 (H:∀h',MB h' b (cs.set j v)->(∀i,i≠b->h' i=h i)->K h'):stP ((⟨b,0,none⟩:Addr).add j) [v] K h:=by
 obtain⟨e,hb⟩:=hb
 refine⟨_,by rw[Yi];exact hb,V1 rfl _,rfl,?_,by simp[hv],?_⟩
 . rw[Xr];simp;omega
 . rw[Yi,Xr]
   refine H _ ⟨e,?_⟩ λi hi=>Hp.ins_ne hi
   rw[Hp.ins_same]
   simp only[Nat.zero_add]
   rw[z3m,List.set_eq_take_append_cons_drop,if_pos hj]
theorem zs7{h h':Hp}{b:Nat}{bl:Blk}(hb:h' b=some bl)(hs:∀i,i≠b->h' i=h i):h'=h.ins b bl:=by
 funext i
 by_cases hi:i=b
 . subst hi;rw[Hp.ins_same,hb]
 . rw[Hp.ins_ne hi,hs i hi]
theorem zhr{h0 h:Hp}{x:Sl}{cs:List Value}{n m:Nat}{bl:Blk}(ho:Own h0 h m x cs)(hn:h0 n=none)(hne:∀a,x.a=some a->a.block≠n):Own h0 (h.ins n bl) m x cs:=by
 obtain⟨h1,h2,h3,h4⟩:=ho
 refine⟨λk b hk=>?_,h2,h3,?_⟩
 . have:k≠n:=λhh=>by subst hh;rw[hn]at hk;cases hk
   rw[Hp.ins_ne this];exact h1 k b hk
 . cases ha:x.a with
   | none=>rw[ha]at h4;exact h4
   | some a=>
     rw[ha]at h4
     obtain⟨g1,g2,g3,b,g4,g5⟩:=h4
     exact⟨g1,g2,g3,b,by rw[Hp.ins_ne (hne a ha)];exact g4,g5⟩
theorem zop{h0 h D:Hp}{x:Sl}{cs:List Value}{m:Nat}(ho:Own h0 h m x cs)(hD:∀a,x.a=some a->D a.block=h a.block):Rd D m x cs:=by
 have hr:=ho.rd
 obtain⟨h1,h2,h3,h4⟩:=ho
 refine⟨hr.1,?_⟩
 cases ha:x.a with
 | none=>have:=hr.2;rw[ha]at this;exact this
 | some a=>
   rw[ha]at h4
   obtain⟨g1,g2,g3,b,g4,g5,g6,g7⟩:=h4
   have hle:cs.length<=b.cells.length:=by rw[g6,<-h2];exact Nat.mul_le_mul_right _ h3
   simp only[Z3]
   rw[z78 (by rw[hD a ha];exact g4) g2 (by omega),g1]
   simp[g7]
def PR(h:Hp)(p:Addr)(S:PSk):Prop:=∃s lS itS ceS,SK h s S/\(∀j v,(zbs s lS itS ceS)[j]?=some v->h.cell (p.add j)=some v)/\LR cc 5 CO h lS (Qu S)/\LR slc 1 ILP h itS ((Qu S).map λc=>Wv c (Xl S))/\IL h ceS (Xl S)
theorem PR.le{h h':Hp}{p:Addr}{S:PSk}(hp:PR h p S)(hl:h.le h'):PR h' p S:=by
 obtain⟨s,lS,itS,ceS,h1,h2,h3,h4,h5⟩:=hp
 exact⟨s,lS,itS,ceS,h1.le hl,λj v hv=>Hp.cell_le hl (h2 j v hv),h3.le Yy hl,h4.le z8b hl,h5.le hl⟩
section
variable {h : Hp} {s : TSketch} {S : PSk} {Kp : Option Addr → Hp → Prop}
theorem zm9(hx:SK h s S)(hv:VS S)(hs:sSk S)(H:∀p h',h.le h'->PR h' p S->Kp (some p) h'):zc (F.z01 s) Kp h:=by
 refine zd (λy h'=>∃p,y=some p/\PR h' p S) (λK' hk=>?_) λb h' hl ⟨p,hp,hb⟩=>by subst hp;exact H p h' hl hb
 unfold F.z01
 have hal:=zge hs
 have hok:=zcb hv hs
 have s6:=hs.2.2.2.2.2.1
 have hi:=zuo S
 have s4:=hs.2.2.2.1
 have s2:=hs.2.1
 have cl:=zni (S:=S)
 refine zkr hx hv hs λr1 h1 hl1 hr1=>?_
 refine zbx (cells:=[Lf.sl.up s.constraints,Lf.sl.up r1]) 1 2 rfl λp2 h2 hl2 hp2=>?_
 refine zmw ((hx.le (Hp.le_trans hl1 hl2)).2.2.2.2.2) (hr1.le Yy hl2) (by omega) hp2 λlS h3 hl3 hL=>?_
 have hle3:=Hp.le_trans hl1 (Hp.le_trans hl2 hl3)
 have hx3:=hx.le hle3
 have hL:LR cc 5 CO h3 lS (Qu S):=hL
 intro b e hbf
 have l2:=hx.2.1.len z69
 have lL:=hL.len Yy
 refine Yr (n:=S.cir.length) (by omega) (λi h'=>∃y,MB h' b (zbs s lS zf y)/\OI h3 h' y ((Xl S).take i)/\∀a,y.a=some a->a.block≠b) ⟨zf,⟨e,Hp.ins_same _ _ _⟩,by rw[List.take_zero];exact Own.nil (Hp.le_ins hbf),λa ha=>by cases ha⟩ ?_
 rintro i h5 hi ⟨y,hm,ho,hab⟩ k hk2
 have h3b:h3 b=none:=hbf
 refine ze (λh6=>?_) (λh6=>?_)
 . have hi':i<S.cir.length:=by simp only at h6;omega
   refine Z84 (hx3.le ho.dle) i rfl hi' λa x hxx hc=>⟨_,hc 0 _ rfl,_,hc 1 _ rfl,_,hc 2 _ rfl,_,hc 3 _ rfl,_,hc 4 _ rfl,_,hm.ld 8 rfl,?_⟩
   have hyl:=ho.il.len
   rw[List.length_take]at hyl
   refine zcc ho (n:=1) (new:=[ic x.center]) rfl rfl rfl (by omega) (by omega) λz h7 hz _ hs7 hb7=>?_
   have hbb:h5 b≠none:=by obtain⟨e,hm⟩:=hm;rw[hm];simp
   have hm7:MB h7 b (zbs s lS zf y):=by
    obtain⟨e,hm⟩:=hm
    exact⟨e,by rw[hs7 b hbb λa ha=>(hab a ha).symm];exact hm⟩
   have hzb:∀a,z.a=some a->a.block≠b:=λa ha hh=>by
    rcases hb7 a ha with ⟨a',h8,h9⟩ | h8
    . exact hab a' h8 (by rw[h9];exact hh)
    . rw[hh]at h8;exact hbb h8
   refine hm7.st (j:=8) (v:=Lf.sl.up z) (by simp[zbs]) rfl λh8 hm8 hs8=>hk2 _ hi' ⟨z,hm8,?_,hzb⟩
   obtain⟨e8,hm8'⟩:=hm8
   rw[zs7 hm8' hs8]
   have:OI h3 h7 z ((Xl S).take (i+1)):=by
    unfold OI
    rw[<-List.take_append_getElem (show i<(Xl S).length by omega),List.map_append,<-hxx]
    exact hz
   exact zhr this h3b hzb
 . have hi':i=S.cir.length:=by simp only at h6;omega
   subst hi'
   rw[<-cl,List.take_length]at ho
   obtain⟨D0,hD0⟩:∃D0,D0=h5.del b:=⟨_,rfl⟩
   have hD0le:D0.le h5:=by rw[hD0];exact Hp.del_le _ _
   have h3D:h3.le D0:=λj bl hj=>by
    rw[hD0]
    unfold Hp.del
    rw[if_neg (λhh=>by subst hh;rw[h3b]at hj;cases hj)]
    exact ho.dle _ _ hj
   have hce:IL D0 y (Xl S):=⟨zop ho λa ha=>by rw[hD0];unfold Hp.del;rw[if_neg (hab a ha)],ho.2.2.1⟩
   refine⟨_,hm.ld 6 rfl,?_⟩
   have hLD:=hL.le Yy h3D
   refine Yr (n:=(Qu S).length) (by omega) (λi h'=>∃z D,MB h' b (zbs s lS z y)/\D0.le D/\D b=none/\LO slc 1 ILP D h' z (((Qu S).map λc=>Wv c (Xl S)).take i)/\∀a,z.a=some a->a.block≠b)
    ⟨zf,D0,hm,Hp.le_refl _,by rw[hD0];exact Hp.del_same _ _,⟨[],Own.nil hD0le,by simp,λk k1 _=>by simp at k1⟩,λa ha=>by cases ha⟩ ?_
   clear hk2
   rintro i h8 hi ⟨z,D,hm8,hD,hDb,hz,hzb⟩ k hk2
   refine ze (λh9=>?_) (λh9=>?_)
   . have hi':i<(Qu S).length:=by simp only at h9;omega
     have hD8:=hz.dle
     refine(hLD.le Yy (Hp.le_trans hD hD8)).get Yy i rfl hi' λa x hxx hc=>?_
     refine⟨_,hc 0 _ rfl,_,hc 1 _ rfl,_,hc 2 _ rfl,_,hc 3 _ rfl,_,hc 4 _ rfl,?_⟩
     obtain⟨c,hcc⟩:∃c,c=(Qu S)[i]:=⟨_,rfl⟩
     rw[<-hcc]at hxx
     have hcok:=hok c (by rw[hcc];exact List.getElem_mem _)
     have hcir:zce c (Xl S):=hcok.1.cirOk
     have hsc:=hcok.2
     obtain⟨x1,x2,x3,x4,x5⟩:=hxx
     obtain⟨c1,c2,c3,c4⟩:=hsc
     have cll:=x3.len
     refine zo7 x2 (by omega) λr16 h10 ho10=>?_
     rw[x1]
     refine Yq (n:=c.cir.length) (by omega) (λj w h'=>OI h8 h' w (c.pts++(c.cir.take j).flatMap (itK c (Xl S)))) (by simpa using ho10) ?_
     intro j w h11 hj ho11 k11 hk11
     have hfl:=zh3 (c:=c) (cs:=Xl S) (c.cir.take j)
     rw[List.length_take]at hfl
     refine ze (λh12=>?_) (λh12=>?_)
     . have hj':j<c.cir.length:=by simp only at h12;omega
       have hkk:=hcir _ (List.getElem_mem hj')
       refine zk (λs h'=>OI h8 h' s.1 (c.pts++(c.cir.take (j+1)).flatMap (itK c (Xl S)))) (λs h' hs=>hk11 _ _ hj' hs) ?_
       refine(x3.le ho11.dle).get j rfl hj' ?_
       rw[Z4i hkk.1 hkk.2 (by omega)]
       refine ho11.app (by rw[List.length_append];omega) λw2 h13 ho13=>?_
       have two:zkl c->ldL .sl ((⟨b,0,none⟩:Addr).add 8) (λx24=>zg x24 c.cir[j] 1 λa25=>ldL (.int .i64) a25 (λx26=>Y6 1 8 [.int .i64 0] w2 1 [.int .i64 x26] (λw27 h13=>OI h8 h13 w27 (c.pts++(c.cir.take (j+1)).flatMap (itK c (Xl S)))) h13) h13) h13:=by
        intro hw
        refine⟨_,(hm8.le ho13.dle).ld 8 rfl,?_⟩
        refine(hce.le (Hp.le_trans hD (Hp.le_trans hD8 ho13.dle))).get c.cir[j].toNat (by omega) (by omega) ?_
        refine ho13.app (by rw[List.length_append,List.length_append,List.length_singleton];omega) λw3 h14 ho14=>?_
        rw[zcp hj',Z8p hw,Q4 (by omega)]
        simpa [List.append_assoc] using ho14
       refine Za (λh6=>two (.inl h6)) (λh6=>Za (λh7=>two (.inr (.inl h7))) (λh7=>Za (λh8=>two (.inr (.inr h8))) (λh8=>?_)))
       show OI _ _ _ _
       rw[zcp hj',Z8o (by unfold zkl;omega),<-List.append_assoc]
       exact ho13
     . have hj':j=c.cir.length:=by simp only at h12;omega
       subst hj'
       rw[List.take_length]at ho11
       have ho11:OI h8 h11 w (Wv c (Xl S)):=ho11
       have hm11:=hm8.le ho11.dle
       refine⟨_,hm11.ld 7 rfl,?_⟩
       have hz11:=hz.le ho11.dle
       have hbb:h11 b≠none:=by obtain⟨e,hm⟩:=hm11;rw[hm];simp
       have hwb:∀a,w.a=some a->h8 a.block=none:=λa ha=>by
        obtain⟨_,_,_,g4⟩:=ho11
        rw[ha]at g4
        exact g4.2.2.1
       have h8b:h8 b≠none:=by obtain⟨e,hm⟩:=hm8;rw[hm];simp
       obtain⟨zs,q1,q2,q3⟩:=hz11
       have hz8:∀a,z.a=some a->h8 a.block≠none:=λa ha=>by
        obtain⟨ys,g1,_,_⟩:=hz
        obtain⟨_,_,_,g4⟩:=g1
        rw[ha]at g4
        obtain⟨_,_,_,bl,g5,_⟩:=g4
        rw[g5];simp
       have hzD:∀a,z.a=some a->D a.block=none:=λa ha=>by
        obtain⟨_,_,_,g4⟩:=q1
        rw[ha]at g4
        exact g4.2.2.1
       obtain⟨D1,hD1⟩:∃D1:Hp,D1=λj=>if j=b\/(∃a,z.a=some a/\j=a.block)then none else h11 j:=⟨_,rfl⟩
       have hD1h:D1.le h11:=λj bl hj=>by
        rw[hD1]at hj
        simp only at hj
        split at hj
        . cases hj
        . exact hj
       have hDD1:D.le D1:=λj bl hj=>by
        rw[hD1]
        simp only
        rw[if_neg]
        . exact Hp.le_trans hD8 ho11.dle _ _ hj
        . rintro(rfl | ⟨a,ha,rfl⟩)
          . rw[hDb]at hj;cases hj
          . rw[hzD a ha]at hj;cases hj
       have hD1b:D1 b=none:=by rw[hD1];simp
       have hw1:IL D1 w (Wv c (Xl S)):=⟨zop ho11 λa ha=>by
        rw[hD1]
        simp only
        rw[if_neg]
        rintro(hh | ⟨a',ha',hh⟩)
        . exact h8b (by rw[<-hh];exact hwb a ha)
        . exact hz8 a' ha' (by rw[<-hh];exact hwb a ha),ho11.2.2.1⟩
       have hz1:Own D1 h11 1 z (zs.flatMap slc):=by
        obtain⟨g1,g2,g3,g4⟩:=q1
        refine⟨hD1h,g2,g3,?_⟩
        cases ha:z.a with
        | none=>rw[ha]at g4;exact g4
        | some a=>
          rw[ha]at g4
          obtain⟨k1,k2,k3,k4⟩:=g4
          exact⟨k1,k2,by rw[hD1];simp only;rw[if_pos (.inr ⟨a,ha,rfl⟩)],k4⟩
       have hzl:=hz.len z8b
       rw[List.length_take,List.length_map]at hzl
       refine zcc hz1 (n:=1) (new:=slc w) rfl rfl rfl (by omega) (by omega) λz2 h15 hz2 _ hs15 hb15=>?_
       have hm15:MB h15 b (zbs s lS z y):=by
        obtain⟨e,hm⟩:=hm11
        exact⟨e,by rw[hs15 b hbb λa ha=>(hzb a ha).symm];exact hm⟩
       have hz2b:∀a,z2.a=some a->a.block≠b:=λa ha hh=>by
        rcases hb15 a ha with ⟨a',h8,h9⟩ | h8
        . exact hzb a' h8 (by rw[h9];exact hh)
        . rw[hh]at h8;exact hbb h8
       refine hm15.st (j:=7) (v:=Lf.sl.up z2) (by simp[zbs]) rfl λh16 hm16 hs16=>hk2 _ hi' ⟨z2,D1,hm16,Hp.le_trans hD hDD1,hD1b,⟨zs++[w],?_,?_,λj j1 j2=>?_⟩,hz2b⟩
       . obtain⟨e8,hm8'⟩:=hm16
         rw[zs7 hm8' hs16]
         refine zhr ?_ hD1b hz2b
         rw[List.flatMap_append]
         simpa using hz2
       . rw[List.length_append,q2,List.length_take,List.length_take]
         simp;omega
       . have hlz:zs.length=i:=by rw[q2];simp;omega
         rcases Nat.lt_or_ge j i with h5 | h5
         . rw[List.getElem_append_left (by omega),List.getElem_take]
           have:=q3 j (by omega) (by simp;omega)
           rw[List.getElem_take]at this
           exact z8b.mono this hDD1
         . have h6:j=i:=by simp at j1;omega
           subst h6
           rw[List.getElem_append_right (by omega),List.getElem_take]
           simp only[hlz,Nat.sub_self,List.getElem_cons_zero,List.getElem_map]
           rw[<-hcc]
           exact hw1
   . have hi':i=(Qu S).length:=by simp only at h9;omega
     subst hi'
     have hfull:((Qu S).map λc=>Wv c (Xl S)).take (Qu S).length=(Qu S).map λc=>Wv c (Xl S):=List.take_of_length_le (by simp)
     rw[hfull]at hz
     have hD8:=hz.dle
     have h38:h3.le h8:=Hp.le_trans h3D (Hp.le_trans hD hD8)
     refine hk _ _ (Hp.le_trans hle3 h38) ⟨⟨b,0,none⟩,rfl,s,lS,z,y,hx3.le h38,λj v hv=>hm8.ld j hv,hL.le Yy h38,hz.lr z8b,hce.le (Hp.le_trans hD hD8)⟩
end
end Den
end

section
namespace Den
open Go Iv Lx
def cAt(cs:List Int)(c:PCon)(i:Nat):Int:=cs.getD (c.cir.getD i 0).toNat 0
def cnt(l:List Int)(t:Int):Nat:=(l.filter (·==t)).length
def zba(c:PCon)(cs:List Int)(t:Int):Int:=
 if c.kind=13 then (if (t∈c.pts)↔cAt cs c 0=t then 0 else 2)
 else if c.kind=16 then (if cAt cs c 0=t/\t∉c.pts then 1 else 0)
 else if c.kind=17 then (if cAt cs c 0=t↔cAt cs c 1=t then 0 else 2)
 else if t∉c.pts then 0
 else if c.kind=1\/c.kind=9 then 3
 else if c.kind=2 then 2
 else if c.kind=3\/c.kind=6\/c.kind=11\/c.kind=12 then 1
 else if c.kind=4 then (if c.pts[0]?=some t then 1 else 0)
 else if c.kind=10 then (if c.pts[0]?=some t\/c.pts[1]?=some t then 3 else 0)
 else if c.kind=5\/c.kind=7 then (if cnt c.pts t=2 then 2 else 1)
 else if c.kind=8 then (if cnt c.pts t=2 then 1 else 2)
 else 0
def zc2(c:PCon)(cs:List Int)(k:Int):Prop:=
 k∈c.cir/\(if c.kind=13\/c.kind=16 then cs.getD k.toNat 0∉c.pts else if c.kind=17 then c.side=1/\cAt cs c 0≠cAt cs c 1 else True)
instance (c:PCon) (cs:List Int) (k:Int):Decidable (zc2 c cs k):=by unfold zc2;infer_instance
def z7v(c:PCon)(cs:List Int)(item:Int):Prop:=
 if item<0 then zc2 c cs (-1-item)else if eqK c.kind=2 then zba c cs item=3 else zba c cs item=1\/zba c cs item=2
instance (c:PCon) (cs:List Int) (k:Int):Decidable (z7v c cs k):=by unfold z7v;infer_instance
def zfe(l:List Int)(item:Int)(R:List Int):Prop:=item∈l/\∀x∈l,x∉R
instance (l:List Int) (item:Int) (R:List Int):Decidable (zfe l item R):=by unfold zfe;infer_instance
def zei(its:List (List Int))(item:Int)(R:List Int):Nat->List Int
 | 0=>[]
 | k+1=>zei its item R k++(if zfe (its.getD k []) item R then [(k:Int)]else [])
def z9y(its:List (List Int))(item:Int)(R:List Int):List Int:=zei its item R its.length
theorem zoy{its:List (List Int)}{item:Int}{R:List Int}:∀{k:Nat} {j:Int},j∈zei its item R k↔∃i:Nat,i<k/\j=i/\zfe (its.getD i []) item R
 | 0,j=>by simp[zei]
 | k+1,j=>by
   unfold zei
   rw[List.mem_append,zoy]
   constructor
   . rintro(⟨i,hi,h1,h2⟩ | h)
     . exact⟨i,by omega,h1,h2⟩
     . split at h
       . rename_i h3
         exact⟨k,by omega,List.mem_singleton.1 h,h3⟩
       . cases h
   . rintro⟨i,hi,h1,h2⟩
     rcases Nat.lt_or_ge i k with h3 | h3
     . exact .inl ⟨i,h3,h1,h2⟩
     . have:i=k:=by omega
       subst this
       right
       rw[if_pos h2];exact List.mem_singleton.2 h1
theorem zi6(its:List (List Int))(item:Int)(R:List Int):∀k,(zei its item R k).length<=k
 | 0=>by simp[zei]
 | k+1=>by
   unfold zei
   have:=zi6 its item R k
   rw[List.length_append]
   split<;>simp<;>omega
def dC:PCon:=⟨0,[],[],[],0⟩
def wtL(L:List PCon)(l:List Int):Nat:=(l.map λi=>eqK (L.getD i.toNat dC).kind).sum
def z9p(item:Int):Nat:=if item<0 then 1 else 2
def ziy(L:List PCon)(cs:List Int)(R:List Int)(item:Int):Prop:=
 item∉R/\wtL L (z9y (L.map λc=>Wv c cs) item R)<=z9p item/\∀i∈z9y (L.map λc=>Wv c cs) item R,z7v (L.getD i.toNat dC) cs item
instance (L:List PCon) (cs:List Int) (R:List Int) (item:Int):Decidable (ziy L cs R item):=by unfold ziy;infer_instance
def ziw(n m:Nat):List Int:=(List.range n).map (λi:Nat=>(i:Int))++(List.range m).map (λi:Nat=>-1-(i:Int))
theorem Z48{n m:Nat}{x:Int}:x∈ziw n m↔(0<=x/\x<n)\/(x<0/\-1-x<m):=by
 unfold ziw
 rw[List.mem_append,List.mem_map,List.mem_map]
 constructor
 . rintro(⟨a,ha,rfl⟩ | ⟨a,ha,rfl⟩)
   . rw[List.mem_range]at ha;omega
   . rw[List.mem_range]at ha;omega
 . rintro(⟨h1,h2⟩ | ⟨h1,h2⟩)
   . exact .inl ⟨x.toNat,List.mem_range.2 (by omega),by omega⟩
   . exact .inr ⟨(-1-x).toNat,List.mem_range.2 (by omega),by omega⟩
theorem zxz{n m:Nat}:(ziw n m).length=n+m:=by simp[ziw]
def zbc(can:List Int->Int->Bool)(pref:List Int):Nat->List Int->List Int
 | 0,R=>R
 | f+1,R=>match pref.find? (can R)with
   | none=>R
   | some i=>zbc can pref f (R++[i])
def Zav(can:List Int->Int->Bool)(pref:List Int):List Int:=zbc can pref pref.length []
def Ve(pref R:List Int):List Int:=pref.filter λx=>decide (x∉R)
def zdt(L:List PCon)(cs:List Int)(R:List Int)(item:Int):Bool:=decide (ziy L cs R item)
theorem zsa{pref R:List Int}{i:Int}(hi:i∈pref)(hR:i∉R):(Ve pref (R++[i])).length<(Ve pref R).length:=by
 have e:Ve pref (R++[i])=(Ve pref R).filter λx=>decide (x≠i):=by
  unfold Ve
  rw[List.filter_filter]
  congr 1
  funext x
  simp only[List.mem_append,List.mem_singleton,not_or]
  by_cases h1:x∈R<;>by_cases h2:x=i<;>simp[h1,h2]
 rw[e]
 refine List.length_filter_lt_length_iff_exists.2 ⟨i,?_,by simp⟩
 unfold Ve
 exact List.mem_filter.2 ⟨hi,by simpa using hR⟩
def zsb(c:PCon):Prop:=c.pts.length=(shK c.kind).1/\c.cir.length=(shK c.kind).2.1/\1<=c.kind/\c.kind<=17/\(z4w c.kind->zbi c.pts)/\(¬z4w c.kind->c.pts.Nodup)
theorem VC.lenC{c:PCon}{n m:Int}(hv:VC c n m):zsb c:=by
 obtain⟨h1,h2,h3,h4,h5,h6,h7⟩:=hv
 refine⟨h2.1,h3.1,h1.1,h1.2,λh=>?_,λh=>?_⟩
 . rw[if_pos h]at h7;exact h7
 . rw[if_neg h]at h7;exact h7.1
section
variable {h : Hp} {x : TConstraint} {c : PCon} {cs : List Int} {ce : Sl} {t : Int} {Kb : Bool → Hp → Prop} {Ki : Int → Hp → Prop} {Ks : Sl → Hp → Prop}
def z4p(l:List Int)(t:Int):Nat->List Int
 | 0=>[]
 | k+1=>z4p l t k++(if l[k]?=some t then [(k:Int)]else [])
theorem zot(l:List Int)(t:Int):∀k,k<=l.length->(z4p l t k).length=cnt (l.take k) t
 | 0,_=>by simp[z4p,cnt]
 | k+1,hk=>by
   unfold z4p
   rw[List.length_append,zot l t k (by omega)]
   unfold cnt
   rw[<-List.take_append_getElem (show k<l.length by omega),List.filter_append,List.length_append]
   congr 1
   rw[List.getElem?_eq_getElem (by omega)]
   by_cases h:l[k]=t<;>simp[h]
theorem zv0(l:List Int)(t:Int):∀k,(z4p l t k).length<=k
 | 0=>by simp[z4p]
 | k+1=>by
   unfold z4p
   have:=zv0 l t k
   rw[List.length_append]
   split<;>simp<;>omega
theorem zk8{l:List Int}{t:Int}:∀{k:Nat} (hne:z4p l t k≠[]),∃i:Nat,(z4p l t k)[0]?=some (i:Int)/\l[i]?=some t/\∀j,j<i->l[j]?≠some t
 | 0,h=>absurd rfl h
 | k+1,h=>by
   unfold z4p at h |-
   by_cases h0:z4p l t k=[]
   . rw[h0,List.nil_append]at h |-
     split at h
     . rename_i h3
       rw[if_pos h3]
       refine⟨k,rfl,h3,λj hj hh=>?_⟩
       have:(j:Int)∈z4p l t k:=by
        have key:∀m,j<m->(j:Int)∈z4p l t m:=by
         intro m
         induction m with
         | zero=>intro hm;omega
         | succ m ih=>
           intro hm
           unfold z4p
           rcases Nat.lt_or_ge j m with h4 | h4
           . exact List.mem_append_left _ (ih h4)
           . have:j=m:=by omega
             subst this
             rw[if_pos hh];simp
        exact key k hj
       rw[h0]at this;cases this
     . exact absurd rfl h
   . obtain⟨i,h1,h2⟩:=zk8 h0
     refine⟨i,?_,h2⟩
     have:0<(z4p l t k).length:=List.length_pos_iff.2 h0
     rw[List.getElem?_append_left this];exact h1
theorem Z85{l:List Int}{t:Int}:cnt l t≠0↔t∈l:=by
 unfold cnt
 rw[<-Nat.pos_iff_ne_zero,List.length_pos_iff_exists_mem]
 constructor
 . rintro⟨a,ha⟩
   have:=List.mem_filter.1 ha
   rw[beq_iff_eq]at this
   rw[<-this.2];exact this.1
 . intro h
   exact⟨t,List.mem_filter.2 ⟨h,by simp⟩⟩
theorem zos(hx:CO h x c)(hs:sC c)(H:∀y h',h.le h'->IL h' y (z4p c.pts t c.pts.length)->Ks y h'):zc (F.z5b x t) Ks h:=by
 refine zd (λy h'=>IL h' y (z4p c.pts t c.pts.length)) (λK' hk=>?_) λb h' hl hb=>H b h' hl hb
 unfold F.z5b
 have hp:=hx.2.1
 have hl:=hp.len
 have s1:=hs.1
 refine Yq (n:=c.pts.length) (by omega) (λi y h'=>OI h h' y (z4p c.pts t i)) OI.nil ?_
 intro i y h1 hi ho k hk2
 refine ze (λh2=>?_) (λh2=>?_)
 . have hi':i<c.pts.length:=by simp only at h2;omega
   refine zk (λs h'=>OI h h' s.1 (z4p c.pts t (i+1))) (λs h' hs=>hk2 _ _ hi' hs) ?_
   refine(hp.le ho.dle).get i rfl hi' ?_
   have hle:=zv0 c.pts t i
   refine Za (λh3=>?_) (λh3=>?_)
   . refine ho.app (by omega) λz h4 ho4=>?_
     show OI _ _ _ _
     unfold z4p
     rw[List.getElem?_eq_getElem hi',h3,if_pos rfl];exact ho4
   . show OI _ _ _ _
     unfold z4p
     rw[List.getElem?_eq_getElem hi',if_neg (λhh=>h3 (Option.some.inj hh)),List.append_nil];exact ho
 . have:i=c.pts.length:=by simp only at h2;omega
   subst this
   exact hk _ _ ho.dle ho.il
theorem zky{K:Int->Prop}{i:Nat}(hx:CO h x c)(hc:IL h ce cs)(hok:zce c cs)(hi:i<c.cir.length)(H:K (cAt cs c i)):zg x.circles (i:Int) 1 λa5=>ldL (.int .i64) a5 (λx6=>zg ce x6 1 λa7=>ldL (.int .i64) a7 K h) h:=by
 refine hx.2.2.1.get i rfl hi ?_
 have hkk:=hok _ (List.getElem_mem hi)
 refine hc.get c.cir[i].toNat (by omega) (by omega) ?_
 unfold cAt at H
 rw[Q4 hi,Q4 (by omega)]at H
 exact H
theorem zvj(hx:CO h x c)(hc:IL h ce cs)(hs:sC c)(hok:zce c cs)(hv:zsb c)(H:∀h',h.le h'->Ki (zba c cs t) h'):zc (F.z8c x ce t) Ki h:=by
 refine zd (λr h'=>r=zba c cs t) (λK' hk=>?_) λb h' hl hb=>by subst hb;exact H h' hl
 unfold F.z8c
 obtain⟨v1,v2,v3,v4,v5,v6⟩:=hv
 have x1:=hx.1
 have s1:=hs.1
 refine z9q λp1 h1 hl1 c1=>Wo λp2 h2 hl2 c2=>Wo λp3 h3 hl3 c3=>?_
 have hle:h.le h3:=Hp.le_trans hl1 (Hp.le_trans hl2 hl3)
 have k1:CKC h3 p1 x:=λi v hv=>Hp.cell_le (Hp.le_trans hl2 hl3) (c1 i v hv)
 refine⟨_,k1 0 _ rfl,_,k1 1 _ rfl,_,k1 2 _ rfl,_,k1 3 _ rfl,_,k1 4 _ rfl,_,c3,?_⟩
 refine zos (x:=x) (hx.le hle) hs λr6 h4 hl4 hr6=>?_
 have hle4:=Hp.le_trans hle hl4
 have k4:CKC h4 p1 x:=λi v hv=>Hp.cell_le hl4 (k1 i v hv)
 have hr:=hr6.len
 have hpl:=zot c.pts t c.pts.length (Nat.le_refl _)
 rw[List.take_length]at hpl
 have hat:(z4p c.pts t c.pts.length).length≠0↔t∈c.pts:=by rw[hpl];exact Z85
 have cen:∀i h' (K:Bool->Hp->Prop),i<c.cir.length->h4.le h'->K (decide (cAt cs c i=t)) h'->zc (F.Vo (i:Int) (some p2) (some p1) (some p3)) K h':=by
  intro i h' K hi hl' hK
  refine Zk _ (λK'' hk''=>?_) hK
  unfold F.Vo
  have hl3':=Hp.le_trans hl4 hl'
  refine⟨_,Hp.cell_le (Hp.le_trans hl3 hl3') c2,_,Hp.cell_le hl' (k4 2 _ rfl),?_⟩
  refine zky (x:=x) (ce:=ce) (hx.le (Hp.le_trans hle4 hl')) (hc.le (Hp.le_trans hle4 hl')) hok hi ?_
  refine⟨_,Hp.cell_le hl3' c3,?_⟩
  have:(cAt cs c i==t)=decide (cAt cs c i=t):=by
   by_cases hh:cAt cs c i=t
   . rw[decide_eq_true hh,hh];simp
   . rw[decide_eq_false hh,beq_eq_false_iff_ne];exact hh
  show K'' (cAt cs c i==t) h'
  rw[this];exact hk''
 refine⟨_,k4 0 _ rfl,?_⟩
 rw[x1]
 have hk':∀r,r=zba c cs t->K' r h4:=λr hr=>hk _ _ hle4 hr
 unfold zba at hk'
 refine Za (λe13=>?_) (λe13=>?_)
 . refine cen 0 h4 _ (by rw[v2,e13];decide) (Hp.le_refl _) ?_
   rw[if_pos e13]at hk'
   have ha:decide ((r6.len:Int)>0)=decide (t∈c.pts):=decide_eq_decide.2 (by rw[<-hat];omega)
   rw[ha]
   refine zp (λh5=>hk' _ ?_) (λh5=>hk' _ ?_)
   . rw[if_neg]
     intro hh
     by_cases g:t∈c.pts
     . rw[decide_eq_true g,decide_eq_true (hh.1 g)]at h5;cases h5
     . rw[decide_eq_false g,decide_eq_false (λz=>g (hh.2 z))]at h5;cases h5
   . rw[if_pos]
     by_cases g:t∈c.pts
     . rw[decide_eq_true g]at h5
       exact⟨λ_=>by simpa using h5,λ_=>g⟩
     . rw[decide_eq_false g]at h5
       exact⟨λz=>absurd z g,λz=>by rw[decide_eq_true z]at h5;cases h5⟩
 rw[if_neg e13]at hk'
 refine Za (λe16=>?_) (λe16=>?_)
 . refine cen 0 h4 _ (by rw[v2,e16];decide) (Hp.le_refl _) ?_
   rw[if_pos e16]at hk'
   refine ze (λh5=>Za (λh6=>hk' _ ?_) (λh6=>hk' _ ?_)) (λh5=>hk' _ ?_)
   . rw[if_pos ⟨h5,λhh=>absurd (hat.2 hh) (by omega)⟩]
   . rw[if_neg (λhh=>hh.2 (hat.1 (by omega)))]
   . rw[if_neg (λhh=>h5 hh.1)]
 rw[if_neg e16]at hk'
 refine Za (λe17=>?_) (λe17=>?_)
 . refine cen 0 h4 _ (by rw[v2,e17];decide) (Hp.le_refl _) (cen 1 h4 _ (by rw[v2,e17];decide) (Hp.le_refl _) ?_)
   rw[if_pos e17]at hk'
   refine zp (λh5=>hk' _ ?_) (λh5=>hk' _ ?_)
   . rw[if_neg]
     intro hh
     have e:decide (cAt cs c 0=t)=decide (cAt cs c 1=t):=decide_eq_decide.2 hh
     rw[e]at h5
     simp at h5
   . rw[if_pos]
     have h6:decide (cAt cs c 0=t)=decide (cAt cs c 1=t):=by simpa using h5
     exact decide_eq_decide.1 h6
 rw[if_neg e17]at hk'
 refine Za (λe0=>?_) (λe0=>?_)
 . refine hk' _ ?_
   rw[if_pos (λhh=>absurd (hat.2 hh) (by omega))]
 have hin:t∈c.pts:=hat.1 (by omega)
 rw[if_neg (λhh=>hh hin)]at hk'
 have hne:z4p c.pts t c.pts.length≠[]:=λhh=>by rw[hh]at hr;simp at hr;omega
 obtain⟨i0,hi0,hi1,hi2⟩:=zk8 hne
 have hlen0:0<(z4p c.pts t c.pts.length).length:=List.length_pos_iff.2 hne
 have hget0:(z4p c.pts t c.pts.length)[0]=(i0:Int):=by rw[List.getElem?_eq_getElem hlen0]at hi0;exact Option.some.inj hi0
 refine⟨_,k4 0 _ rfl,?_⟩
 rw[x1]
 have dk:∀(n:Int),(c.kind==n)=decide (c.kind=n):=λn=>by
  by_cases hh:c.kind=n
  . rw[decide_eq_true hh,hh];simp
  . rw[decide_eq_false hh,beq_eq_false_iff_ne];exact hh
 refine zk (λs h'=>h'=h4/\s.1=decide (c.kind=1\/c.kind=9)) ?_ ?_
 . rintro⟨b,_⟩ h4 ⟨rfl,hb⟩
   simp only at hb
   subst hb
   refine ze (λe=>?_) (λe1=>?_)
   . rw[if_pos e]at hk';exact hk' _ rfl
   rw[if_neg e1]at hk'
   refine Za (λe=>?_) (λe2=>?_)
   . rw[if_pos e]at hk';exact hk' _ rfl
   rw[if_neg e2]at hk'
   refine zk (λs h'=>h'=h4/\s.1=decide (c.kind=3\/c.kind=6\/c.kind=11\/c.kind=12)) ?_ ?_
   . rintro⟨b,_⟩ h4 ⟨rfl,hb⟩
     simp only at hb
     subst hb
     refine ze (λe=>?_) (λe3=>?_)
     . rw[if_pos e]at hk';exact hk' _ rfl
     rw[if_neg e3]at hk'
     refine Za (λe=>?_) (λe4=>?_)
     . rw[if_pos e]at hk'
       refine hr6.get 0 rfl hlen0 ?_
       rw[hget0]
       refine Za (λh5=>hk' _ ?_) (λh5=>hk' _ ?_)
       . have:i0=0:=by omega
         subst this
         rw[if_pos hi1]
       . rw[if_neg (hi2 0 (by omega))]
     rw[if_neg e4]at hk'
     refine Za (λe=>?_) (λe5=>?_)
     . rw[if_pos e]at hk'
       refine hr6.get 0 rfl hlen0 ?_
       rw[hget0]
       refine ze (λh5=>hk' _ ?_) (λh5=>hk' _ ?_)
       . have h5:(i0:Int)<2:=h5
         rcases(by omega:i0=0\/i0=1)with rfl | rfl
         . rw[if_pos (.inl hi1)]
         . rw[if_pos (.inr hi1)]
       . have h5:¬(i0:Int)<2:=h5
         rw[if_neg]
         rintro(hh | hh)
         . exact hi2 0 (by omega) hh
         . exact hi2 1 (by omega) hh
     rw[if_neg e5]at hk'
     have hc2:((r6.len:Int)==2)=decide (cnt c.pts t=2):=by
      rw[hr,hpl]
      by_cases hh:cnt c.pts t=2
      . rw[decide_eq_true hh,hh];rfl
      . rw[decide_eq_false hh,beq_eq_false_iff_ne];omega
     rw[hc2]
     refine zk (λs h'=>h'=h4/\s.1=decide (c.kind=5\/c.kind=7)) ?_ ?_
     . rintro⟨b,_⟩ h4 ⟨rfl,hb⟩
       simp only at hb
       subst hb
       refine ze (λe=>?_) (λe6=>?_)
       . rw[if_pos e]at hk'
         exact ze (λh5=>hk' _ (by rw[if_pos h5])) (λh5=>hk' _ (by rw[if_neg h5]))
       rw[if_neg e6]at hk'
       refine Za (λe=>?_) (λe7=>?_)
       . rw[if_pos e]at hk'
         exact ze (λh5=>hk' _ (by rw[if_pos h5])) (λh5=>hk' _ (by rw[if_neg h5]))
       rw[if_neg e7]at hk'
       exact hk' _ rfl
     . rw[dk 5,dk 7]
       refine ze (λe=>⟨rfl,?_⟩) (λe=>⟨rfl,?_⟩)
       . rw[decide_eq_true e,decide_eq_true (Or.inl e)]
       . exact decide_eq_decide.2 (by omega)
   . rw[dk 3,dk 6,dk 11,dk 12]
     refine ze (λe=>⟨rfl,?_⟩) (λe=>ze (λe2=>⟨rfl,?_⟩) (λe2=>ze (λe3=>⟨rfl,?_⟩) (λe3=>⟨rfl,?_⟩)))
     all_goals exact decide_eq_decide.2 (by omega)
 . rw[dk 1,dk 9]
   refine ze (λe=>⟨rfl,?_⟩) (λe=>⟨rfl,?_⟩)
   all_goals exact decide_eq_decide.2 (by omega)
end
end Den
end

section
namespace Den
open Go Iv Lx
section
variable {h : Hp} {x : TConstraint} {c : PCon} {cs : List Int} {ce : Sl} {t k : Int} {Kb : Bool → Hp → Prop} {Ki : Int → Hp → Prop} {Ks : Sl → Hp → Prop}
theorem zye(hv:zsb c)(hm:k∈c.cir):c.kind=13\/c.kind=14\/c.kind=15\/c.kind=16\/c.kind=17:=by
 obtain⟨v1,v2,v3,v4,_⟩:=hv
 have h1:c.cir.length≠0:=λhh=>by rw[List.eq_nil_of_length_eq_zero hh]at hm;cases hm
 apply Classical.byContradiction
 intro hn
 have:(shK c.kind).2.1=0:=by
  rcases(by omega:c.kind=1\/c.kind=2\/c.kind=3\/c.kind=4\/c.kind=5\/c.kind=6\/c.kind=7\/c.kind=8\/c.kind=9\/c.kind=10\/c.kind=11\/c.kind=12)with e | e | e | e | e | e | e | e | e | e | e | e<;>rw[e]<;>rfl
 omega
theorem zqc(hx:CO h x c)(hc:IL h ce cs)(hs:sC c)(hok:zce c cs)(hv:zsb c)(H:∀b h',h.le h'->(b=true↔zc2 c cs k)->Kb b h'):zc (F.z6t x ce k) Kb h:=by
 refine zd (λb h'=>b=true↔zc2 c cs k) (λK' hk=>?_) λb h' hl hb=>H b h' hl hb
 unfold F.z6t
 have x1:=hx.1
 have x5:=hx.2.2.2.2
 refine zhc hx.2.2.1 (by have:=hs.2.1;omega) λr h1 hl1 hr=>?_
 have no:∀h',h.le h'->¬zc2 c cs k->K' false h':=λh' hl hn=>hk _ _ hl ⟨λhh=>(by cases hh),λhh=>absurd hh hn⟩
 refine ze (λh2=>no _ hl1 λhh=>?_) (λh2=>?_)
 . have:=hr.2 hh.1;omega
 have hm:=hr.1 (by omega)
 have hkd:=zye hv hm
 have hkk:=hok _ hm
 have dk:∀(n:Int),(c.kind==n)=decide (c.kind=n):=λn=>by
  by_cases hh:c.kind=n
  . rw[decide_eq_true hh,hh];simp
  . rw[decide_eq_false hh,beq_eq_false_iff_ne];exact hh
 rw[x1,x5]
 unfold zc2 at hk no
 refine zk (λs h'=>h'=h1/\s.1=decide (c.kind=14\/c.kind=15)) ?_ ?_
 . rintro⟨b,_⟩ h1 ⟨rfl,hb⟩
   simp only at hb
   subst hb
   refine ze (λe=>hk _ _ hl1 ⟨λ_=>⟨hm,?_⟩,λ_=>rfl⟩) (λe1=>?_)
   . rw[if_neg (by omega),if_neg (by omega)];trivial
   refine zk (λs h'=>h'=h1/\s.1=decide (c.kind=13\/c.kind=16)) ?_ ?_
   . rintro⟨b,_⟩ h1 ⟨rfl,hb⟩
     simp only at hb
     subst hb
     refine ze (λe=>?_) (λe2=>?_)
     . rw[if_pos e]at hk no
       refine(hc.le hl1).get k.toNat (by omega) (by omega) ?_
       refine Wt (hx.2.1.le hl1) (by have:=hs.1;omega) λh3 hl3=>hk _ _ (Hp.le_trans hl1 hl3) ?_
       rw[Q4 (show k.toNat<cs.length by omega)]
       by_cases g:cs[k.toNat]∈c.pts
       . rw[decide_eq_true g]
         exact⟨λhh=>(by cases hh),λhh=>absurd g hh.2⟩
       . rw[decide_eq_false g]
         exact⟨λ_=>⟨hm,g⟩,λ_=>rfl⟩
     . rw[if_neg e2]at hk no
       refine Za (λe17=>?_) (λe17=>by omega)
       rw[if_pos e17]at hk no
       refine Za (λe5=>?_) (λe5=>no _ hl1 λhh=>e5 hh.2.1)
       refine zky (i:=0) (hx.le hl1) (hc.le hl1) hok (by rw[hv.2.1,e17];decide) ?_
       refine zky (i:=1) (hx.le hl1) (hc.le hl1) hok (by rw[hv.2.1,e17];decide) ?_
       refine hk _ _ hl1 ?_
       rw[bne_iff_ne]
       exact⟨λhh=>⟨hm,e5,hh⟩,λhh=>hh.2.2⟩
   . rw[dk 13,dk 16]
     refine ze (λe=>⟨rfl,?_⟩) (λe=>⟨rfl,?_⟩)
     all_goals exact decide_eq_decide.2 (by omega)
 . rw[dk 14,dk 15]
   refine ze (λe=>⟨rfl,?_⟩) (λe=>⟨rfl,?_⟩)
   all_goals exact decide_eq_decide.2 (by omega)
end
end Den
end
