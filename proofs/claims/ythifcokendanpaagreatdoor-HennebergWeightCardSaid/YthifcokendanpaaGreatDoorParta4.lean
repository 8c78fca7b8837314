/-
  Part 4 of the tools and contracts from which the statement is proved.
-/
import Derived.Test.YthifcokendanpaaGreatDoorParta3
set_option linter.all false
section
namespace Den
open Go Iv
def Ok (n:Int):Prop:=(dg n.natAbs).length≤8796093022208
def Lt (k:Nat) (n:Int):Prop:=n.natAbs<W ^ k
theorem Lt.ok {k:Nat} {n:Int} (h:Lt k n) (hk:k≤8796093022208):Ok n:=Nat.le_trans (zb9.2 h) hk
theorem Lt.mono {k j:Nat} {n:Int} (h:Lt k n) (hk:k≤j):Lt j n:=Nat.lt_of_lt_of_le h (Nat.pow_le_pow_right W_pos hk)
theorem Lt.mul {k j:Nat} {m n:Int} (h:Lt k m) (h2:Lt j n):Lt (k+j) (m*n):=by
 unfold Lt at *
 rw [Int.natAbs_mul,Nat.pow_add]
 exact Nat.mul_lt_mul'' h h2
theorem Lt.le {k:Nat} {m n:Int} (h:Lt k m) (h2:n.natAbs≤m.natAbs):Lt k n:=Nat.lt_of_le_of_lt h2 h
theorem NI.len {h:Hp} {x:TInt} {n:Int} (hx:NI h x n):x.mag.len=(dg n.natAbs).length:=hx.1.len
theorem NI.len0 {h:Hp} {x:TInt} {n:Int} (hx:NI h x n):((x.mag.len:Int)==0)=decide (n=0):=by
 rw [hx.len]
 by_cases h0:n=0
 · subst h0; simp [zbz]
 · have:(dg n.natAbs).length≠0:=fun hh=>h0 (by have:=zef.1 (List.length_eq_zero_iff.1 hh); omega)
   rw [decide_eq_false h0]
   have h2:((dg n.natAbs).length:Int)≠0:=by omega
   simpa using fun hh=>h0 (by have:=zef.1 hh; omega)
theorem zsa {n:Int}:(dg n.natAbs).length=0↔n=0:=by
 rw [List.length_eq_zero_iff,zef]; omega
section
variable {h : Hp} {x y : Sl} {l : List Nat} {m n : Int} {a b : TInt} {Ks : Sl → Hp → Prop} {Ki : Int → Hp → Prop} {Kb : Bool → Hp → Prop} {KI : TInt → Hp → Prop} {KP : (TInt × TInt × Int) → Hp → Prop}
theorem zur (n:Nat):trimL (dg n)=dg n:=by rw [zc6 (ok_dg n),vl_dg]
theorem zpv {n:Nat} (hr:RdW h x (dg n)) (hl:(dg n).length≤35184372088800) (H:∀y,RdW h y (dg n)→Ks y h):callP (F.zaf x) Ks h:=
 zg1 hr (by omega) fun y hy=>H y (by rw [zur] at hy; exact hy)
theorem za0z {n:Nat} (hr:RdW h x (dg n)) (hl:(dg n).length≤35184372088800) (H:∀y,RdW h y (dg n)→Ks y h):callP (F.zbc x) Ks h:=
 zdl hr (by omega) fun y hy=>H y (by rw [zur] at hy; exact hy)
theorem zoh (ha:NI h a m) (om:(dg m.natAbs).length≤35184372087808) (H:∀y,RdW h y (dg m.natAbs)→Ks y h):callP (F.zaf a.mag) Ks h:=
 zpv ha.1 (Nat.le_trans om (by decide)) H
theorem zqu (ha:NI h a m) (om:(dg m.natAbs).length≤35184372087808) (H:∀y,RdW h y (dg m.natAbs)→Ks y h):callP (F.zbc a.mag) Ks h:=
 za0z ha.1 (Nat.le_trans om (by decide)) H
theorem zh2 (ha:NI h a m) (om:Ok m) (H:∀y,RdW h y (dg m.natAbs)→Ks y h):callP (F.zaf a.mag) Ks h:=
 zpv ha.1 (Nat.le_trans om (by decide)) H
theorem zig {neg:Bool} {k:Nat} (hr:RdW h x (dg k)) (hl:(dg k).length≤35184372088800) (H:∀y,NI h y (sg neg k)→KI y h):callP (F.zc4 neg x) KI h:=
 zog hr (ok_dg k) (by omega) fun y hy=>H y (by rw [vl_dg] at hy; exact hy)
theorem zcv {neg:Bool} {k:Nat} (hr:RdW h x (dg k)) (hl:(dg k).length≤35184372088800) (H:∀y,NI h y (sg neg k)→KI y h):callP (F.zby neg x) KI h:=
 zyu hr (ok_dg k) (by omega) fun y hy=>H y (by rw [vl_dg] at hy; exact hy)
theorem sg_of (n:Int):sg (decide (n<0)) n.natAbs=n:=by
 unfold sg
 by_cases h:n<0
 · rw [if_pos (by simpa using h)]; omega
 · rw [if_neg (by simpa using h)]; omega
theorem za84 (n:Int):sg (!decide (n<0)) n.natAbs=-n:=by
 unfold sg
 by_cases h:n<0
 · rw [if_neg (by simpa using h)]; omega
 · rw [if_pos (by simpa using h)]; omega
theorem u64neg {n:Int} (h:n<0) (h2:-9223372036854775808≤n):IntKind.u64.wrap (0-IntKind.u64.wrap n)=((n.natAbs:Nat):Int):=by
 simp only [wu64e]; omega
theorem u64pos {n:Int} (h:¬n<0) (h2:n≤9223372036854775807):IntKind.u64.wrap n=((n.natAbs:Nat):Int):=by
 simp only [wu64e]; omega
theorem dg2 {n:Nat} (h:n<18446744073709551616):(dg n).length≤2:=by
 have h2:W ^ 2=18446744073709551616:=by decide
 exact zb9.2 (by rw [h2]; exact h)
theorem zmw (h1:-9223372036854775808≤n) (h2:n≤9223372036854775807) (H:∀y h',h.le h'→NI h' y n→KI y h'):callP (F.zen n) KI h:=by
 refine za1 _ (fun K' hk=>?_) H
 unfold F.zen
 refine za3 (fun s h'=>h'=h∧s=(((n.natAbs:Nat):Int),())) ?_ ?_
 · rintro _ h' ⟨rfl,rfl⟩
   refine zh5 rfl (by omega) fun y h1 hl hy=>?_
   have:=dg2 (n:=n.natAbs) (by omega)
   refine zig hy (by omega) fun z hz=>hk _ _ hl ?_
   rw [sg_of] at hz; exact hz
 · refine za0 (fun h3=>⟨rfl,?_⟩) (fun h3=>⟨rfl,?_⟩)
   · rw [u64neg h3 h1]
   · rw [u64pos h3 h2]
theorem zja (h1:-9223372036854775808≤n) (h2:n≤9223372036854775807) (H:∀y h',h.le h'→NI h' y n→KI y h'):callP (F.zey n) KI h:=by
 refine za1 _ (fun K' hk=>?_) H
 unfold F.zey
 have h5:=dg2 (n:=n.natAbs) (by omega)
 refine za0 (fun h3=>?_) (fun h3=>?_)
 · rw [u64neg h3 h1]
   refine zkk rfl (by omega) fun y h1 hl hy=>?_
   refine zcv hy (by omega) fun z hz=>hk _ _ hl ?_
   have:sg true n.natAbs=n:=by unfold sg; simp; omega
   rw [this] at hz; exact hz
 · rw [u64pos h3 h2]
   refine zkk rfl (by omega) fun y h1 hl hy=>?_
   refine zcv hy (by omega) fun z hz=>hk _ _ hl ?_
   have:sg false n.natAbs=n:=by unfold sg; simp; omega
   rw [this] at hz; exact hz
theorem zp7 (ha:NI h a m) (om:(dg m.natAbs).length≤35184372087808) (H:Ki m.sign h):callP (F.zeh a) Ki h:=by
 refine zae _ (fun K' hk=>?_) H
 unfold F.zeh
 refine zoh ha om fun y hy=>?_
 have hl:=hy.len
 refine za7 (fun h1=>?_) (fun h1=>?_)
 · have:m=0:=zsa.1 (by omega)
   subst this; exact hk
 · have:m≠0:=fun h0=>h1 (by subst h0; rw [hl]; simp [zbz])
   rw [ha.2]
   refine za0 (fun h2=>?_) (fun h2=>?_)
   · rw [Int.sign_eq_neg_one_of_neg h2] at hk; exact hk
   · rw [Int.sign_eq_one_of_pos (by omega)] at hk; exact hk
theorem zo7 (ha:NI h a m) (om:(dg m.natAbs).length≤35184372087808) (H:∀y,NI h y m→KI y h):callP (F.zd3 a) KI h:=by
 refine znl _ (fun K' hk=>?_) H
 unfold F.zd3
 refine zcv ha.1 (Nat.le_trans om (by decide)) fun y hy=>hk y ?_
 rw [ha.2,sg_of] at hy; exact hy
theorem zo8 (ha:NI h a m) (om:(dg m.natAbs).length≤35184372087808) (H:Ki m.sign h):callP (F.zfy a) Ki h:=by
 refine zae _ (fun K' hk=>?_) H
 unfold F.zfy
 refine zo7 ha om fun y hy=>?_
 have hl:=hy.len
 refine za7 (fun h1=>?_) (fun h1=>?_)
 · have:m=0:=zsa.1 (by omega)
   subst this; exact hk
 · have:m≠0:=fun h0=>h1 (by subst h0; rw [hl]; simp [zbz])
   rw [hy.2]
   refine za0 (fun h2=>?_) (fun h2=>?_)
   · rw [Int.sign_eq_neg_one_of_neg h2] at hk; exact hk
   · rw [Int.sign_eq_one_of_pos (by omega)] at hk; exact hk
theorem zq7 (ha:NI h a m) (om:Ok m) (H:Ki m.sign h):callP (F.zeh a) Ki h:=zp7 ha (Nat.le_trans om (by decide)) H
theorem ziq (ha:NI h a m) (om:Ok m) (H:∀y,NI h y m→KI y h):callP (F.zd3 a) KI h:=zo7 ha (Nat.le_trans om (by decide)) H
theorem zpr (ha:NI h a m) (om:Ok m) (H:Ki m.sign h):callP (F.zfy a) Ki h:=zo8 ha (Nat.le_trans om (by decide)) H
theorem za9s (ha:NI h a m) (om:Ok m) (H:∀y h',h.le h'→NI h' y (-m)→KI y h'):callP (F.zl9 a) KI h:=by
 refine za1 _ (fun K' hk=>?_) H
 unfold F.zl9
 refine zh2 ha om fun y hy=>zpd hy (Nat.le_trans om (by decide)) fun z h1 hl hz=>zig hz (Nat.le_trans om (by decide)) fun w hw=>hk _ _ hl ?_
 rw [ha.2,za84] at hw; exact hw
theorem za7y (ha:NI h a m) (om:Ok m) (H:∀y,NI h y (-m)→KI y h):callP (F.znw a) KI h:=by
 refine znl _ (fun K' hk=>?_) H
 unfold F.znw
 refine zcv ha.1 (Nat.le_trans om (by decide)) fun y hy=>hk y ?_
 rw [ha.2,za84] at hy; exact hy
theorem za83 (m n:Int):sg (!(decide (m<0)==decide (n<0))) (m.natAbs*n.natAbs)=m*n:=by
 unfold sg
 rw [←Int.natAbs_mul]
 by_cases h1:m<0<;>by_cases h2:n<0<;>simp [h1,h2]
 · have:=Int.mul_pos_of_neg_of_neg h1 h2
   omega
 · have:=Int.mul_nonpos_of_nonpos_of_nonneg (a:=m) (b:=n) (by omega) (by omega)
   omega
 · have:=Int.mul_nonpos_of_nonneg_of_nonpos (a:=m) (b:=n) (by omega) (by omega)
   omega
 · have:=Int.mul_nonneg (a:=m) (b:=n) (by omega) (by omega)
   omega
theorem zabs {m n k:Nat} (om:(dg m).length≤k) (on:(dg n).length≤k):(dg (m*n)).length≤k+k:=by
 refine zb9.2 ?_
 rw [Nat.pow_add]
 exact Nat.mul_lt_mul'' (zb9.1 om) (zb9.1 on)
theorem za7l {m n:Int} (om:Ok m) (on:Ok n):(dg (m.natAbs*n.natAbs)).length≤35184372088800:=
 Nat.le_trans (zabs om on) (by decide)
theorem zs1 (ha:NI h a m) (hb:NI h b n) (om:Ok m) (on:Ok n) (H:∀y h',h.le h'→NI h' y (m*n)→KI y h'):callP (F.zhf a b) KI h:=by
 refine za1 _ (fun K' hk=>?_) H
 unfold F.zhf
 have om':(dg m.natAbs).length≤8796093022208:=om
 have on':(dg n.natAbs).length≤8796093022208:=on
 refine zh2 ha om fun y hy=>zh2 hb on fun z hz=>za3s hy hz (ok_dg _) (ok_dg _) (by omega) fun w h1 hl hw=>?_
 rw [vl_dg,vl_dg] at hw
 refine zig hw (za7l om on) fun w2 hw2=>hk _ _ hl ?_
 rw [ha.2,hb.2,za83] at hw2; exact hw2
theorem znt (ha:NI h a m) (hb:NI h b n) (om:Ok m) (on:Ok n) (H:∀y h',h.le h'→NI h' y (m*n)→KI y h'):callP (F.zi9 a b) KI h:=by
 refine za1 _ (fun K' hk=>?_) H
 unfold F.zi9
 have om':(dg m.natAbs).length≤8796093022208:=om
 have on':(dg n.natAbs).length≤8796093022208:=on
 refine ziq ha om fun y hy=>ziq hb on fun z hz=>za0y hy.1 hz.1 (ok_dg _) (ok_dg _) (by omega) fun w h1 hl hw=>?_
 rw [vl_dg,vl_dg] at hw
 refine zcv hw (za7l om on) fun w2 hw2=>hk _ _ hl ?_
 rw [hy.2,hz.2,za83] at hw2; exact hw2
theorem zdx {m n:Nat} (h:m≤n):(dg m).length≤(dg n).length:=zb9.2 (Nat.lt_of_le_of_lt h (zb9.1 (Nat.le_refl _)))
theorem zabc {m n k:Nat} (om:(dg m).length≤k) (on:(dg n).length≤k):(dg (m+n)).length≤k+1:=by
 refine zb9.2 ?_
 have h1:=zb9.1 om
 have h2:=zb9.1 on
 rw [Nat.pow_succ]
 have:W ^ k*2≤W ^ k*W:=Nat.mul_le_mul_left _ (by decide)
 omega
theorem zach {m n:Nat} (om:(dg m).length≤8796093022208) (on:(dg n).length≤8796093022208):(dg (m+n)).length≤35184372088800:=
 Nat.le_trans (zabc om on) (by decide)
theorem zac5 {m n:Int} (h:decide (m<0)=decide (n<0)):sg (decide (m<0)) (m.natAbs+n.natAbs)=m+n:=by
 unfold sg
 by_cases h1:m<0<;>by_cases h2:n<0<;>simp [h1,h2] at h ⊢<;>omega
theorem za22 {m n:Int} (h:decide (m<0)≠decide (n<0)) (hle:n.natAbs≤m.natAbs):sg (decide (m<0)) (m.natAbs-n.natAbs)=m+n:=by
 unfold sg
 by_cases h1:m<0<;>by_cases h2:n<0<;>simp [h1,h2] at h ⊢<;>omega
theorem zz0 {m n:Nat} (om:(dg m).length≤8796093022208):(dg (m-n)).length≤35184372088800:=by
 have:=zdx (Nat.sub_le m n); omega
theorem zvj (ha:NI h a m) (hb:NI h b n) (om:Ok m) (on:Ok n) (H:∀y h',h.le h'→NI h' y (m+n)→KI y h'):callP (F.zlw a b) KI h:=by
 refine za1 _ (fun K' hk=>?_) H
 unfold F.zlw
 have om':(dg m.natAbs).length≤8796093022208:=om
 have on':(dg n.natAbs).length≤8796093022208:=on
 refine ziq ha om fun y hy=>ziq hb on fun z hz=>?_
 rw [hy.2,hz.2]
 refine za2 (fun h1=>?_) (fun h1=>?_)
 · have h1':decide (m<0)=decide (n<0):=by simpa using h1
   refine za3h hy.1 hz.1 (ok_dg _) (ok_dg _) (by omega) (by omega) fun w h1 hl hw=>?_
   rw [vl_dg,vl_dg] at hw
   refine zcv hw (zach om' on') fun w2 hw2=>hk _ _ hl ?_
   rw [zac5 h1'] at hw2; exact hw2
 · have h1':decide (m<0)≠decide (n<0):=by simpa using h1
   refine zjb hy.1 hz.1 (by omega) (by omega) ?_
   unfold cmpN
   by_cases h2:m.natAbs<n.natAbs
   · rw [if_pos h2]
     refine zah rfl ?_
     refine zrw hz.1 hy.1 (ok_dg _) (ok_dg _) (by omega) (zdx (by omega)) (by rw [vl_dg,vl_dg]; omega) fun w h1 hl hw=>?_
     rw [vl_dg,vl_dg] at hw
     refine zcv hw (zz0 on') fun w2 hw2=>hk _ _ hl ?_
     rw [za22 (fun e=>h1' e.symm) (by omega),Int.add_comm] at hw2; exact hw2
   · rw [if_neg h2]
     refine zbt (by split<;>rfl) ?_
     refine zrw hy.1 hz.1 (ok_dg _) (ok_dg _) (by omega) (zdx (by omega)) (by rw [vl_dg,vl_dg]; omega) fun w h1 hl hw=>?_
     rw [vl_dg,vl_dg] at hw
     refine zcv hw (zz0 om') fun w2 hw2=>hk _ _ hl ?_
     rw [za22 h1' (by omega)] at hw2; exact hw2
theorem Ok.neg {n:Int} (h:Ok n):Ok (-n):=by unfold Ok at *; rw [Int.natAbs_neg]; exact h
theorem zvl (ha:NI h a m) (hb:NI h b n) (om:Ok m) (on:Ok n) (H:∀y h',h.le h'→NI h' y (m-n)→KI y h'):callP (F.zlx a b) KI h:=by
 refine za1 _ (fun K' hk=>?_) H
 unfold F.zlx
 refine za7y hb on fun y hy=>zvj ha hy om on.neg fun z h1 hl hz=>hk _ _ hl ?_
 rw [←Int.sub_eq_add_neg] at hz; exact hz
theorem zaat {m n:Int} (h:m.sign=n.sign):m.sign*cmpN m.natAbs n.natAbs=(m-n).sign:=by
 unfold cmpN
 rcases Int.lt_trichotomy m 0 with h1 | h1 | h1
 · have h2:n<0:=Int.sign_eq_neg_one_iff_neg.1 (by rw [←h]; exact Int.sign_eq_neg_one_of_neg h1)
   rw [Int.sign_eq_neg_one_of_neg h1]
   split
   · rw [Int.sign_eq_one_of_pos (by omega)]; rfl
   · split
     · rw [Int.sign_eq_neg_one_of_neg (by omega)]; rfl
     · have:m=n:=by omega
       subst this; simp
 · subst h1
   have h2:n=0:=by rw [Int.sign_zero] at h; exact Int.sign_eq_zero_iff_zero.1 h.symm
   subst h2; rfl
 · have h2:0<n:=Int.sign_eq_one_iff_pos.1 (by rw [←h]; exact Int.sign_eq_one_of_pos h1)
   rw [Int.sign_eq_one_of_pos h1]
   split
   · rw [Int.sign_eq_neg_one_of_neg (by omega)]; rfl
   · split
     · rw [Int.sign_eq_one_of_pos (by omega)]; rfl
     · have:m=n:=by omega
       subst this; simp
theorem zd5 (n:Int):n.sign=-1∧n<0∨n.sign=0∧n=0∨n.sign=1∧0<n:=by
 rcases Int.lt_trichotomy n 0 with h1 | h1 | h1
 · exact .inl ⟨Int.sign_eq_neg_one_of_neg h1,h1⟩
 · subst h1; exact .inr (.inl ⟨rfl,rfl⟩)
 · exact .inr (.inr ⟨Int.sign_eq_one_of_pos h1,h1⟩)
theorem zac6 {m n:Int} (h:m.sign≠n.sign):(if m.sign<n.sign then (-1:Int) else if n.sign<m.sign then 1 else 0)=(m-n).sign:=by
 have hm:=zd5 m
 have hn:=zd5 n
 have hd:=zd5 (m-n)
 split
 · omega
 · split<;>omega
theorem za9q (ha:NI h a m) (hb:NI h b n) (om:Ok m) (on:Ok n) (H:Ki (m-n).sign h):callP (F.zl8 a b) Ki h:=by
 refine zae _ (fun K' hk=>?_) H
 unfold F.zl8
 have om':(dg m.natAbs).length≤8796093022208:=om
 have on':(dg n.natAbs).length≤8796093022208:=on
 refine zq7 ha om (zq7 hb on ?_)
 refine zax (fun h1=>?_) (fun h1=>?_)
 · refine zrl ?_
   rw [zac6 h1]; exact hk
 · refine zh2 ha om fun y hy=>zh2 hb on fun z hz=>zq9 hy hz (by omega) (by omega) ?_
   rw [zaat h1]
   have:=zd5 (m-n)
   rw [w64 (by omega)]; exact hk
end
end Den
end

section
namespace Den
open Go Iv
theorem tdivn (a b:Nat):((a:Int)).tdiv (b:Int)=((a/b:Nat):Int):=(Int.ofNat_tdiv a b).symm
theorem tmodn (a b:Nat):((a:Int)).tmod (b:Int)=((a % b:Nat):Int):=(Int.ofNat_tmod a b).symm
theorem u32lt {n:Nat} (h:n<W):IntKind.u32.wrap (n:Int)=(n:Int):=by rw [u32n,Nat.mod_eq_of_lt h]
theorem u64W {n:Nat} (h:n<W):IntKind.u64.wrap (n:Int)=(n:Int):=u64n (by unfold W at h; omega)
theorem or32k {x y:Nat} (hx:x<W) (hy:y<W):ibits .or .u32 (x:Int) (y:Int)=((x ||| y:Nat):Int):=by
 unfold ibits
 simp only [IntKind.bits]
 have h1:(BitVec.ofInt 32 (x:Int) ||| BitVec.ofInt 32 (y:Int)).toNat=x ||| y:=by
  unfold W at *
  rw [BitVec.ofInt_natCast,BitVec.ofInt_natCast,BitVec.toNat_or,BitVec.toNat_ofNat,BitVec.toNat_ofNat,Nat.mod_eq_of_lt (by omega),Nat.mod_eq_of_lt (by omega)]
 have h2:x ||| y<W:=Nat.or_lt_two_pow (n:=32) hx hy
 exact (congrArg (fun z:Nat=>IntKind.u32.wrap (z:Int)) h1).trans (u32lt h2)
theorem or64k {x y:Nat} (hx:x<18446744073709551616) (hy:y<18446744073709551616):ibits .or .u64 (x:Int) (y:Int)=((x ||| y:Nat):Int):=by
 unfold ibits
 simp only [IntKind.bits]
 have h1:(BitVec.ofInt 64 (x:Int) ||| BitVec.ofInt 64 (y:Int)).toNat=x ||| y:=by
  rw [BitVec.ofInt_natCast,BitVec.ofInt_natCast,BitVec.toNat_or,BitVec.toNat_ofNat,BitVec.toNat_ofNat,Nat.mod_eq_of_lt (by omega),Nat.mod_eq_of_lt (by omega)]
 have h2:x ||| y<18446744073709551616:=Nat.or_lt_two_pow (n:=64) hx hy
 exact (congrArg (fun z:Nat=>IntKind.u64.wrap (z:Int)) h1).trans (u64n h2)
def bl (n:Nat):Nat:=if n=0 then 0 else n.log2+1
theorem bl_lt (n:Nat):n<2 ^ bl n:=by
 unfold bl
 split
 · rename_i h; subst h; decide
 · exact Nat.lt_log2_self
theorem bl_le {n:Nat} (h:n≠0):2 ^ (bl n-1)≤n:=by
 unfold bl
 rw [if_neg h]
 exact Nat.log2_self_le h
theorem za44 {n:Nat} (h:n≠0):0<bl n:=by unfold bl; rw [if_neg h]; omega
theorem zabf {n b:Nat} (h1:2 ^ b≤n) (h2:n<2 ^ (b+1)):bl n=b+1:=by
 have h0:n≠0:=by have:=Nat.two_pow_pos b; omega
 unfold bl
 rw [if_neg h0]
 have h3:=(Nat.le_log2 h0 (k:=b)).2 h1
 have h4:=(Nat.log2_lt h0 (k:=b+1)).2 h2
 omega
theorem zabg:bl 0=0:=rfl
theorem zs2 {n k:Nat} (h:n<2 ^ k):bl n≤k:=by
 unfold bl
 split
 · omega
 · rename_i h0
   have:=(Nat.log2_lt h0 (k:=k)).2 h
   omega
theorem zs3 {n k:Nat} (h:2 ^ k≤n):bl n=bl (n/2 ^ k)+k:=by
 have h0:n/2 ^ k≠0:=by
  have:=Nat.div_pos h (Nat.two_pow_pos k); omega
 have h1:=bl_le h0
 have h2:=bl_lt (n/2 ^ k)
 have h3:=za44 h0
 obtain ⟨b,hb⟩:∃b,bl (n/2 ^ k)=b+1:=⟨bl (n/2 ^ k)-1,by omega⟩
 rw [hb] at h1 h2 ⊢
 simp only [Nat.add_sub_cancel] at h1
 rw [Nat.le_div_iff_mul_le (Nat.two_pow_pos k),←Nat.pow_add] at h1
 rw [Nat.div_lt_iff_lt_mul (Nat.two_pow_pos k),←Nat.pow_add] at h2
 rw [zabf (b:=b+k) h1 (by rw [show b+k+1=b+1+k by omega]; exact h2)]
 omega
theorem zabe {n:Nat} (h:n≠0):bl n=bl (n/2)+1:=by
 by_cases h1:n=1
 · subst h1; decide
 · have:=zs3 (n:=n) (k:=1) (by simp; omega)
   simpa using this
section
variable {h : Hp} {x y : Sl} {l m : List Nat} {b : Nat} {Ks : Sl → Hp → Prop} {Ki : Int → Hp → Prop} {Kb : Bool → Hp → Prop} {KI : TInt → Hp → Prop} {Kp : (Sl × Sl) → Hp → Prop} {Kq : (Sl × Int) → Hp → Prop}
theorem zvs {r l:List Nat} {b rem j:Nat} (hj:j<l.length) (hrl:r.length=l.length) (hv:vl (l.drop (j+1))=b*vl (r.drop (j+1))+rem) :
 vl (l.drop j)=b*vl ((r.set j ((rem*W+l[j])/b)).drop j)+(rem*W+l[j]) % b:=by
 rw [List.drop_eq_getElem_cons (l:=l) hj,List.drop_eq_getElem_cons (l:=r.set j ((rem*W+l[j])/b)) (by simpa [hrl] using hj),List.getElem_set_self]
 simp only [vl]
 rw [List.drop_set_of_lt (by omega),hv]
 have e:=Nat.div_add_mod (rem*W+l[j]) b
 rw [Nat.mul_add,Nat.mul_add,Nat.mul_comm rem W] at *
 have:W*(b*vl (r.drop (j+1)))=b*(W*vl (r.drop (j+1))):=by rw [←Nat.mul_assoc,Nat.mul_comm W b,Nat.mul_assoc]
 omega
theorem zus {b rem w:Nat} (hr:rem<b) (hw:w<W):(rem*W+w)/b<W:=by
 rw [Nat.div_lt_iff_lt_mul (by omega)]
 have:(rem+1)*W≤b*W:=Nat.mul_le_mul_right _ hr
 rw [Nat.add_mul] at this
 rw [Nat.mul_comm W b]; omega
theorem zvr {b rem w:Nat} (hr:rem<b) (hb:b<W) (hw:w<W) :
 IntKind.u32.wrap (IntKind.u64.wrap ((ibits .or .u64 (IntKind.u64.wrap ((rem:Int)*2 ^ (min (32:Int).toNat IntKind.u64.bits))) (IntKind.u64.wrap (w:Int))).tdiv (IntKind.u64.wrap (b:Int))))=(((rem*W+w)/b:Nat):Int):=by
 have h1:=zus hr hw
 rw [or32 (by omega) hw,u64W hb,tdivn,u64W h1,u32lt h1]
theorem za1a {x:Sl} {l:List Nat} {b:Nat} {m1:Sl} {h h1:Hp} {Kf:Int→Hp→Prop} (hx:RdW h x l) (ol:okW l) (hb:0<b) (hbW:b<W) (hl:l.length≤35184372088800)
 (ho:OwnW h h1 m1 (List.replicate l.length 0)) (H:∀h' r,OwnW h h' m1 r→okW r→r.length=l.length→vl r=vl l/b→Kf ((vl l % b:Nat):Int) h') :
 (loopP (S:=Int×Int×Unit) (fun s2 k3 h2=>
   (ifP (decide (s2.2.1≥0))
   (0≤(32:Int) ∧
   (idxP x s2.2.1 1 fun a4=>
   (ldL (.int .u32) a4 (fun x5=>
   (((IntKind.u64.wrap ((b:Nat):Int)):Int)≠0 ∧
   (idxP m1 s2.2.1 1 fun a6=>
   (stP a6 [.int .u32 (IntKind.u32.wrap ((IntKind.u64.wrap (((ibits .or .u64 (IntKind.u64.wrap (s2.1*2 ^ (min (32:Int).toNat IntKind.u64.bits))) (IntKind.u64.wrap (x5))):Int).tdiv (IntKind.u64.wrap ((b:Nat):Int))))))] (fun h3=>
   (((IntKind.u64.wrap ((b:Nat):Int)):Int)≠0 ∧
   (k3 (((ibits .or .u64 (IntKind.u64.wrap (s2.1*2 ^ (min (32:Int).toNat IntKind.u64.bits))) (IntKind.u64.wrap (x5))):Int).tmod (IntKind.u64.wrap ((b:Nat):Int)),(IntKind.i64.wrap (s2.2.1-1)),()) h3))) h2)))) h2)))
   (Kf s2.1 h2)))
   (0,(IntKind.i64.wrap ((x.len:Int)-1)),()) h1):=by
 have lx:=hx.len
 refine zal (fun st h'=>∃(k rem:Nat) (r:List Nat),st=((rem:Int),(k:Int)-1,())∧k≤l.length∧rem<b∧OwnW h h' m1 r∧okW r∧r.length=l.length∧vl (l.drop k)=b*vl (r.drop k)+rem)
  (fun st=>(st.2.1+1).toNat) ⟨l.length,0,_,by rw [lx,w64 (by omega)]; rfl,Nat.le_refl _,hb,ho,zi4 _,by simp,by rw [List.drop_eq_nil_of_le (Nat.le_refl _),List.drop_eq_nil_of_le (by simp)]; rfl⟩ ?_
 rintro st h2 ⟨k,rem,r,rfl,hk,hrem,ho2,okr,hrl,hv⟩
 refine za0 (fun h3=>?_) (fun h3=>?_)
 · obtain ⟨j,rfl⟩:∃j,k=j+1:=⟨k-1,by have:(k:Int)-1≥0:=h3; omega⟩
   have hj:j<l.length:=by omega
   have hw:=zc1 ol hj
   have hne:IntKind.u64.wrap (b:Int)≠0:=by rw [u64W hbW]; omega
   have hji:((j+1:Nat):Int)-1=(j:Int):=by omega
   simp only [hji]
   refine ⟨by decide,zan j (hx.le ho2.1) rfl hj fun a ha=>⟨_,ha,hne,?_⟩⟩
   refine ze4 j _ ho2 rfl (by omega) (zvr hrem hbW hw) fun h5 b5 _ _ _ ho5=>⟨hne,?_⟩
   rw [or32 (by omega) hw,u64W hbW,tmodn]
   refine ⟨⟨j,_,_,by rw [w64 (by omega)],by omega,Nat.mod_lt _ hb,ho5,zd0 okr (zus hrem hw),by simp [hrl],zvs hj hrl hv⟩,by rw [w64 (by omega)]; omega⟩
 · obtain rfl:k=0:=by have:¬(k:Int)-1≥0:=h3; omega
   simp only [List.drop_zero] at hv
   have e1:vl l/b=vl r:=by rw [hv,Nat.mul_add_div hb,Nat.div_eq_of_lt hrem]; omega
   have e2:vl l % b=rem:=by rw [hv,Nat.mul_add_mod,Nat.mod_eq_of_lt hrem]
   have:=H h2 r ho2 okr hrl e1.symm
   rw [e2] at this
   exact this
theorem zsw (hx:RdW h x l) (ol:okW l) (hb:0<b) (hbW:b<W) (hl:l.length≤35184372088800)
 (H:∀z w h',h.le h'→RdW h' z (dg (vl l/b))→RdW h' w (dg (vl l % b))→Kp (z,w) h'):callP (F.zfv x b) Kp h:=by
 refine za1 (fun v h'=>RdW h' v.1 (dg (vl l/b))∧RdW h' v.2 (dg (vl l % b))) (fun K' hk=>?_) fun ⟨z,w⟩ h' hl hz=>H z w h' hl hz.1 hz.2
 unfold F.zfv
 have lx:=hx.len
 refine zf9 l.length l.length (by omega) (by omega) (by omega) (by omega) fun m1 h1 hw hw2=>?_
 refine za1a (Kf:=fun (s:Int) h2=>callP (F.zaf m1) (fun r7 h4=>callP (F.zc9 s) (fun r8 h5=>K' (r7,r8) h5) h4) h2) hx ol hb hbW hl hw2 fun h3 r ho okr hrl hv=>?_
 refine zg1 ho.rdW (by omega) fun z hz=>?_
 rw [zc6 okr,hv] at hz
 have:=Nat.mod_lt (vl l) hb
 refine zh5 rfl (by unfold W at hbW; omega) fun w h4 hl4 hw4=>hk _ _ (Hp.le_trans ho.1 hl4) ⟨hz.le hl4,hw4⟩
theorem za19 (hx:RdW h x l) (ol:okW l) (hb:0<b) (hbW:b<W) (hl:l.length≤35184372088800)
 (H:∀z h',h.le h'→RdW h' z (dg (vl l/b))→Kq (z,((vl l % b:Nat):Int)) h'):callP (F.zn6 x b) Kq h:=by
 refine za1 (fun v h'=>RdW h' v.1 (dg (vl l/b))∧v.2=((vl l % b:Nat):Int)) (fun K' hk=>?_) fun ⟨z,w⟩ h' hl hz=>by
  obtain ⟨h1,h2⟩:=hz
  simp only at h1 h2
  subst h2
  exact H z h' hl h1
 unfold F.zn6
 have lx:=hx.len
 refine zf9 l.length l.length (by omega) (by omega) (by omega) (by omega) fun m1 h1 hw hw2=>?_
 refine za1a (Kf:=fun (s:Int) h2=>callP (F.zbc m1) (fun r7 h4=>K' (r7,IntKind.u32.wrap s) h4) h2) hx ol hb hbW hl hw2 fun h3 r ho okr hrl hv=>?_
 refine zdl ho.rdW (by omega) fun z hz=>?_
 rw [zc6 okr,hv] at hz
 have:=Nat.mod_lt (vl l) hb
 exact hk _ _ ho.1 ⟨hz,u32lt (by omega)⟩
theorem minpow {s:Nat} (hs:s≤32):(2:Int) ^ (min ((s:Int)).toNat IntKind.u64.bits)=((2 ^ s:Nat):Int):=by
 have:min ((s:Int)).toNat IntKind.u64.bits=s:=by show min s 64=s; omega
 rw [this]; simp
theorem minpow32 {s:Nat} (hs:s≤32):(2:Int) ^ (min ((s:Int)).toNat IntKind.u32.bits)=((2 ^ s:Nat):Int):=by
 have:min ((s:Int)).toNat IntKind.u32.bits=s:=by show min s 32=s; omega
 rw [this]; simp
theorem zsh {s:Nat} (hs:s≤32):2 ^ s≤W:=by
 show 2 ^ s≤2 ^ 32
 exact Nat.pow_le_pow_right (by decide) hs
theorem znr {s:Nat} (hs:s≤32):2 ^ s*2 ^ (32-s)=W:=by
 rw [←Nat.pow_add,show s+(32-s)=32 by omega]; rfl
theorem zuo {s w:Nat} (hs:s≤32) (hw:w<W):IntKind.u64.wrap (IntKind.u64.wrap (w:Int)*2 ^ (min ((s:Int)).toNat IntKind.u64.bits))=((w*2 ^ s:Nat):Int):=by
 rw [minpow hs,u64W hw,show ((w:Int)*((2 ^ s:Nat):Int))=((w*2 ^ s:Nat):Int) by simp]
 refine u64n ?_
 have h1:=zsh hs
 have:w*2 ^ s<W*W:=Nat.mul_lt_mul_of_lt_of_le hw h1 W_pos
 unfold W at this; omega
theorem zun {s w:Nat} (hs:s≤32):w*2 ^ s % W=2 ^ s*(w % 2 ^ (32-s)):=by
 rw [←znr hs,Nat.mul_comm w,Nat.mul_mod_mul_left]
theorem zaaq {s w:Nat} (hs:s≤32) (hw:w<W):w*2 ^ s/W<2 ^ s:=by
 rw [Nat.div_lt_iff_lt_mul W_pos,Nat.mul_comm]
 exact Nat.mul_lt_mul_of_pos_left hw (Nat.two_pow_pos s)
theorem zy8 {s c w:Nat} (hs:s≤32) (hc:c<2 ^ s):c ||| (w*2 ^ s % W)=c+w*2 ^ s % W:=by
 rw [zun hs,Nat.or_comm,←Nat.two_pow_add_eq_or_of_lt hc,Nat.add_comm]
theorem or_lt {s c w:Nat} (hs:s≤32) (hc:c<2 ^ s):c+w*2 ^ s % W<W:=by
 rw [←zy8 hs hc]
 exact Nat.or_lt_two_pow (n:=32) (Nat.lt_of_lt_of_le hc (zsh hs)) (Nat.mod_lt _ W_pos)
theorem zadq {s:Nat} (hx:RdW h x l) (ol:okW l) (hs:s≤31) (hl:l.length≤35184372088800)
 (H:∀z h' r,OwnW h h' z r→okW r→r.length=l.length+1→vl r=vl l*2 ^ s→Ks z h'):F.zdp x (s:Int) Ks h:=by
 unfold F.zdp
 have lx:=hx.len
 refine zf9 (l.length+1) (l.length+1) (by rw [w64 (by omega)]; omega) (by rw [w64 (by omega)]; omega) (by omega) (by omega) fun m1 h1 hw hw2=>?_
 refine zal (fun st h'=>∃(i:Nat) (r:List Nat),st=((i:Int),())∧i≤l.length∧OwnW h h' m1 r∧okW r∧r.length=l.length+1∧(∃hi:i<r.length,r[i]<2 ^ s)∧vl (r.take (i+1))=vl (l.take i)*2 ^ s)
  (fun st=>((l.length:Int)-st.1).toNat) ⟨0,_,rfl,Nat.zero_le _,hw2,zi4 _,by simp,⟨by simp,by simpa using Nat.two_pow_pos s⟩,by rw [zbm (by simp)]; simp [vl]⟩ ?_
 rintro st h2 ⟨i,r,rfl,hi,ho,okr,hrl,⟨hi1,hc⟩,hv⟩
 refine za0 (fun h3=>?_) (fun h3=>?_)
 · have hi':i<l.length:=by have:(i:Int)<(x.len:Int):=h3; omega
   have hw:=zc1 ol hi'
   refine zan i (hx.le ho.1) rfl hi' fun a ha=>⟨_,ha,by omega,?_⟩
   refine zan i ho.rdW rfl hi1 fun a2 ha2=>⟨_,ha2,?_⟩
   rw [zuo (by omega) hw,u32n]
   have e1:=zy8 (w:=l[i]) (by omega) hc
   have e2:=or_lt (w:=l[i]) (by omega) hc
   refine ze4 i (r[i]+l[i]*2 ^ s % W) ho rfl hi1 ?_ fun h5 b5 _ _ _ ho5=>⟨by decide,?_⟩
   · rw [or32k (zc1 okr hi1) (Nat.mod_lt _ W_pos),e1]
   · rw [shr32]
     have e3:=zaaq (s:=s) (by omega) hw
     have e4:l[i]*2 ^ s/W<W:=Nat.lt_of_lt_of_le e3 (zsh (by omega))
     refine ze4 (i+1) (l[i]*2 ^ s/W) ho5 (by rw [w64 (by omega)]; rfl) (by simp; omega) (u32lt e4) fun h6 b6 _ _ _ ho6=>?_
     have hlen:i+1<((r.set i (r[i]+l[i]*2 ^ s % W)).set (i+1) (l[i]*2 ^ s/W)).length:=by simp; omega
     refine ⟨⟨i+1,_,by rw [w64 (by omega)]; rfl,by omega,ho6,zd0 (zd0 okr e2) e4,by simp [hrl],⟨hlen,by rw [List.getElem_set_self]; exact e3⟩,?_⟩,by rw [w64 (by omega)]; omega⟩
     rw [zf5 (by simp; omega),zf5 hi1,zbm hi',Nat.add_mul,←hv,zbm hi1,Nat.pow_succ,Nat.mul_add]
     have e:=Nat.mod_add_div (l[i]*2 ^ s) W
     have e5:=congrArg (W ^ i*·) e
     simp only [Nat.mul_add] at e5
     rw [Nat.mul_assoc,Nat.mul_assoc]
     omega
 · have hi':i=l.length:=by have:¬(i:Int)<(x.len:Int):=h3; omega
   subst hi'
   rw [List.take_of_length_le (l:=l) (Nat.le_refl _),List.take_of_length_le (by omega)] at hv
   exact H _ _ r ho okr hrl hv
theorem zsk {s:Nat} (hx:RdW h x l) (ol:okW l) (hs:s≤31) (hl:l.length≤35184372088800)
 (H:∀z h' r,OwnW h h' z r→okW r→r.length=l.length+1→vl r=vl l*2 ^ s→Ks z h'):callP (F.zdp x (s:Int)) Ks h:=
 za1 (fun z h'=>∃r,OwnW h h' z r∧okW r∧r.length=l.length+1∧vl r=vl l*2 ^ s) (fun K' hk=>zadq hx ol hs hl fun z h' r h1 h2 h3 h4=>hk z h' h1.1 ⟨r,h1,h2,h3,h4⟩) fun z h' _ ⟨r,h1,h2,h3,h4⟩=>H z h' r h1 h2 h3 h4
theorem zvn {s:Nat} (hx:RdW h x l) (ol:okW l) (hs:s≤31) (hl:l.length≤35184372088800)
 (H:∀z h' r,OwnW h h' z r→okW r→r.length=l.length+1→vl r=vl l*2 ^ s→Ks z h'):callP (F.zjc x (s:Int)) Ks h:=
 zsk hx ol hs hl H
theorem zyx {s u v:Nat} (hs:s≤32) (hu:u<W):(u/2 ^ s) ||| (v*2 ^ (32-s) % W)=u/2 ^ s+2 ^ (32-s)*(v % 2 ^ s):=by
 have h1:u/2 ^ s<2 ^ (32-s):=by
  rw [Nat.div_lt_iff_lt_mul (Nat.two_pow_pos s),Nat.mul_comm,znr hs]; exact hu
 rw [zy8 (by omega) h1,zun (by omega),show 32-(32-s)=s by omega]
theorem zyv {s u v:Nat} (hs:s≤32) (hu:u<W):u/2 ^ s+2 ^ (32-s)*(v % 2 ^ s)<W:=by
 rw [←zyx hs hu]
 exact Nat.or_lt_two_pow (n:=32) (Nat.lt_of_le_of_lt (Nat.div_le_self _ _) hu) (Nat.mod_lt _ W_pos)
theorem zyw {r l:List Nat} {s i z0:Nat} (hs:s≤32) (hi:i<l.length) (hrl:r.length=l.length)
 (hv:2 ^ s*vl (r.take i)+z0=vl (l.take i)+W ^ i*(l.getD i 0 % 2 ^ s)) :
 2 ^ s*vl ((r.set i (l[i]/2 ^ s+2 ^ (32-s)*(l.getD (i+1) 0 % 2 ^ s))).take (i+1))+z0=vl (l.take (i+1))+W ^ (i+1)*(l.getD (i+1) 0 % 2 ^ s):=by
 rw [zf5 (by omega),zbm hi]
 rw [zgv hi] at hv
 have e:=Nat.div_add_mod l[i] (2 ^ s)
 have p:=znr hs
 rw [Nat.pow_succ]
 generalize l.getD (i+1) 0 % 2 ^ s=A at *
 generalize 2 ^ (32-s)=Q at *
 generalize 2 ^ s=S at *
 generalize W ^ i=P at *
 generalize l[i] % S=B at *
 generalize l[i]/S=C at *
 generalize l[i]=D at *
 generalize vl (r.take i)=R at *
 generalize vl (l.take i)=L at *
 rw [←p,←e]
 clear hrl hi hs e p
 grind
theorem za23 {r l:List Nat} {s:Nat} (hrl:r.length=l.length) (hv:2 ^ s*vl (r.take l.length)+l.getD 0 0 % 2 ^ s=vl (l.take l.length)+W ^ l.length*(l.getD l.length 0 % 2 ^ s)):vl r=vl l/2 ^ s:=by
 rw [List.take_of_length_le (l:=r) (by omega),List.take_of_length_le (Nat.le_refl _),zfu (Nat.le_refl _),Nat.zero_mod,Nat.mul_zero,Nat.add_zero] at hv
 rw [←hv,Nat.mul_add_div (Nat.two_pow_pos s),Nat.div_eq_of_lt (Nat.mod_lt _ (Nat.two_pow_pos s)),Nat.add_zero]
theorem zup {s w:Nat} (hs:s≤32):((w:Int)).fdiv (2 ^ (min ((s:Int)).toNat IntKind.u32.bits))=((w/2 ^ s:Nat):Int):=by
 rw [minpow32 hs]
 exact (Int.ofNat_fdiv w (2 ^ s)).symm
theorem za85 {s w:Nat} (hs:s≤32):((w:Int)).fdiv (2 ^ (min ((s:Int)).toNat IntKind.u64.bits))=((w/2 ^ s:Nat):Int):=by
 rw [minpow hs]
 exact (Int.ofNat_fdiv w (2 ^ s)).symm
theorem zaas {s:Nat} (hx:RdW h x l) (ol:okW l) (hs:s≤31) (hl:l.length≤35184372088800)
 (H:∀z h' r,h.le h'→RdW h' z r→okW r→r.length=l.length→vl r=vl l/2 ^ s→Ks z h'):callP (F.zfw x (s:Int)) Ks h:=by
 refine za1 (fun z h'=>∃r,RdW h' z r∧okW r∧r.length=l.length∧vl r=vl l/2 ^ s) (fun K' hk=>?_) fun z h' hl ⟨r,h1,h2,h3,h4⟩=>H z h' r hl h1 h2 h3 h4
 unfold F.zfw
 have lx:=hx.len
 refine zf9 l.length l.length (by omega) (by omega) (by omega) (by omega) fun m1 h1 hw hw2=>?_
 refine zal (fun st h'=>∃(i:Nat) (r:List Nat),st=((i:Int),())∧i≤l.length∧OwnW h h' m1 r∧okW r∧r.length=l.length∧2 ^ s*vl (r.take i)+l.getD 0 0 % 2 ^ s=vl (l.take i)+W ^ i*(l.getD i 0 % 2 ^ s))
  (fun st=>((l.length:Int)-st.1).toNat) ⟨0,_,rfl,Nat.zero_le _,hw2,zi4 _,by simp,by simp [vl]⟩ ?_
 rintro st h2 ⟨i,r,rfl,hi,ho,okr,hrl,hv⟩
 refine za0 (fun h3=>?_) (fun h3=>?_)
 · have hi':i<l.length:=by have:(i:Int)<(x.len:Int):=h3; omega
   have hw:=zc1 ol hi'
   have e2:=zyv (s:=s) (v:=l.getD (i+1) 0) (by omega) hw
   have e3:=zyw (by omega) hi' hrl hv
   refine za3 (fun _ h'=>∃r',OwnW h h' m1 r'∧r'=r.set i (l[i]/2 ^ s+2 ^ (32-s)*(l.getD (i+1) 0 % 2 ^ s))) ?_ ?_
   · rintro _ h4 ⟨r',ho4,rfl⟩
     exact ⟨⟨i+1,_,by rw [w64 (by simp only; omega)]; rfl,by omega,ho4,zd0 okr e2,by simp [hrl],e3⟩,by simp only; rw [w64 (by omega)]; omega⟩
   · refine zan i (hx.le ho.1) rfl hi' fun a ha=>⟨_,ha,by omega,?_⟩
     refine ze4 i (l[i]/2 ^ s) ho rfl (by omega) (zup (by omega)) fun h5 b5 _ _ _ ho5=>?_
     have wi:IntKind.i64.wrap ((i:Int)+1)=((i+1:Nat):Int):=by rw [w64 (by omega)]; rfl
     have ws:IntKind.i64.wrap (32-(s:Int))=((32-s:Nat):Int):=by rw [w64 (by omega)]; omega
     simp only [wi,ws]
     refine za0 (fun h6=>?_) (fun h6=>?_)
     · have hi2:i+1<l.length:=by omega
       have hw2:=zc1 ol hi2
       refine zan i ho5.rdW rfl (by simp; omega) fun a2 ha2=>⟨_,ha2,?_⟩
       refine zan (i+1) (hx.le ho5.1) rfl hi2 fun a3 ha3=>⟨_,ha3,by omega,?_⟩
       rw [zuo (by omega) hw2,u32n,List.getElem_set_self,or32k (Nat.lt_of_le_of_lt (Nat.div_le_self _ _) hw) (Nat.mod_lt _ W_pos),zyx (by omega) hw]
       refine ze4 i _ ho5 rfl (by simp; omega) rfl fun h7 b7 _ _ _ ho7=>⟨_,ho7,?_⟩
       rw [List.set_set,zgv hi2]
     · have hi2:l.length≤i+1:=by omega
       refine ⟨_,ho5,?_⟩
       rw [zfu hi2]
       simp
 · have hi':i=l.length:=by have:¬(i:Int)<(x.len:Int):=h3; omega
   subst hi'
   exact hk _ _ ho.1 ⟨r,ho.rdW,okr,hrl,za23 hrl hv⟩
theorem za9u {s u v:Nat} (hs:s≤31) (hu:u<W) (hv:v<W):IntKind.u32.wrap ((((v*W+u:Nat):Int)).fdiv (2 ^ (min ((s:Int)).toNat IntKind.u64.bits)))=((u/2 ^ s+2 ^ (32-s)*(v % 2 ^ s):Nat):Int):=by
 rw [za85 (by omega),u32n]
 have e:(v*W+u)/2 ^ s=u/2 ^ s+v*2 ^ (32-s):=by
  rw [←znr (s:=s) (by omega)]
  rw [show v*(2 ^ s*2 ^ (32-s))=2 ^ s*(v*2 ^ (32-s)) by rw [←Nat.mul_assoc,Nat.mul_comm v,Nat.mul_assoc]]
  rw [Nat.mul_add_div (Nat.two_pow_pos s),Nat.add_comm]
 rw [e,Nat.add_mod,zun (by omega),show 32-(32-s)=s by omega]
 have h1:=zyv (s:=s) (v:=v) (by omega) hu
 rw [Nat.mod_eq_of_lt (a:=u/2 ^ s) (Nat.lt_of_le_of_lt (Nat.div_le_self _ _) hu),Nat.mod_eq_of_lt h1]
theorem za42 {s:Nat} (hx:RdW h x l) (ol:okW l) (hs:s≤31) (hl:l.length≤35184372088800)
 (H:∀z h',h.le h'→RdW h' z (dg (vl l/2 ^ s))→Ks z h'):callP (F.zmf x (s:Int)) Ks h:=by
 refine za1 _ (fun K' hk=>?_) H
 unfold F.zmf
 have lx:=hx.len
 refine zf9 l.length l.length (by omega) (by omega) (by omega) (by omega) fun m1 h1 hw hw2=>?_
 refine zal (fun st h'=>∃(i:Nat) (r:List Nat),st=((i:Int),())∧i≤l.length∧OwnW h h' m1 r∧okW r∧r.length=l.length∧2 ^ s*vl (r.take i)+l.getD 0 0 % 2 ^ s=vl (l.take i)+W ^ i*(l.getD i 0 % 2 ^ s))
  (fun st=>((l.length:Int)-st.1).toNat) ⟨0,_,rfl,Nat.zero_le _,hw2,zi4 _,by simp,by simp [vl]⟩ ?_
 rintro st h2 ⟨i,r,rfl,hi,ho,okr,hrl,hv⟩
 refine za0 (fun h3=>?_) (fun h3=>?_)
 · have hi':i<l.length:=by have:(i:Int)<(x.len:Int):=h3; omega
   have hw:=zc1 ol hi'
   have hw1:=zd7 ol (i+1)
   have e2:=zyv (s:=s) (v:=l.getD (i+1) 0) (by omega) hw
   have e3:=zyw (by omega) hi' hrl hv
   have wi:IntKind.i64.wrap ((i:Int)+1)=((i+1:Nat):Int):=by rw [w64 (by omega)]; rfl
   refine zan i (hx.le ho.1) rfl hi' fun a ha=>⟨_,ha,?_⟩
   refine za3 (fun s h'=>h'=h2∧s=(((l.getD (i+1) 0*W+l[i]:Nat):Int),())) ?_ ?_
   · rintro _ h4 ⟨rfl,rfl⟩
     refine ⟨by omega,?_⟩
     simp only
     rw [za9u hs hw hw1]
     refine ze4 i _ ho rfl (by omega) rfl fun h5 b5 _ _ _ ho5=>?_
     exact ⟨⟨i+1,_,by rw [wi],by omega,ho5,zd0 okr e2,by simp [hrl],e3⟩,by rw [wi]; omega⟩
   · simp only [wi]
     refine za0 (fun h6=>?_) (fun h6=>?_)
     · have hi2:i+1<l.length:=by omega
       refine zan (i+1) (hx.le ho.1) rfl hi2 fun a3 ha3=>⟨_,ha3,by omega,by trivial,?_⟩
       rw [zgv hi2] at hw1 ⊢
       congr 1
       rw [u64W hw,show (IntKind.u64.wrap (l[i+1]:Int))=(l[i+1]:Int) from u64W hw1]
       have e5:IntKind.u64.wrap ((l[i+1]:Int)*2 ^ (min (32:Int).toNat IntKind.u64.bits))=((l[i+1]*2 ^ 32:Nat):Int):=by
        have:=zuo (s:=32) (by omega) hw1
        rw [u64W hw1] at this
        exact this
       rw [e5,or64k (by unfold W at *; omega) (by unfold W at *; omega),Nat.or_comm,Nat.mul_comm,←Nat.two_pow_add_eq_or_of_lt hw]
       unfold W
       congr 1
       omega
     · have hi2:l.length≤i+1:=by omega
       refine ⟨by trivial,?_⟩
       rw [zfu hi2,u64W hw]
       simp
 · have hi':i=l.length:=by have:¬(i:Int)<(x.len:Int):=h3; omega
   subst hi'
   refine zdl ho.rdW (by omega) fun z hz=>?_
   rw [zc6 okr,za23 hrl hv] at hz
   exact hk _ _ ho.1 hz
end
end Den
end

section
namespace Iv
theorem ztf {X V P w v1 v2 u num qh rh:Nat} (hX:X<(num*w+u+1)*P) (hV:(v1*w+v2)*P≤V) (hV0:0<V) (hnum:qh*v1+rh=num)
 (hlt:X<V*w) (hc:w≤qh∨rh*w+u<qh*v2):X/V<qh:=by
 rw [Nat.div_lt_iff_lt_mul hV0]
 rcases hc with hc | hc
 · exact Nat.lt_of_lt_of_le hlt (by rw [Nat.mul_comm]; exact Nat.mul_le_mul_right _ hc)
 · have h1:num*w+u+1≤qh*(v1*w+v2):=by
    rw [←hnum,Nat.mul_add,Nat.add_mul,←Nat.mul_assoc]; omega
   have h2:(num*w+u+1)*P≤qh*((v1*w+v2)*P):=by
    rw [←Nat.mul_assoc]; exact Nat.mul_le_mul_right _ h1
   have h3:qh*((v1*w+v2)*P)≤qh*V:=Nat.mul_le_mul_left _ hV
   omega
theorem ztg {X V P w v1 v2 u num qh rh un un1:Nat} (hw:1<w) (hX:(num*w+u)*P≤X) (hV:V<(v1*w+v2+1)*P) (hV0:0<V) (hP:0<P) (hnum:qh*v1+rh=num) (hn:num=un*w+un1)
 (hv1:w≤2*v1) (hun:un≤v1) (hun1:un1<w) (hv2:v2<w) (hu:u<w)
 (hc:w≤rh∨(qh<w∧qh*v2≤rh*w+u)):qh<w∧qh≤X/V+1:=by
 have hv1p:0<v1:=by omega
 have h1:qh<w:=by
  rcases hc with hc | hc
  · have h2:un*w≤v1*w:=Nat.mul_le_mul_right _ hun
    have h3:qh*v1<w*v1:=by rw [Nat.mul_comm w v1]; omega
    exact Nat.lt_of_mul_lt_mul_right h3
  · exact hc.1
 refine ⟨h1,?_⟩
 have h2:qh*v2≤rh*w+u:=by
  rcases hc with hc | hc
  · have a1:qh*v2≤w*w:=Nat.mul_le_mul (by omega) (by omega)
    have a2:w*w≤rh*w:=Nat.mul_le_mul_right _ hc
    omega
  · exact hc.2
 have h3:qh*(v1*w+v2)≤num*w+u:=by
  rw [←hnum,Nat.mul_add,Nat.add_mul,←Nat.mul_assoc]; omega
 rcases Nat.eq_zero_or_pos qh with h0 | h0
 · rw [h0]; exact Nat.zero_le _
 obtain ⟨q1,rfl⟩:∃q1,qh=q1+1:=⟨qh-1,by omega⟩
 have h4:q1*(v1*w+v2+1)≤num*w+u:=by
  rw [Nat.mul_add,Nat.mul_one]
  rw [Nat.add_mul] at h3
  have:w≤v1*w:=Nat.le_mul_of_pos_left _ hv1p
  omega
 have h5:q1*V≤X:=by
  have a1:q1*V≤q1*((v1*w+v2+1)*P):=Nat.mul_le_mul_left _ (Nat.le_of_lt hV)
  have a2:q1*((v1*w+v2+1)*P)≤(num*w+u)*P:=by
   rw [←Nat.mul_assoc]; exact Nat.mul_le_mul_right _ h4
  omega
 exact Nat.succ_le_succ ((Nat.le_div_iff_mul_le hV0).2 h5)
theorem top2 {l:List Nat} (ok:okW l) {n:Nat} (hl:l.length=n+2):∃P lo,P=W ^ n∧lo<P∧vl l=(l.getD (n+1) 0*W+l.getD n 0)*P+lo∧lo=vl (l.take n):=by
 refine ⟨W ^ n,vl (l.take n),rfl,?_,?_,rfl⟩
 · have:=vl_lt (zhh ok n)
   rw [List.length_take,Nat.min_eq_left (by omega)] at this
   exact this
 · have e1:=Den.zij l n
   have e2:=Den.zij l (n+1)
   rw [List.take_of_length_le (by omega)] at e2
   rw [e2,e1,Nat.pow_succ,Nat.add_mul,Nat.mul_assoc (l.getD (n+1) 0),Nat.mul_comm (W ^ n) W,Nat.mul_comm (l.getD (n+1) 0),Nat.mul_comm (l.getD n 0)]
   omega
theorem top3 {l:List Nat} (ok:okW l) {n:Nat} (hl:l.length=n+3):∃P lo,P=W ^ n∧lo<P∧vl l=((l.getD (n+2) 0*W+l.getD (n+1) 0)*W+l.getD n 0)*P+lo:=by
 obtain ⟨P,lo,h1,h2,h3,h4⟩:=top2 ok (n:=n+1) (by omega)
 refine ⟨W ^ n,vl (l.take n),rfl,?_,?_⟩
 · have:=vl_lt (zhh ok n)
   rw [List.length_take,Nat.min_eq_left (by omega)] at this
   exact this
 · rw [h3,h4,Den.zij,h1,Nat.pow_succ]
   have:(l.getD (n+2) 0*W+l.getD (n+1) 0)*(W ^ n*W)=(l.getD (n+2) 0*W+l.getD (n+1) 0)*W*W ^ n:=by
    rw [Nat.mul_comm (W ^ n) W,Nat.mul_assoc]
   rw [this,Nat.add_mul _ (l.getD n 0),Nat.mul_comm (l.getD n 0)]
   omega
theorem znh {l:List Nat} (ok:okW l) {a b:Nat} (h:vl (l.drop a)<W ^ b):vl (l.drop (a+b))=0:=by
 rcases Nat.lt_or_ge (l.drop a).length b with h1 | h1
 · rw [List.drop_eq_nil_of_le (by rw [List.length_drop] at h1; omega)]; rfl
 · have:=zc8 (l:=l.drop a) (k:=b) h1
   rw [List.drop_drop] at this
   rcases Nat.eq_zero_or_pos (vl (l.drop (a+b))) with h2 | h2
   · exact h2
   · have:W ^ b≤W ^ b*vl (l.drop (a+b)):=Nat.le_mul_of_pos_right _ h2
     omega
end Iv
namespace Den
open Go Iv
theorem LeX.refl {b:Nat} {h:Hp}:LeX b h h:=fun _ _ _ hk=>hk
theorem LeX.trans {b:Nat} {h h1 h2:Hp} (x:LeX b h h1) (y:LeX b h1 h2):LeX b h h2:=fun k B hne hk=>y k B hne (x k B hne hk)
theorem zg4 {x:Sl} {j e:Nat} {i:Int} {k:Nat} {F:Addr→Prop} (hi:i=k) (hk:k<e-j) (he:e≤x.cap) (H:idxP x ((j+k:Nat):Int) 1 F):idxP (x.cut j e 1) i 1 F:=by
 subst hi
 obtain ⟨_,_,h3⟩:=H
 refine ⟨by omega,?_,?_⟩
 · show (k:Int)<((e-j:Nat):Int); omega
 · have:(x.cut j e 1).a=x.a.map (·.add (j*1)):=by show (if x.cap=j then _ else _)=_; rw [if_neg (by omega)]
   rw [this]
   cases ha:x.a with
   | none=>rw [ha] at h3; exact h3
   | some a=>
     rw [ha] at h3
     simp only [ptrK,Option.map_some] at h3 ⊢
     rw [zce]
     have e1:(((j+k:Nat):Int)).toNat=j+k:=rfl
     have e2:((k:Int)).toNat=k:=rfl
     rw [e1] at h3
     rw [e2]
     rw [show j*1+k*1=(j+k)*1 by omega]
     exact h3
theorem zu2 {x:Sl} {lo hi:Int} {K:Sl→Prop} (a b:Nat) (ha:lo=a) (hb:hi=b) (hab:a≤b) (hc:b≤x.cap) (H:K (x.cut a b 1)):slP x lo hi 1 K:=by
 subst ha hb
 exact ⟨by omega,by omega,by omega,H⟩
section
variable {h0 h : Hp} {u y : Sl} {L m : List Nat} {a0 : Addr} {j d : Nat} {Kb : Bool → Hp → Prop} {Ku : Unit → Hp → Prop}
theorem zih {i:Int} {v:Int} {K:Hp→Prop} (k n:Nat) (ha0:u.a=some a0) (ho:OwnW h0 h u L) (hi:i=k) (hk:k<L.length) (hv:v=n)
 (H:∀h',LeX a0.block h h'→OwnW h0 h' u (L.set k n)→K h'):idxP u i 1 fun a=>stP a [.int .u32 v] K h:=
 ze4 k n ho hi hk hv fun h' b h1 _ h3 h4=>H h' (by rw [h1 _ ha0]; exact h3) h4
theorem zaaz {x d c z:Nat} (hx:x<W) (hd:d<W) (hc:c≤W) (hz:z<W):∃r b:Nat,r<W∧b≤W∧z+W*b=r+(x*d+c) ∧
 IntKind.u32.wrap (IntKind.u64.wrap (IntKind.u64.wrap (z:Int)-IntKind.u64.wrap (IntKind.u32.wrap (IntKind.u64.wrap (IntKind.u64.wrap (IntKind.u64.wrap (x:Int)*(d:Int))+(c:Int))))))=(r:Int) ∧
 IntKind.u64.wrap ((IntKind.u64.wrap (IntKind.u64.wrap (IntKind.u64.wrap (x:Int)*(d:Int))+(c:Int))).fdiv (2 ^ (min (32:Int).toNat IntKind.u64.bits)) +
  (IntKind.u64.wrap (IntKind.u64.wrap (z:Int)-IntKind.u64.wrap (IntKind.u32.wrap (IntKind.u64.wrap (IntKind.u64.wrap (IntKind.u64.wrap (x:Int)*(d:Int))+(c:Int)))))).fdiv (2 ^ (min (63:Int).toNat IntKind.u64.bits)))=(b:Int):=by
 unfold W at *
 have hxd:x*d≤4294967295*4294967295:=Nat.mul_le_mul (by omega) (by omega)
 have e1:IntKind.u64.wrap (IntKind.u64.wrap (IntKind.u64.wrap (x:Int)*(d:Int))+(c:Int))=((x*d+c:Nat):Int):=by
  rw [u64n (n:=x) (by omega),show ((x:Int)*(d:Int))=((x*d:Nat):Int) by simp,u64n (n:=x*d) (by omega),show (((x*d:Nat):Int)+(c:Int))=((x*d+c:Nat):Int) by simp,u64n (by omega)]
 rw [e1,fd63,fd32]
 simp only [wu64e,wu32e]
 have ht:x*d+c≤4294967295*4294967295+4294967296:=by omega
 generalize x*d+c=t at *
 by_cases hb:t % 4294967296≤z
 · exact ⟨z-t % 4294967296,t/4294967296,by omega,by omega,by omega,by omega,by omega⟩
 · exact ⟨z+4294967296-t % 4294967296,t/4294967296+1,by omega,by omega,by omega,by omega,by omega⟩
theorem zlz {L:List Nat} {j k v:Nat} (hj:j≤k):(L.set k v).take j=L.take j:=by
 apply List.ext_getElem
 · simp
 · intro i h1 h2
   simp only [List.length_take] at h1 h2
   simp only [List.getElem_take]
   rw [List.getElem_set_ne (by omega)]
theorem zly {L:List Nat} {k e v:Nat} (hk:k<e):(L.set k v).drop e=L.drop e:=by
 rw [List.drop_set_of_lt hk]
theorem zadr (ha0:u.a=some a0) (ho:OwnW h0 h u L) (okL:okW L) (hy:RdW h y m) (okm:okW m) (hne:∀a,y.a=some a→a.block≠a0.block) (hj:j+m.length<L.length) (hd:d<W) (hL:L.length≤35184372088800+1)
 (H:∀h' L' b,LeX a0.block h h'→OwnW h0 h' u L'→okW L'→L'.length=L.length→L'.take j=L.take j→L'.drop (j+m.length+1)=L.drop (j+m.length+1)→b≤1 →
   vl L'+W ^ j*(d*vl m)=vl L+W ^ (j+m.length+1)*b→Kb ((b:Int)==1) h'):F.zgx (u.cut j (j+m.length+1) 1) y (d:Int) Kb h:=by
 unfold F.zgx
 have ly:=hy.len
 have lu:=ho.len
 have lc:=ho.2.2.1
 refine zal (fun st h'=>∃(c i:Nat) (L':List Nat),st=((c:Int),(i:Int),())∧i≤m.length∧c≤W∧LeX a0.block h h'∧OwnW h0 h' u L'∧okW L'∧L'.length=L.length∧L'.take j=L.take j∧L'.drop (j+m.length+1)=L.drop (j+m.length+1) ∧
  vl L'+W ^ j*(d*vl (m.take i))=vl L+W ^ (j+i)*c) (fun st=>((m.length:Int)-st.2.1).toNat) ⟨0,0,L,rfl,Nat.zero_le _,by omega,LeX.refl,ho,okL,rfl,rfl,rfl,by simp [vl]⟩ ?_
 rintro st h1 ⟨c,i,L',rfl,hi,hc,hle,ho1,okL',hLL,htk,hdr,hv⟩
 have hy1:=hy.leX hle hne
 refine za0 (fun h3=>?_) (fun h3=>?_)
 · have hi':i<m.length:=by have:(i:Int)<(y.len:Int):=h3; omega
   have hx:=zc1 okm hi'
   have hz:=zc1 okL' (k:=j+i) (by omega)
   refine zan i hy1 rfl hi' fun a ha=>⟨_,ha,?_⟩
   refine zg4 rfl (by omega) (by omega) (zan (j+i) ho1.rdW rfl (by omega) fun a2 ha2=>⟨_,ha2,?_⟩)
   obtain ⟨r,b,hr,hb,he,e1,e2⟩:=zaaz hx hd hc hz
   refine zg4 rfl (by omega) (by omega) (zih (j+i) r ha0 ho1 rfl (by omega) e1 fun h5 hl5 ho5=>⟨by decide,by decide,?_⟩)
   refine ⟨⟨b,i+1,L'.set (j+i) r,?_,by omega,hb,hle.trans hl5,ho5,zd0 okL' hr,by simp [hLL],by rw [zlz (by omega)]; exact htk,by rw [zly (by omega)]; exact hdr,?_⟩,by simp only; rw [w64 (by omega)]; omega⟩
   · rw [w64 (by simp only; omega)]
     simp only [Prod.mk.injEq,and_true]
     exact ⟨e2,rfl⟩
   · have e3:=zkj (l:=L') (k:=j+i) (v:=r) (by omega)
     rw [zbm hi']
     generalize vl (L'.set (j+i) r)=V at *
     generalize L'[j+i]=z at *
     generalize m[i]=x at *
     generalize vl (m.take i)=T at *
     generalize vl L'=V' at *
     generalize vl L=V0 at *
     have p1:W ^ (j+(i+1))=W ^ (j+i)*W:=by rw [←Nat.add_assoc,Nat.pow_succ]
     have p2:W ^ (j+i)=W ^ j*W ^ i:=Nat.pow_add ..
     rw [p1]
     generalize W ^ (j+i)=P at *
     subst p2
     generalize W ^ j=Pj at *
     generalize W ^ i=Pi at *
     clear H e1 e2 hdr htk hLL okL' okL
     grind
 · have hi':i=m.length:=by have:¬(i:Int)<(y.len:Int):=h3; omega
   subst hi'
   have hz:=zc1 okL' (k:=j+m.length) (by omega)
   rw [List.take_of_length_le (Nat.le_refl _)] at hv
   refine zg4 (k:=m.length) (by omega) (by omega) (by omega) (zan (j+m.length) ho1.rdW rfl (by omega) fun a2 ha2=>⟨_,ha2,?_⟩)
   have key:∃r b:Nat,r<W∧b≤1∧L'[j+m.length]+W*b=r+c∧IntKind.u32.wrap (IntKind.u64.wrap (IntKind.u64.wrap (L'[j+m.length]:Int)-(c:Int)))=(r:Int) ∧
    (IntKind.u64.wrap (IntKind.u64.wrap (L'[j+m.length]:Int)-(c:Int))).fdiv (2 ^ (min (63:Int).toNat IntKind.u64.bits))=(b:Int):=by
    rw [fd63]
    simp only [wu64e,wu32e]
    unfold W at *
    generalize L'[j+m.length]=z at *
    clear H
    by_cases hb:c≤z
    · exact ⟨z-c,0,by omega,by omega,by omega,by omega,by omega⟩
    · exact ⟨z+4294967296-c,1,by omega,by omega,by omega,by omega,by omega⟩
   obtain ⟨r,b,hr,hb,he,e1,e2⟩:=key
   refine zg4 (k:=m.length) (by omega) (by omega) (by omega) (zih (j+m.length) r ha0 ho1 rfl (by omega) e1 fun h5 hl5 ho5=>⟨by decide,?_⟩)
   simp only
   rw [e2]
   refine H h5 _ b (hle.trans hl5) ho5 (zd0 okL' hr) (by simp [hLL]) (by rw [zlz (by omega)]; exact htk) (by rw [zly (by omega)]; exact hdr) hb ?_
   have e3:=zkj (l:=L') (k:=j+m.length) (v:=r) (by omega)
   rw [Nat.pow_succ]
   generalize vl (L'.set (j+m.length) r)=V at *
   generalize L'[j+m.length]=z at *
   generalize W ^ (j+m.length)=P at *
   have e4:=congrArg (P*·) he
   simp only [Nat.mul_add] at e4
   rw [Nat.mul_assoc]
   omega
theorem za3c (ha0:u.a=some a0) (ho:OwnW h0 h u L) (okL:okW L) (hy:RdW h y m) (okm:okW m) (hne:∀a,y.a=some a→a.block≠a0.block) (hj:j+m.length<L.length) (hL:L.length≤35184372088800+1)
 (H:∀h' L' c,LeX a0.block h h'→OwnW h0 h' u L'→okW L'→L'.length=L.length→L'.take j=L.take j→L'.drop (j+m.length+1)=L.drop (j+m.length+1)→c≤1 →
   vl L'+W ^ (j+m.length+1)*c=vl L+W ^ j*vl m→Ku () h'):F.zho (u.cut j (j+m.length+1) 1) y Ku h:=by
 unfold F.zho
 have ly:=hy.len
 have lu:=ho.len
 have lc:=ho.2.2.1
 refine zal (fun st h'=>∃(c i:Nat) (L':List Nat),st=((c:Int),(i:Int),())∧i≤m.length∧c≤1∧LeX a0.block h h'∧OwnW h0 h' u L'∧okW L'∧L'.length=L.length∧L'.take j=L.take j∧L'.drop (j+m.length+1)=L.drop (j+m.length+1) ∧
  vl L'+W ^ (j+i)*c=vl L+W ^ j*vl (m.take i)) (fun st=>((m.length:Int)-st.2.1).toNat) ⟨0,0,L,rfl,Nat.zero_le _,by omega,LeX.refl,ho,okL,rfl,rfl,rfl,by simp [vl]⟩ ?_
 rintro st h1 ⟨c,i,L',rfl,hi,hc,hle,ho1,okL',hLL,htk,hdr,hv⟩
 have hy1:=hy.leX hle hne
 refine za0 (fun h3=>?_) (fun h3=>?_)
 · have hi':i<m.length:=by have:(i:Int)<(y.len:Int):=h3; omega
   have hx:=zc1 okm hi'
   have hz:=zc1 okL' (k:=j+i) (by omega)
   refine zan i hy1 rfl hi' fun a ha=>⟨_,ha,?_⟩
   refine zg4 rfl (by omega) (by omega) (zan (j+i) ho1.rdW rfl (by omega) fun a2 ha2=>⟨_,ha2,?_⟩)
   have e0:IntKind.u64.wrap ((c:Int)+IntKind.u64.wrap (IntKind.u64.wrap (L'[j+i]:Int)+IntKind.u64.wrap (m[i]:Int)))=((c+(L'[j+i]+m[i]):Nat):Int):=by
    clear H
    unfold W at *
    simp only [wu64e]
    omega
   simp only
   rw [e0]
   refine zg4 rfl (by omega) (by omega) (zih (j+i) _ ha0 ho1 rfl (by omega) (u32n _) fun h5 hl5 ho5=>⟨by decide,?_⟩)
   rw [shr32]
   refine ⟨⟨_,i+1,_,by rw [w64 (by omega)]; rfl,by omega,?_,hle.trans hl5,ho5,zd0 okL' (Nat.mod_lt _ W_pos),by simp [hLL],by rw [zlz (by omega)]; exact htk,by rw [zly (by omega)]; exact hdr,?_⟩,by rw [w64 (by omega)]; omega⟩
   · clear H; unfold W at *; omega
   · have e3:=zkj (l:=L') (k:=j+i) (v:=(c+(L'[j+i]+m[i])) % W) (by omega)
     have he:=Nat.mod_add_div (c+(L'[j+i]+m[i])) W
     rw [zbm hi']
     generalize vl (L'.set (j+i) ((c+(L'[j+i]+m[i])) % W))=V at *
     generalize (c+(L'[j+i]+m[i])) % W=r at *
     generalize (c+(L'[j+i]+m[i]))/W=q at *
     generalize L'[j+i]=z at *
     generalize m[i]=x at *
     generalize vl (m.take i)=T at *
     generalize vl L'=V' at *
     generalize vl L=V0 at *
     have p1:W ^ (j+(i+1))=W ^ (j+i)*W:=by rw [←Nat.add_assoc,Nat.pow_succ]
     have p2:W ^ (j+i)=W ^ j*W ^ i:=Nat.pow_add ..
     rw [p1]
     generalize W ^ (j+i)=P at *
     subst p2
     generalize W ^ j=Pj at *
     generalize W ^ i=Pi at *
     clear H e0 hdr htk hLL okL' okL
     grind
 · have hi':i=m.length:=by have:¬(i:Int)<(y.len:Int):=h3; omega
   subst hi'
   have hz:=zc1 okL' (k:=j+m.length) (by omega)
   rw [List.take_of_length_le (Nat.le_refl _)] at hv
   refine zg4 (k:=m.length) (by omega) (by omega) (by omega) (zan (j+m.length) ho1.rdW rfl (by omega) fun a2 ha2=>⟨_,ha2,?_⟩)
   have e1:IntKind.u32.wrap ((L'[j+m.length]:Int)+IntKind.u32.wrap (c:Int))=(((c+L'[j+m.length]) % W:Nat):Int):=by
    clear H
    unfold W at *
    simp only [wu32e]
    omega
   refine zg4 (k:=m.length) (by omega) (by omega) (by omega) (zih (j+m.length) _ ha0 ho1 rfl (by omega) e1 fun h5 hl5 ho5=>?_)
   refine H h5 _ ((c+L'[j+m.length])/W) (hle.trans hl5) ho5 (zd0 okL' (Nat.mod_lt _ W_pos)) (by simp [hLL]) (by rw [zlz (by omega)]; exact htk) (by rw [zly (by omega)]; exact hdr) (by clear H; unfold W at *; omega) ?_
   have e3:=zkj (l:=L') (k:=j+m.length) (v:=(c+L'[j+m.length]) % W) (by omega)
   have he:=Nat.mod_add_div (c+L'[j+m.length]) W
   rw [Nat.pow_succ]
   generalize vl (L'.set (j+m.length) ((c+L'[j+m.length]) % W))=V at *
   generalize (c+L'[j+m.length]) % W=r at *
   generalize (c+L'[j+m.length])/W=q at *
   generalize L'[j+m.length]=z at *
   generalize W ^ (j+m.length)=P at *
   have e4:=congrArg (P*·) he
   simp only [Nat.mul_add] at e4
   rw [Nat.mul_assoc]
   omega
end
end Den
end

section
set_option maxRecDepth 4000
namespace Iv
theorem zub {l:List Nat} {n:Nat} (hl:l.length=n+1):vl l=vl (l.take n)+W ^ n*l[n]:=by
 have:=zbm (l:=l) (k:=n) (by omega)
 rw [List.take_of_length_le (by omega)] at this
 exact this
theorem zacp {B n:Nat} (hn:(dg B).length=n+1):(dg B)[n]≠0:=by
 intro h0
 have h1:=zub hn
 rw [h0,Nat.mul_zero,Nat.add_zero,vl_dg] at h1
 have h2:=vl_lt (zhh (ok_dg B) n)
 rw [List.length_take,Nat.min_eq_left (by omega)] at h2
 have:=zb9.2 (show B<W ^ n by omega)
 omega
theorem zr7 {B:Nat} (h:(dg B).length=1):dg B=[B]:=by
 have h1:=vl_dg B
 match hd:dg B,h with
 | [x],_=>
   rw [hd] at h1
   simp only [vl,Nat.mul_zero,Nat.add_zero] at h1
   rw [h1]
open Den in
theorem zy4 {B n:Nat} (hn:(dg B).length=n+1):∃s,s=32-bl (dg B)[n]∧bl (dg B)[n]≤32∧s≤31∧W ^ n*2147483648≤B*2 ^ s∧B*2 ^ s<W ^ (n+1):=by
 have h0:=zacp hn
 have h1:=za44 h0
 have h2:bl (dg B)[n]≤32:=zs2 (zc1 (ok_dg B) (by omega))
 have h3:=bl_lt (dg B)[n]
 have h4:=bl_le h0
 have h5:=zub hn
 rw [vl_dg] at h5
 have h6:=vl_lt (zhh (ok_dg B) n)
 rw [List.length_take,Nat.min_eq_left (by omega)] at h6
 generalize (dg B)[n]=t at *
 refine ⟨32-bl t,rfl,h2,by omega,?_,?_⟩
 · have e1:2147483648=2 ^ (bl t-1)*2 ^ (32-bl t):=by
    rw [←Nat.pow_add,show bl t-1+(32-bl t)=31 by omega]
   rw [e1,←Nat.mul_assoc]
   refine Nat.mul_le_mul_right _ ?_
   have:=Nat.mul_le_mul_left (W ^ n) h4
   omega
 · have e1:W ^ (n+1)=W ^ n*2 ^ bl t*2 ^ (32-bl t):=by
    rw [Nat.mul_assoc,←Nat.pow_add,show bl t+(32-bl t)=32 by omega,Nat.pow_succ]; rfl
   rw [e1]
   refine Nat.mul_lt_mul_of_pos_right ?_ (Nat.two_pow_pos _)
   have:=Nat.mul_le_mul_left (W ^ n) h3
   rw [Nat.mul_succ] at this
   omega
theorem win {U U1:List Nat} {j e b Y:Nat} (hl:U1.length=U.length) (hj:j≤U.length) (ht:U1.take j=U.take j) (hv:vl U1+W ^ j*Y=vl U+W ^ (j+e)*b) :
 vl (U1.drop j)+Y=vl (U.drop j)+W ^ e*b:=by
 have h1:=zc8 hj
 have h2:=zc8 (l:=U1) (k:=j) (by omega)
 rw [ht] at h2
 rw [h1,h2,Nat.pow_add,Nat.mul_assoc] at hv
 have h3:W ^ j*(vl (U1.drop j)+Y)=W ^ j*(vl (U.drop j)+W ^ e*b):=by
  rw [Nat.mul_add,Nat.mul_add]; omega
 exact Nat.eq_of_mul_eq_mul_left (Nat.pow_pos W_pos) h3
theorem za9l {U U1:List Nat} {j e:Nat} (ok:okW U1) (hj:j+e≤U1.length) (hd:U1.drop (j+e)=U.drop (j+e)) (h0:vl (U.drop (j+e))=0):vl (U1.drop j)<W ^ e:=by
 have h1:=zc8 (l:=U1.drop j) (k:=e) (by rw [List.length_drop]; omega)
 rw [List.drop_drop,hd,h0,Nat.mul_zero,Nat.add_zero] at h1
 rw [h1]
 have h2:=vl_lt (zhh (zkr ok j) e)
 rw [List.length_take,List.length_drop,Nat.min_eq_left (by omega)] at h2
 exact h2
theorem za2a {U:List Nat} {j n:Nat} (ok:okW U) (hj:j+n+3≤U.length) (h0:vl (U.drop (j+(n+3)))=0) :
 ∃lo,lo<W ^ n∧vl (U.drop j)=((U.getD (j+(n+2)) 0*W+U.getD (j+(n+1)) 0)*W+U.getD (j+n) 0)*W ^ n+lo:=by
 have h1:=zc8 (l:=U.drop j) (k:=n+3) (by rw [List.length_drop]; omega)
 rw [List.drop_drop,h0,Nat.mul_zero,Nat.add_zero] at h1
 obtain ⟨P,lo,e1,e2,e3⟩:=top3 (l:=(U.drop j).take (n+3)) (n:=n) (zhh (zkr ok j) _) (by rw [List.length_take,List.length_drop]; omega)
 subst e1
 have g:∀i,i<n+3→((U.drop j).take (n+3)).getD i 0=U.getD (j+i) 0:=fun i hi=>by
  simp only [List.getD_eq_getElem?_getD,List.getElem?_take,hi,if_true,List.getElem?_drop]
 rw [g _ (by omega),g _ (by omega),g _ (by omega)] at e3
 exact ⟨lo,e2,h1.trans e3⟩
theorem un_le {X V P w v1 v2 un:Nat} (hX:un*w*w*P≤X) (hV:V≤(v1*w+v2+1)*P) (hlt:X<V*w) (hv2:v2<w):un≤v1:=by
 rcases Nat.lt_or_ge v1 un with h | h
 · exfalso
   have h1:v1*w+v2+1≤un*w:=by
    have:(v1+1)*w≤un*w:=Nat.mul_le_mul_right _ h
    rw [Nat.add_mul] at this; omega
   have h2:(v1*w+v2+1)*P≤un*w*P:=Nat.mul_le_mul_right _ h1
   have h3:V*w≤un*w*P*w:=Nat.mul_le_mul_right _ (Nat.le_trans hV h2)
   have h4:un*w*P*w=un*w*w*P:=by rw [Nat.mul_assoc (un*w),Nat.mul_comm P w,←Nat.mul_assoc]
   omega
 · exact h
theorem zxn {U:List Nat} {A s N n V:Nat} (hU:U.length=N+1) (hv:vl U=A*2 ^ s) (hA:A<W ^ N) (hs:s≤31) (hn:n+1≤N) (hV:W ^ n*2147483648≤V):vl (U.drop (N-n))<V:=by
 have h1:=zc8 (l:=U) (k:=N-n) (by omega)
 have h2:vl U<W ^ N*2147483648:=by
  rw [hv]
  exact Nat.mul_lt_mul_of_lt_of_le hA (Nat.pow_le_pow_right (n:=2) (by decide) hs) (by decide)
 have h3:W ^ N=W ^ (N-n)*W ^ n:=by rw [←Nat.pow_add]; congr 1; omega
 rw [h3,Nat.mul_assoc] at h2
 have h4:W ^ (N-n)*vl (U.drop (N-n))<W ^ (N-n)*V:=by
  have:=Nat.mul_le_mul_left (W ^ (N-n)) hV
  omega
 exact Nat.lt_of_mul_lt_mul_left h4
theorem ks0 {L1:List Nat} {X V qh j e:Nat} (hV:0<V) (hq:X/V≤qh) (hw:vl (L1.drop j)+qh*V=X+W ^ e*0):qh=X/V∧vl (L1.drop j)<V:=by
 rw [Nat.mul_zero,Nat.add_zero] at hw
 have h1:qh*V≤X:=by omega
 have h2:=(Nat.le_div_iff_mul_le hV).2 h1
 obtain rfl:qh=X/V:=Nat.le_antisymm h2 hq
 refine ⟨rfl,?_⟩
 have h3:=Nat.mod_add_div' X V
 have h4:=Nat.mod_lt X hV
 omega
theorem ks1 {L L1 L2:List Nat} {X V qh j e c:Nat} (hV:0<V) (hq:X/V≤qh) (hq2:qh≤X/V+1) (hX:vl (L.drop j)=X) (hl1:L1.length=L.length) (hl2:L2.length=L1.length) (hj:j≤L.length)
 (ht1:L1.take j=L.take j) (ht2:L2.take j=L1.take j) (hw:vl (L1.drop j)+qh*V=X+W ^ e*1) (hlt1:vl (L1.drop j)<W ^ e) (hlt2:vl (L2.drop j)<W ^ e) (hc:c≤1)
 (hr:vl L2+W ^ (j+e)*c=vl L1+W ^ j*V):qh=X/V+1∧vl L2+W ^ j*(X/V*V)=vl L∧vl (L2.drop j)<V:=by
 rw [Nat.mul_one] at hw
 have hmd:=Nat.div_mul_le_self X V
 have h1:qh=X/V+1:=by
  rcases Nat.lt_or_ge (X/V) qh with h | h
  · omega
  · obtain rfl:qh=X/V:=Nat.le_antisymm h hq
    omega
 subst h1
 have k0:=zc8 hj
 have k1:=zc8 (l:=L1) (k:=j) (by omega)
 have k2:=zc8 (l:=L2) (k:=j) (by omega)
 rw [hX] at k0
 rw [ht2] at k2
 rw [ht1] at k1 k2
 have h3:vl (L2.drop j)+W ^ e*c=vl (L1.drop j)+V:=by
  have e1:W ^ j*(vl (L2.drop j)+W ^ e*c)=W ^ j*(vl (L1.drop j)+V):=by
   rw [Nat.mul_add,Nat.mul_add,←Nat.mul_assoc (W ^ j),←Nat.pow_add]
   rw [k1,k2] at hr
   omega
  exact Nat.eq_of_mul_eq_mul_left (Nat.pow_pos W_pos) e1
 rw [Nat.add_mul] at hw
 have hc1:c=1:=by
  rcases Nat.eq_zero_or_pos c with h | h
  · subst h; rw [Nat.mul_zero,Nat.add_zero] at h3; omega
  · omega
 subst hc1
 have hf:vl (L2.drop j)+X/V*V=X:=by omega
 refine ⟨rfl,?_,?_⟩
 · rw [k2,k0]
   have:=congrArg (W ^ j*·) hf
   simp only [Nat.mul_add] at this
   omega
 · have h5:=Nat.mod_add_div' X V
   have h6:=Nat.mod_lt X hV
   omega
theorem zv1 {X V P v1 v2 un un1 un2:Nat} (hP:0<P) (hv1:0<v1) (hV:(v1*W+v2)*P≤V) (hX:X<((un*W+un1)*W+un2+1)*P) (hu:un2<W):X/V≤(un*W+un1)/v1:=by
 rw [Nat.le_div_iff_mul_le hv1]
 have h5:X/V*V≤X:=Nat.div_mul_le_self X V
 have h6:X/V*(v1*W*P)≤X/V*V:=Nat.mul_le_mul_left _ (Nat.le_trans (Nat.mul_le_mul_right _ (Nat.le_add_right _ v2)) hV)
 have h7:X/V*v1*(W*P)<(un*W+un1+1)*(W*P):=by
  have e1:X/V*(v1*W*P)=X/V*v1*(W*P):=by rw [Nat.mul_assoc v1,←Nat.mul_assoc]
  have e2:((un*W+un1)*W+un2+1)*P≤(un*W+un1+1)*(W*P):=by
   rw [←Nat.mul_assoc]
   refine Nat.mul_le_mul_right _ ?_
   rw [Nat.add_mul _ 1]; omega
  omega
 have:=Nat.lt_of_mul_lt_mul_right h7
 omega
theorem zzk {L:List Nat} {j V:Nat} (ok:okW L) (hj:j<L.length) (hlt:vl (L.drop (j+1))<V):vl (L.drop j)<V*W:=by
 rw [List.drop_eq_getElem_cons hj]
 simp only [vl]
 have:=zc1 ok hj
 have h5:W*(vl (L.drop (j+1))+1)≤W*V:=Nat.mul_le_mul_left _ hlt
 rw [Nat.mul_add,Nat.mul_comm W V] at h5
 omega
theorem zze {V v1 v2 lo n:Nat} (hV:W ^ (n+1)*2147483648≤V) (hV2:V=(v1*W+v2)*W ^ n+lo) (hlo:lo<W ^ n) (hv2:v2<W):W≤2*v1:=by
 have e1:W ^ (n+1)*2147483648<(v1+1)*W ^ (n+1):=by
  refine Nat.lt_of_le_of_lt hV ?_
  rw [hV2,Nat.pow_succ,Nat.add_mul,Nat.add_mul]
  have:v2*W ^ n+W ^ n≤W ^ n*W:=by
   rw [←Nat.succ_mul,Nat.mul_comm]; exact Nat.mul_le_mul_left _ hv2
  rw [Nat.mul_assoc _ W,Nat.mul_comm W]
  omega
 rw [Nat.mul_comm] at e1
 have:=Nat.lt_of_mul_lt_mul_right e1
 unfold W; omega
theorem zwr {A V s k j q:Nat} {L L2 r:List Nat} (hk:k=j+1) (hval:A*2 ^ s=V*(W ^ k*vl (r.drop k))+vl L) (hv:vl L2+W ^ j*(q*V)=vl L) (hj:j<r.length) :
 A*2 ^ s=V*(W ^ j*vl ((r.set j q).drop j))+vl L2:=by
 subst hk
 rw [List.drop_eq_getElem_cons (l:=r.set j q) (by simpa using hj),List.getElem_set_self,List.drop_set_of_lt (by omega)]
 simp only [vl]
 rw [hval,←hv,Nat.pow_succ,Nat.mul_add,Nat.mul_add,Nat.mul_assoc (W ^ j)]
 have e1:V*(W ^ j*q)=W ^ j*(q*V):=by
  rw [Nat.mul_comm V,Nat.mul_assoc]
 omega
theorem zy3 {V n:Nat} (hVl:W ^ (n+1)*2147483648≤V) (hVu:V<W ^ (n+2)):(dg V).length=n+2:=by
 have e1:=zb9.2 hVu
 have e2:W ^ (n+1)≤V:=Nat.le_trans (Nat.le_mul_of_pos_right _ (by decide)) hVl
 rcases Nat.lt_or_ge (dg V).length (n+2) with h3 | h3
 · exfalso
   have:=(zb9 (n:=V) (k:=n+1)).1 (by omega)
   omega
 · omega
end Iv
namespace Den
open Go Iv
def lenTab:ByteArray:=⟨#[0,1,2,2,3,3,3,3,4,4,4,4,4,4,4,4,5,5,5,5,5,5,5,5,5,5,5,5,5,5,5,5,6,6,6,6,6,6,6,6,6,6,6,6,6,6,6,6,6,6,6,6,6,6,6,6,6,6,6,6,6,6,6,6,7,7,7,7,7,7,7,7,7,7,7,7,7,7,7,7,7,7,7,7,7,7,7,7,7,7,7,7,7,7,7,7,7,7,7,7,7,7,7,7,7,7,7,7,7,7,7,7,7,7,7,7,7,7,7,7,7,7,7,7,7,7,7,7,8,8,8,8,8,8,8,8,8,8,8,8,8,8,8,8,8,8,8,8,8,8,8,8,8,8,8,8,8,8,8,8,8,8,8,8,8,8,8,8,8,8,8,8,8,8,8,8,8,8,8,8,8,8,8,8,8,8,8,8,8,8,8,8,8,8,8,8,8,8,8,8,8,8,8,8,8,8,8,8,8,8,8,8,8,8,8,8,8,8,8,8,8,8,8,8,8,8,8,8,8,8,8,8,8,8,8,8,8,8,8,8,8,8,8,8,8,8,8,8,8,8,8,8,8,8,8,8]⟩
theorem za30:∀i:Fin 256,(BS lenTab)[i.val]?=some (bl i.val).toUInt8:=by decide +kernel
theorem bl8:∀i:Fin 256,((bl i.val).toUInt8).toNat=bl i.val:=by decide +kernel
theorem za31 {c:Nat} {K:Int→Prop} {i:Int} (hc:c<256) (hi:i=c) (H:K ((bl c:Nat):Int)):strIdx lenTab i K:=by
 have h1:=za30 ⟨c,hc⟩
 have h2:=bl8 ⟨c,hc⟩
 simp only at h1 h2
 have hlen:c<(BS lenTab).length:=by
  rcases Nat.lt_or_ge c (BS lenTab).length with h | h
  · exact h
  · rw [List.getElem?_eq_none h] at h1; cases h1
 have h3:(BS lenTab)[c]=(bl c).toUInt8:=by
  rw [List.getElem?_eq_getElem hlen] at h1
  exact Option.some.inj h1
 refine zga (k:=c) (c:=(bl c).toUInt8) (r:=(BS lenTab).drop (c+1)) ?_ hi ?_
 · rw [List.drop_eq_getElem_cons hlen,h3]
 · rw [h2]; exact H
section
variable {h : Hp} {x y : Sl} {l m : List Nat} {Ks : Sl → Hp → Prop} {Ki : Int → Hp → Prop}
theorem za2d {t:Nat} (ht:t<W) (H:Ki ((bl t:Nat):Int) h):callP (F.zhp (t:Int)) Ki h:=by
 refine zae _ (fun K' hk=>?_) H
 unfold F.zhp
 have p8:∀n:Nat,((n:Int)).fdiv (2 ^ (min (8:Int).toNat IntKind.u32.bits))=((n/2 ^ 8:Nat):Int):=fun n=>zup (s:=8) (by omega)
 have p16:∀n:Nat,((n:Int)).fdiv (2 ^ (min (16:Int).toNat IntKind.u32.bits))=((n/2 ^ 16:Nat):Int):=fun n=>zup (s:=16) (by omega)
 refine za3 (fun s h'=>h'=h∧∃a b:Nat,s=((a:Int),(b:Int),())∧a<65536∧b≤16∧bl t=bl a+b) ?_ ?_
 · rintro _ h' ⟨rfl,a,b,rfl,ha,hb,he⟩
   refine za3 (fun s h2=>h2=h'∧∃c d:Nat,s=((c:Int),(d:Int),())∧c<256∧d≤24∧bl t=bl c+d) ?_ ?_
   · rintro _ h2 ⟨rfl,c,d,rfl,hc,hd,he2⟩
     have hbl:bl c≤32:=zs2 (by omega)
     refine za31 (c:=c) hc ?_ ?_
     · simp [IntKind.wrap,IntKind.signed,IntKind.bits]; omega
     · simp only
       rw [i64n (by omega),show (d:Int)+((bl c:Nat):Int)=((bl t:Nat):Int) by omega,i64n (by omega)]
       exact hk
   · refine za0 (fun h1=>⟨by decide,?_⟩) (fun h1=>?_)
     · have h2:a≥256:=by simp only at h1; omega
       refine ⟨by trivial,a/2 ^ 8,b+8,?_,by omega,by omega,?_⟩
       · simp only
         rw [p8,w64 (by omega)]; rfl
       · rw [he,zs3 (n:=a) (k:=8) h2]; omega
     · have h2:a<256:=by simp only at h1; omega
       exact ⟨by trivial,a,b,rfl,h2,by omega,he⟩
 · refine za0 (fun h1=>⟨by decide,?_⟩) (fun h1=>?_)
   · have h2:t≥65536:=by omega
     refine ⟨rfl,t/2 ^ 16,16,?_,by unfold W at ht; omega,by omega,?_⟩
     · rw [p16]; rfl
     · rw [zs3 (n:=t) (k:=16) h2]
   · have h2:t<65536:=by omega
     exact ⟨rfl,t,0,rfl,h2,by omega,rfl⟩
theorem zq2 {t:Nat} (ht:t<W) (hb:bl t≤32) (H:Ki ((32-bl t:Nat):Int) h):callP (F.zdg (t:Int)) Ki h:=by
 refine zae _ (fun K' hk=>?_) H
 unfold F.zdg
 refine za2d ht ?_
 rw [w64 (by omega),show (32:Int)-((bl t:Nat):Int)=((32-bl t:Nat):Int) by omega]
 exact hk
theorem za0i {n:Nat} (hx:RdW h x (dg n)) (hl:(dg n).length≤35184372088800) (H:Ki (if h0:(dg n).length=0 then 0 else ((32*((dg n).length-1)+bl (dg n)[(dg n).length-1]:Nat):Int)) h):callP (F.zia x) Ki h:=by
 refine zae _ (fun K' hk=>?_) H
 unfold F.zia
 have lx:=hx.len
 refine za7 (fun h1=>?_) (fun h1=>?_)
 · rw [dif_pos (by omega)] at hk; exact hk
 · obtain ⟨N,hN⟩:∃N,(dg n).length=N+1:=⟨(dg n).length-1,by omega⟩
   rw [dif_neg (by omega)] at hk
   have ht:=zc1 (ok_dg n) (k:=N) (by omega)
   have hbt:bl (dg n)[N]≤32:=zs2 ht
   have e1:(dg n)[(dg n).length-1]'(by omega)=(dg n)[N]'(by omega):=by congr 1; omega
   rw [e1] at hk
   refine zan N hx (by rw [lx,hN,w64 (by omega)]; omega) (by omega) fun a ha=>⟨_,ha,?_⟩
   refine zal (fun st h'=>h'=h∧∃c t:Nat,st=((c:Int),(t:Int),())∧t<W∧c+bl t=bl (dg n)[N]) (fun st=>st.2.1.toNat) ⟨rfl,0,_,rfl,ht,by omega⟩ ?_
   rintro st h' ⟨rfl,c,t,rfl,htW,he⟩
   refine za0 (fun h3=>⟨by decide,?_⟩) (fun h3=>?_)
   · simp only at h3 ⊢
     have h4:t≠0:=by omega
     have h5:=zabe h4
     have e2:((t:Int)).tdiv 2=((t/2:Nat):Int):=tdivn t 2
     rw [e2,u32lt (by omega)]
     exact ⟨⟨by trivial,c+1,t/2,by rw [w64 (by omega)]; rfl,by omega,by omega⟩,by omega⟩
   · have h4:t=0:=by simp only at h3; omega
     subst h4
     have h5:c=bl (dg n)[N]:=by rw [zabg] at he; omega
     simp only [h5]
     clear H he h5
     generalize bl (dg n)[N]=q at *
     have e3:IntKind.i64.wrap (IntKind.i64.wrap (32*IntKind.i64.wrap ((x.len:Int)-1))+((q:Nat):Int))=((32*((dg n).length-1)+q:Nat):Int):=by
      rw [lx,hN,w64 (n:=((N+1:Nat):Int)-1) (by omega),w64 (n:=32*(((N+1:Nat):Int)-1)) (by omega),w64 (by omega)]
      omega
     rw [e3]; exact hk
end
end Den
end

section
set_option maxHeartbeats 4000000
namespace Den
open Go Iv
theorem Own.some {h0 h:Hp} {x:Sl} {l:List Nat} (ho:OwnW h0 h x l) (hl:0<l.length):∃a,x.a=some a∧h0 a.block=none∧h a.block≠none:=by
 have hlen:=ho.len
 obtain ⟨h1,h2,h3,h4⟩:=ho
 cases ha:x.a with
 | none=>rw [ha] at h4; simp only at h4; omega
 | some a=>
   rw [ha] at h4
   obtain ⟨_,_,g3,b,g4,_⟩:=h4
   exact ⟨a,rfl,g3,by rw [g4]; exact fun hh=>by cases hh⟩
section
variable {h : Hp} {x y : Sl} {l m : List Nat} {Ks : Sl → Hp → Prop} {Ki : Int → Hp → Prop} {Kp : (Sl × Sl) → Hp → Prop}
theorem za7w (q:Nat):(((q+1:Nat):Int)-1)=(q:Int):=by omega
theorem ze2 {i:Int} {Ka:Addr→Prop} (k:Nat) (hr:RdW h x l) (hi:i=k) (hk:k<l.length)
 (H:∀a,h.cell a=some (.int .u32 ((l.getD k 0:Nat):Int))→Ka a):idxP x i 1 Ka:=
 zan k hr hi hk fun a ha=>H a (by rw [zgv hk]; exact ha)
theorem za4f {A B:Nat} (hx:RdW h x (dg A)) (hy:RdW h y (dg B)) (hB:B≠0) (hl:(dg A).length≤35184372088000) (hl2:(dg B).length≤35184372088000)
 (H:∀q r h',h.le h'→RdW h' q (dg (A/B))→RdW h' r (dg (A % B))→Kp (q,r) h'):F.zdz x y Kp h:=by
 unfold F.zdz
 have lx:=hx.len
 have ly:=hy.len
 refine zq9 hx hy (by omega) (by omega) ?_
 unfold cmpN
 by_cases hAB:A<B
 · rw [if_pos hAB]
   refine zbt rfl ?_
   refine zpd hx (by omega) fun z h1 hl1 hz=>H _ _ _ hl1 ?_ ?_
   · rw [Nat.div_eq_of_lt hAB,zbz]; exact RdW.nil
   · rw [Nat.mod_eq_of_lt hAB]; exact hz
 rw [if_neg hAB]
 refine zah (by split<;>rfl) ?_
 have hBl:=zdx (Nat.le_of_not_lt hAB)
 have hB0:(dg B).length≠0:=fun h0=>hB (zef.1 (List.length_eq_zero_iff.1 h0))
 refine za0 (fun h1=>?_) (fun h1=>?_)
 · refine zlm hx (ok_dg A) (by omega) fun h2 hl2=>?_
   refine zlm (hy.le hl2) (ok_dg B) (by omega) fun h3 hl3=>?_
   rw [vl_dg,vl_dg]
   have hA64:A<18446744073709551616:=by
    have:=(zb9 (n:=A) (k:=2)).1 (by omega)
    have e:W ^ 2=18446744073709551616:=by decide
    omega
   have hq:A/B≤A:=Nat.div_le_self A B
   have hr:A % B≤A:=Nat.mod_le A B
   refine ⟨by omega,by omega,?_⟩
   rw [tdivn,tmodn,u64n (by omega)]
   refine zh5 rfl (by omega) fun z h4 hl4 hz=>zh5 rfl (by omega) fun w h5 hl5 hw=>?_
   exact H _ _ _ (Hp.le_trans hl2 (Hp.le_trans hl3 (Hp.le_trans hl4 hl5))) (hz.le hl5) hw
 refine za7 (fun h2=>?_) (fun h2=>?_)
 · have hB1:=zr7 (B:=B) (by omega)
   have hBW:B<W:=by
    have:=ok_dg B B (by rw [hB1]; exact List.mem_singleton.2 rfl)
    exact this
   refine ze2 0 hy rfl (by omega) fun a ha=>⟨_,ha,?_⟩
   have e0:(dg B).getD 0 0=B:=by rw [hB1]; rfl
   rw [e0]
   refine zsw hx (ok_dg A) (Nat.pos_of_ne_zero hB) hBW (by omega) fun z w h3 hl3 hz hw=>?_
   rw [vl_dg] at hz hw
   exact H _ _ _ hl3 hz hw
 obtain ⟨n,hn⟩:∃n,(dg B).length=n+2:=⟨(dg B).length-2,by omega⟩
 obtain ⟨N,hN⟩:∃N,(dg A).length=N:=⟨_,rfl⟩
 obtain ⟨s,hs,hbl,hs31,hVl,hVu⟩:=zy4 (B:=B) (n:=n+1) hn
 refine zan (n+1) hy (by rw [ly,hn,w64 (by omega)]; omega) (by omega) fun a ha=>⟨_,ha,?_⟩
 have htW:=zc1 (ok_dg B) (k:=n+1) (by omega)
 refine zq2 htW hbl ?_
 rw [←hs]
 refine zsk hx (ok_dg A) hs31 (by omega) fun u h9 U ho9 okU hUl hUv=>?_
 rw [vl_dg] at hUv
 refine zsk (hy.le ho9.1) (ok_dg B) hs31 (by omega) fun v0 h10 V0 ho10 okV0 hV0l hV0v=>?_
 rw [vl_dg] at hV0v
 refine zu8 ho10.rdW (by omega) fun v hv hsub=>?_
 rw [zc6 okV0,hV0v] at hv
 generalize hV:B*2 ^ s=V at *
 have hVpos:0<V:=Nat.lt_of_lt_of_le (Nat.mul_pos (Nat.pow_pos W_pos) (by decide)) hVl
 have hVn:(dg V).length=n+2:=zy3 hVl hVu
 have lu:=ho9.len
 have lv:=hv.len
 have hN2:n+2≤N:=by omega
 refine zf9 (N-n-1) (N-n-1) (by rw [lu,lv,w64 (by omega)]; omega) (by rw [lu,lv,w64 (by omega)]; omega) (by omega) (by omega) fun q h12 hq ho12=>?_
 obtain ⟨a13,ha13,hb13,hc13⟩:=Own.some ho9 (by omega)
 obtain ⟨a16,ha16,hb16,hc16⟩:=Own.some ho12 (by simp; omega)
 have hlh:h.le h10:=Hp.le_trans ho9.1 ho10.1
 have hb16h:h a16.block=none:=Hp.none_of_le hlh hb16
 have ne16:a13.block≠a16.block:=fun hh=>by
  have h3:=Hp.none_of_le ho10.1 hb16
  rw [←hh] at h3; exact hc13 h3
 have hvne:∀a,v.a=some a→a.block≠a13.block∧a.block≠a16.block:=fun a ha=>by
  obtain ⟨a',h3,h4⟩:=hsub a ha
  rw [h4]
  constructor
  · exact zp8 ho9 ho10 a13 a' ha13 h3 |>.symm
  · exact zp8 ho10 ho12 a' a16 h3 ha16
 have hne13:∀a,v.a=some a→a.block≠a13.block:=fun a ha=>(hvne a ha).1
 have hne16:∀a,v.a=some a→a.block≠a16.block:=fun a ha=>(hvne a ha).2
 have hu16:∀a,u.a=some a→a.block≠a16.block:=fun a ha=>by rw [ha13] at ha; cases ha; exact ne16
 have hq13:∀a,q.a=some a→a.block≠a13.block:=fun a ha=>by rw [ha16] at ha; cases ha; exact ne16.symm
 have hou:OwnW h h12 u U:=(ho9.le ho10.1).le ho12.1
 have hoq:OwnW h h12 q (List.replicate (N-n-1) 0):=ho12.base hlh
 have hv12:RdW h12 v (dg V):=hv.le ho12.1
 obtain ⟨P,lo2,hP,hlo2,hVtop,_⟩:=top2 (ok_dg V) (n:=n) hVn
 rw [vl_dg] at hVtop
 have hv1:(dg V).getD (n+1) 0<W:=zd7 (ok_dg V) _
 have hv2:(dg V).getD n 0<W:=zd7 (ok_dg V) _
 refine ze2 (n+1) hv12 (by rw [lv,hVn,w64 (by omega)]; omega) (by omega) fun a1 ha1=>⟨_,ha1,?_⟩
 refine ze2 n hv12 (by rw [lv,hVn,w64 (by omega)]; omega) (by omega) fun a2 ha2=>⟨_,ha2,?_⟩
 generalize hgv1:(dg V).getD (n+1) 0=v1 at *
 generalize hgv2:(dg V).getD n 0=v2 at *
 subst hP
 have hv1b:W≤2*v1:=zze hVl hVtop hlo2 hv2
 have hAl:A<W ^ N:=zb9.1 (by omega)
 have hfirst:vl (U.drop (N-(n+1)))<V:=zxn (n:=n+1) (by omega) hUv hAl hs31 (by omega) hVl
 refine zal (fun st h'=>∃(k:Nat) (L r:List Nat),st=((k:Int)-1,())∧k≤N-n-1∧OwnW h h' u L∧okW L∧L.length=N+1∧OwnW h h' q r∧okW r∧r.length=N-n-1∧RdW h' v (dg V) ∧
  vl (L.drop k)<V∧A*2 ^ s=V*(W ^ k*vl (r.drop k))+vl L) (fun st=>(st.1+1).toNat)
  ⟨N-n-1,U,_,by rw [hq,w64 (by omega)],Nat.le_refl _,hou,okU,by omega,hoq,zi4 _,by simp,hv12,by rw [show N-n-1=N-(n+1) by omega]; exact hfirst,by rw [List.drop_eq_nil_of_le (by simp),hUv]; simp [vl]⟩ ?_
 rintro st h3 ⟨k,L,r,rfl,hk,hoL,okL,hLl,hor,okr,hrl,hv3,hlt,hval⟩
 have llu:=hoL.len
 have hucap:=hoL.2.2.1
 refine za0 (fun h4=>?_) (fun h4=>?_)
 · obtain ⟨j,rfl⟩:∃j,k=j+1:=⟨k-1,by have:(k:Int)-1≥0:=h4; omega⟩
   have hji:((j+1:Nat):Int)-1=(j:Int):=by omega
   have wj:IntKind.i64.wrap ((j:Int)+(v.len:Int))=((j+(n+2):Nat):Int):=by rw [lv,hVn,w64 (by omega)]; omega
   have wj1:IntKind.i64.wrap (((j+(n+2):Nat):Int)-1)=((j+(n+1):Nat):Int):=by rw [w64 (by omega)]; omega
   have wj2:IntKind.i64.wrap (((j+(n+2):Nat):Int)-2)=((j+n:Nat):Int):=by rw [w64 (by omega)]; omega
   have wj3:IntKind.i64.wrap (((j+(n+2):Nat):Int)+1)=((j+(n+2)+1:Nat):Int):=by rw [w64 (by omega)]; omega
   simp only [hji,wj,wj1,wj2,wj3]
   have hlt2:vl (L.drop (j+1))<W ^ (n+2):=Nat.lt_trans hlt hVu
   have hz0:vl (L.drop (j+(n+3)))=0:=by
    have:=znh okL hlt2
    rw [show j+1+(n+2)=j+(n+3) by omega] at this
    exact this
   obtain ⟨lo,hlo,hX⟩:=za2a (n:=n) okL (j:=j) (by omega) hz0
   have hun:L.getD (j+(n+2)) 0<W:=zd7 okL _
   have hun1:L.getD (j+(n+1)) 0<W:=zd7 okL _
   have hun2:L.getD (j+n) 0<W:=zd7 okL _
   have hXV:vl (L.drop j)<V*W:=zzk okL (by omega) hlt
   refine ze2 (j+(n+2)) hoL.rdW rfl (by omega) fun a3 ha3=>⟨_,ha3,by decide,?_⟩
   refine ze2 (j+(n+1)) hoL.rdW rfl (by omega) fun a4 ha4=>⟨_,ha4,?_⟩
   generalize hX0:vl (L.drop j)=X at *
   generalize L.getD (j+(n+2)) 0=un at *
   generalize L.getD (j+(n+1)) 0=un1 at *
   generalize hun2e:L.getD (j+n) 0=un2 at *
   have hv1p:0<v1:=by unfold W at hv1b; omega
   have hv1ne:IntKind.u64.wrap (v1:Int)≠0:=by rw [u64W hv1]; omega
   have hnum:un*W+un1<18446744073709551616:=by unfold W at *; omega
   rw [u64W hun,or32 hun hun1,u64W hv1,tdivn,tmodn,u64n (n:=(un*W+un1)/v1) (Nat.lt_of_le_of_lt (Nat.div_le_self _ _) hnum)]
   refine ⟨by omega,by omega,?_⟩
   have hPpos:0<W ^ n:=Nat.pow_pos W_pos
   have hVle:(v1*W+v2)*W ^ n≤V:=by rw [hVtop]; omega
   have hVlt:V<(v1*W+v2+1)*W ^ n:=by rw [hVtop,Nat.add_mul _ 1]; omega
   have hXle:((un*W+un1)*W+un2)*W ^ n≤X:=by omega
   have hXlt:X<((un*W+un1)*W+un2+1)*W ^ n:=by rw [Nat.add_mul _ 1]; omega
   have hunv:un≤v1:=by
    refine un_le (X:=X) (V:=V) (P:=W ^ n) (w:=W) (v1:=v1) (v2:=v2) ?_ (Nat.le_of_lt hVlt) hXV hv2
    refine Nat.le_trans (Nat.mul_le_mul_right _ ?_) hXle
    rw [Nat.add_mul]; omega
   have hqW:X/V<W:=(Nat.div_lt_iff_lt_mul hVpos).2 (by rw [Nat.mul_comm]; exact hXV)
   refine za3 (fun st h'=>h'=h3∧∃qh:Nat,st=((qh:Int),())∧qh<W∧X/V≤qh∧qh≤X/V+1) ?_ ?_
   · rintro _ h' ⟨rfl,qh,rfl,hqh,hq1,hq2⟩
     refine za3 (fun st h5=>st=(((X/V:Nat):Int),())∧∃L2,LeX a13.block h' h5∧OwnW h h5 u L2∧okW L2∧L2.length=N+1∧vl L2+W ^ j*(X/V*V)=vl L∧vl (L2.drop j)<V) ?_ ?_
     · rintro _ h5 ⟨rfl,L2,hle5,hoL2,okL2,hL2l,hv2L,hL2V⟩
       have hor5:OwnW h h5 q r:=hor.leX hle5 hb13 hq13
       refine zih j (X/V) ha16 hor5 rfl (by omega) (u32lt hqW) fun h6 hl6 ho6=>?_
       exact ⟨⟨j,L2,_,by rw [w64 (by omega)],by omega,hoL2.leX hl6 hb16h hu16,okL2,hL2l,ho6,zd0 okr hqW,by simp [hrl],(hv3.leX hle5 hne13).leX hl6 hne16,hL2V,zwr rfl hval hv2L (by omega)⟩,by rw [w64 (by omega)]; omega⟩
     · refine zu2 j (j+(n+2)+1) rfl rfl (by omega) (by omega) ?_
       refine zhx ?_
       have e0:j+(n+2)+1=j+(dg V).length+1:=by omega
       rw [e0]
       refine zadr ha13 hoL okL hv3 (ok_dg V) hne13 (by omega) hqh (by omega) fun h6 L1 b hle6 hoL1 okL1 hL1l htk hdr hb hsv=>?_
       rw [vl_dg,hVn] at hsv
       rw [hVn] at hdr
       have hwin:=win (e:=n+2+1) hL1l (by omega) htk (by rw [←Nat.add_assoc]; exact hsv)
       rw [hX0] at hwin
       have hlt1:vl (L1.drop j)<W ^ (n+2+1):=za9l okL1 (by omega) (by rw [←Nat.add_assoc]; exact hdr) hz0
       refine za7 (fun hb1=>?_) (fun hb1=>?_)
       · obtain rfl:b=1:=by omega
         refine zu2 j (j+(dg V).length+1) rfl (by rw [hVn]) (by omega) (by have:=hoL1.2.2.1; have:=hoL1.len; omega) ?_
         refine zhx ?_
         refine za3c ha13 hoL1 okL1 (hv3.leX hle6 hne13) (ok_dg V) hne13 (by omega) (by omega) fun h7 L2 c hle7 hoL2 okL2 hL2l htk2 hdr2 hc hrv=>?_
         rw [vl_dg,hVn] at hrv
         rw [hVn] at hdr2
         have hz1:vl (L1.drop (j+(n+2+1)))=0:=by rw [←Nat.add_assoc,hdr,Nat.add_assoc]; exact hz0
         have hlt2:vl (L2.drop j)<W ^ (n+2+1):=za9l okL2 (by omega) (by rw [←Nat.add_assoc]; exact hdr2) hz1
         obtain ⟨rfl,g2,g3⟩:=ks1 hVpos hq1 hq2 hX0 hL1l hL2l (by omega) htk htk2 hwin hlt1 hlt2 hc (by rw [←Nat.add_assoc]; exact hrv)
         refine ⟨?_,L2,hle6.trans hle7,hoL2,okL2,by rw [hL2l,hL1l,hLl],g2,g3⟩
         simp only
         rw [za7w,u64W hqW]
       · obtain rfl:b=0:=by omega
         obtain ⟨rfl,g2⟩:=ks0 hVpos hq1 hwin
         refine ⟨rfl,L1,hle6,hoL1,okL1,by rw [hL1l,hLl],?_,g2⟩
         rw [Nat.mul_zero,Nat.add_zero] at hsv; exact hsv
   ·
    refine zal (fun st h'=>h'=h3∧∃qh rh:Nat,st=((qh:Int),(rh:Int),())∧qh*v1+rh=un*W+un1∧rh<W∧X/V≤qh∧qh<18446744073709551616) (fun st=>st.1.toNat) ⟨rfl,_,_,rfl,by rw [Nat.mul_comm]; exact Nat.div_add_mod _ _,Nat.lt_of_lt_of_le (Nat.mod_lt _ hv1p) (Nat.le_of_lt hv1),?_,Nat.lt_of_le_of_lt (Nat.div_le_self _ _) hnum⟩ ?_
    · exact zv1 hPpos hv1p hVle hXlt hun2
    · rintro _ h' ⟨rfl,qh,rh,rfl,hqr,hrh,hq1,hq64⟩
      refine za3 (fun _ h5=>h5=h'∧X/V<qh) ?_ ?_
      · rintro _ h5 ⟨rfl,hlt5⟩
        have hqp:0<qh:=Nat.lt_of_le_of_lt (Nat.zero_le _) hlt5
        have hqm:X/V≤qh-1:=Nat.le_sub_one_of_lt hlt5
        have e1:IntKind.u64.wrap ((rh:Int)+(v1:Int))=((rh+v1:Nat):Int):=by
         rw [show (rh:Int)+(v1:Int)=((rh+v1:Nat):Int) by omega,u64n (by unfold W at *; omega)]
        have e2:IntKind.u64.wrap ((qh:Int)-1)=((qh-1:Nat):Int):=by
         rw [show (qh:Int)-1=((qh-1:Nat):Int) by omega,u64n (by omega)]
        have e3:(qh-1)*v1+(rh+v1)=un*W+un1:=by
         obtain ⟨q1,rfl⟩:∃q1,qh=q1+1:=⟨qh-1,by omega⟩
         rw [Nat.add_mul] at hqr
         simp only [Nat.add_sub_cancel]
         omega
        simp only
        rw [e1,e2]
        refine za0 (fun h6=>?_) (fun h6=>?_)
        · have h7:=ztg (w:=W) (by decide) hXle hVlt hVpos hPpos e3 rfl hv1b hunv hun1 hv2 hun2 (.inl (by unfold W; omega))
          exact ⟨by trivial,qh-1,rfl,h7.1,hqm,h7.2⟩
        · exact ⟨⟨by trivial,qh-1,rh+v1,rfl,e3,by unfold W; omega,hqm,by omega⟩,by omega⟩
      · refine za0 (fun h6=>?_) (fun h6=>?_)
        · refine ⟨by trivial,?_⟩
          simp only at h6
          exact ztf hXlt hVle hVpos hqr hXV (.inl (by unfold W; omega))
        · simp only at h6
          refine ⟨by decide,ze2 (j+n) hoL.rdW rfl (by omega) fun a5 ha5=>⟨_,ha5,?_⟩⟩
          have hqW2:qh<W:=by unfold W; omega
          have e1:IntKind.u64.wrap ((qh:Int)*IntKind.u64.wrap (v2:Int))=((qh*v2:Nat):Int):=by
           rw [u64W hv2,show (qh:Int)*(v2:Int)=((qh*v2:Nat):Int) by simp]
           refine u64n ?_
           have:qh*v2≤4294967295*4294967295:=Nat.mul_le_mul (by unfold W at *; omega) (by unfold W at *; omega)
           omega
          rw [hun2e]
          simp only
          rw [e1,or32 hrh hun2]
          refine za0 (fun h7=>?_) (fun h7=>?_)
          · refine ⟨by trivial,?_⟩
            exact ztf hXlt hVle hVpos hqr hXV (.inr (by omega))
          · have h8:=ztg (w:=W) (by decide) hXle hVlt hVpos hPpos hqr rfl hv1b hunv hun1 hv2 hun2 (.inr ⟨hqW2,by omega⟩)
            exact ⟨by trivial,qh,rfl,h8.1,hq1,h8.2⟩
 · obtain rfl:k=0:=by have:¬(k:Int)-1≥0:=h4; omega
   simp only [List.drop_zero,Nat.pow_zero,Nat.one_mul] at hlt hval
   have hVq:A/B=vl r:=by
    have h5:A*2 ^ s/(B*2 ^ s)=A/B:=Nat.mul_div_mul_right _ _ (Nat.two_pow_pos s)
    rw [hV,hval,Nat.mul_add_div hVpos,Nat.div_eq_of_lt hlt,Nat.add_zero] at h5
    exact h5.symm
   have hVr:vl L=A % B*2 ^ s:=by
    have h5:A*2 ^ s % (B*2 ^ s)=A % B*2 ^ s:=Nat.mul_mod_mul_right _ _ _
    rw [hV,hval,Nat.mul_add_mod,Nat.mod_eq_of_lt hlt] at h5
    exact h5
   refine zu2 0 (n+2) rfl (by omega) (by omega) (by omega) ?_
   have hcut:=hoL.rdW.cut 0 (n+2) (by omega) (by omega)
   rw [List.drop_zero,Nat.sub_zero] at hcut
   have hcv:vl (L.take (n+2))=vl L:=by
    have e1:=zc8 (l:=L) (k:=n+2) (by omega)
    have e2:=znh (a:=0) (b:=n+2) okL (by rw [List.drop_zero]; exact Nat.lt_trans hlt hVu)
    rw [Nat.zero_add] at e2
    rw [e2] at e1; omega
   refine zg1 hor.rdW (by omega) fun z1 hz1=>?_
   rw [zc6 okr,←hVq] at hz1
   refine zg1 hcut (by rw [List.length_take]; omega) fun z2 hz2=>?_
   rw [zc6 (zhh okL _),hcv] at hz2
   have hz2l:(dg (vl L)).length≤n+2:=zb9.2 (Nat.lt_trans hlt hVu)
   refine zaas hz2 (ok_dg _) hs31 (by omega) fun z3 h5 r3 hl5 hz3 okr3 hr3l hr3v=>?_
   rw [vl_dg,hVr,Nat.mul_div_cancel _ (Nat.two_pow_pos s)] at hr3v
   refine zg1 hz3 (by omega) fun z4 hz4=>?_
   rw [zc6 okr3,hr3v] at hz4
   exact H _ _ _ (Hp.le_trans hoL.1 hl5) (hz1.le hl5) hz4
theorem zrm {A B:Nat} (hx:RdW h x (dg A)) (hy:RdW h y (dg B)) (hB:B≠0) (hl:(dg A).length≤35184372088000) (hl2:(dg B).length≤35184372088000)
 (H:∀q r h',h.le h'→RdW h' q (dg (A/B))→RdW h' r (dg (A % B))→Kp (q,r) h'):callP (F.zdz x y) Kp h:=
 za1 (fun v h'=>RdW h' v.1 (dg (A/B))∧RdW h' v.2 (dg (A % B))) (fun K' hk=>za4f hx hy hB hl hl2 fun q r h' h1 h2 h3=>hk _ _ h1 ⟨h2,h3⟩) fun v h' h1 ⟨h2,h3⟩=>H v.1 v.2 h' h1 h2 h3
end
end Den
end

section
set_option maxHeartbeats 4000000
namespace Iv
theorem zaap {L:List Nat} {j i v:Nat}:(L.set (j+i) v).drop j=(L.drop j).set i v:=by
 rw [List.drop_set,if_neg (by omega)]
 congr 1; omega
theorem zab4 {L L2:List Nat} {X V j:Nat} (hV:0<V) (hX:vl (L.drop j)=X) (hl:L2.length=L.length) (hj:j≤L.length) (ht:L2.take j=L.take j) (h:vl (L2.drop j)=X-X/V*V) :
 vl L2+W ^ j*(X/V*V)=vl L∧vl (L2.drop j)<V:=by
 have hmd:=Nat.div_mul_le_self X V
 have h5:=Nat.mod_add_div' X V
 have h6:=Nat.mod_lt X hV
 refine ⟨?_,by omega⟩
 have k0:=zc8 hj
 have k2:=zc8 (l:=L2) (k:=j) (by omega)
 rw [hX] at k0
 rw [ht] at k2
 rw [k2,k0,h]
 have:W ^ j*(X-X/V*V)+W ^ j*(X/V*V)=W ^ j*X:=by
  rw [←Nat.mul_add]; congr 1; omega
 omega
end Iv
namespace Den
open Go Iv
section
variable {h : Hp} {x y : Sl} {l m : List Nat} {Ks : Sl → Hp → Prop} {Ki : Int → Hp → Prop} {Kp : (Sl × Sl) → Hp → Prop} {Kq : (Int × Sl) → Hp → Prop}
theorem zw0 {n X V v1 v2 un un1 un2:Nat} (hx:RdW h x l) (ol:okW l) (hll:l.length=n+3) (hlX:vl l=X) (hy:RdW h y (dg V)) (hVn:(dg V).length=n+2) (hn:n≤35184372088000)
 (eun:l.getD (n+2) 0=un) (eun1:l.getD (n+1) 0=un1) (ev1:(dg V).getD (n+1) 0=v1) (hV0:0<V) (hv1p:0<v1) (hVle:(v1*W+v2)*W ^ n≤V) (hXlt:X<((un*W+un1)*W+un2+1)*W ^ n) (hu2:un2<W) (hqW:X/V<W)
 (H:∀z h',h.le h'→RdW h' z (dg (X/V*V))→Fresh h z→Kq (((X/V:Nat):Int),z) h'):callP (F.zlb x y) Kq h:=by
 refine za1 (fun v h'=>v.1=((X/V:Nat):Int)∧RdW h' v.2 (dg (X/V*V))∧Fresh h v.2) (fun K' hk=>?_) fun ⟨v,z⟩ h' hl ⟨h1,h2,h3⟩=>by
  simp only at h1; subst h1
  exact H z h' hl h2 h3
 unfold F.zlb
 have lx:=hx.len
 have ly:=hy.len
 have hun:un<W:=by rw [←eun]; exact zd7 ol _
 have hun1:un1<W:=by rw [←eun1]; exact zd7 ol _
 have hv1:v1<W:=by rw [←ev1]; exact zd7 (ok_dg V) _
 refine ze2 (n+2) hx (by rw [ly,hVn]) (by omega) fun a1 ha1=>⟨_,ha1,by decide,?_⟩
 refine ze2 (n+1) hx (by rw [ly,hVn,w64 (by omega)]; omega) (by omega) fun a2 ha2=>⟨_,ha2,?_⟩
 refine ze2 (n+1) hy (by rw [ly,hVn,w64 (by omega)]; omega) (by omega) fun a3 ha3=>⟨_,ha3,?_⟩
 rw [eun,eun1,ev1]
 have hnum:un*W+un1<18446744073709551616:=by unfold W at *; omega
 simp only
 rw [u64W hun,or32 hun hun1,u64W hv1,tdivn,u64n (n:=(un*W+un1)/v1) (Nat.lt_of_le_of_lt (Nat.div_le_self _ _) hnum)]
 refine ⟨by omega,?_⟩
 have hfe:=zv1 (Nat.pow_pos W_pos) hv1p hVle hXlt hu2
 refine za3 (fun st h'=>h'=h∧∃e:Nat,st=((e:Int),())∧e<W∧X/V≤e) ?_ ?_
 · rintro _ h' ⟨rfl,e,rfl,heW,hqe⟩
   simp only
   rw [u32lt heW]
   refine zhg (n:=1) (size:=1) rfl fun b h2 hb ho=>?_
   have ho':OwnW h' h2 ⟨some ⟨b,0,none⟩,1,1⟩ [e]:=ho
   refine zqt (hy.le ho.1) ho'.rdW (ok_dg V) (fun d hd=>by rw [List.mem_singleton.1 hd]; exact heW) (by simp; omega) fun z h3 hl3 hz hf=>?_
   rw [vl_dg] at hz
   have ez:V*vl [e]=e*V:=by simp [vl,Nat.mul_comm]
   rw [ez] at hz
   refine zal (fun st h4=>∃(e:Nat) (z:Sl),st=((e:Int),z,())∧e<W∧X/V≤e∧h'.le h4∧RdW h4 z (dg (e*V))∧Fresh h' z) (fun st=>st.1.toNat) ⟨e,z,rfl,heW,hqe,Hp.le_trans ho.1 hl3,hz,hf.le ho.1⟩ ?_
   rintro _ h4 ⟨e,z,rfl,heW,hqe,hl4,hz,hf⟩
   refine zdl (hx.le hl4) (by omega) fun w hw=>?_
   rw [zc6 ol,hlX] at hw
   have hXl:(dg X).length≤n+3:=zb9.2 (by rw [←hlX,←hll]; exact vl_lt ol)
   have heVl:(dg (e*V)).length≤n+3:=by
    refine zb9.2 ?_
    have h5:V<W ^ (n+2):=by rw [←hVn]; exact zb9.1 (Nat.le_refl _)
    rw [Nat.pow_succ,Nat.mul_comm]
    exact Nat.mul_lt_mul'' h5 heW
   refine zjb hw hz (by omega) (by omega) ?_
   unfold cmpN
   by_cases hc:X<e*V
   · rw [if_pos hc]
     refine zbt rfl ?_
     have hlt:X/V<e:=(Nat.div_lt_iff_lt_mul hV0).2 hc
     have hep:0<e:=Nat.lt_of_le_of_lt (Nat.zero_le _) hlt
     have hVe:V≤e*V:=Nat.le_mul_of_pos_left _ hep
     refine znb hz (hy.le hl4) (ok_dg _) (ok_dg V) (by omega) (zdx hVe) (by rw [vl_dg,vl_dg]; exact hVe) fun z2 h5 hl5 hz2 hf2=>?_
     rw [vl_dg,vl_dg] at hz2
     have e6:e*V-V=(e-1)*V:=by rw [Nat.sub_mul,Nat.one_mul]
     rw [e6] at hz2
     have e7:IntKind.u64.wrap ((e:Int)-1)=((e-1:Nat):Int):=by
      rw [show (e:Int)-1=((e-1:Nat):Int) by omega,u64W (by omega)]
     simp only
     rw [e7]
     exact ⟨⟨e-1,z2,rfl,by omega,Nat.le_sub_one_of_lt hlt,Hp.le_trans hl4 hl5,hz2,hf2.le hl4⟩,by omega⟩
   · rw [if_neg hc]
     refine zah (by split<;>rfl) ?_
     have h5:e*V≤X:=Nat.le_of_not_lt hc
     have h6:=(Nat.le_div_iff_mul_le hV0).2 h5
     have h7:e=X/V:=Nat.le_antisymm h6 hqe
     simp only
     rw [h7] at hz ⊢
     exact hk _ _ hl4 ⟨u32lt hqW,hz,hf⟩
 · refine za0 (fun h1=>?_) (fun h1=>?_)
   · exact ⟨rfl,4294967295,rfl,by decide,by unfold W at hqW; exact Nat.le_of_lt_succ hqW⟩
   · have h2:(un*W+un1)/v1≤4294967295:=by
      clear H hfe hXlt hVle hqW
      generalize (un*W+un1)/v1=z at *
      omega
     exact ⟨rfl,_,rfl,Nat.lt_of_le_of_lt h2 (by decide),hfe⟩
theorem zxx {n N:Nat} (hx:RdW h x (dg n)) (hN:(dg n).length=N+1) (hl:(dg n).length≤35184372088800) (H:Ki ((32*N+bl ((dg n)[N]'(by omega)):Nat):Int) h):callP (F.zia x) Ki h:=by
 refine za0i hx hl ?_
 rw [dif_neg (by omega)]
 have e1:(dg n)[(dg n).length-1]'(by omega)=(dg n)[N]'(by omega):=by congr 1; omega
 rw [e1]
 have e2:(dg n).length-1=N:=by omega
 generalize hq:bl ((dg n)[N]'(by omega))=q at *
 rw [e2]; exact H
theorem za3b {A B:Nat} (hx:RdW h x (dg A)) (hy:RdW h y (dg B)) (hB:B≠0) (hl:(dg A).length≤35184372088000) (hl2:(dg B).length≤35184372088000)
 (H:∀q r h',h.le h'→RdW h' q (dg (A/B))→RdW h' r (dg (A % B))→Kp (q,r) h'):F.zgf x y Kp h:=by
 unfold F.zgf
 have lx:=hx.len
 have ly:=hy.len
 refine zjb hx hy (by omega) (by omega) ?_
 unfold cmpN
 by_cases hAB:A<B
 · rw [if_pos hAB]
   refine zbt rfl ?_
   refine H _ _ _ (Hp.le_refl _) ?_ ?_
   · rw [Nat.div_eq_of_lt hAB,zbz]; exact RdW.nil
   · rw [Nat.mod_eq_of_lt hAB]; exact hx
 rw [if_neg hAB]
 refine zah (by split<;>rfl) ?_
 have hBl:=zdx (Nat.le_of_not_lt hAB)
 have hB0:(dg B).length≠0:=fun h0=>hB (zef.1 (List.length_eq_zero_iff.1 h0))
 refine za0 (fun h1=>?_) (fun h1=>?_)
 · refine zu1 hx (ok_dg A) (by omega) (zu1 hy (ok_dg B) (by omega) ?_)
   rw [vl_dg,vl_dg]
   have hA64:A<18446744073709551616:=by
    have:=(zb9 (n:=A) (k:=2)).1 (by omega)
    have e:W ^ 2=18446744073709551616:=by decide
    omega
   have hq:A/B≤A:=Nat.div_le_self A B
   have hr:A % B≤A:=Nat.mod_le A B
   refine ⟨by omega,by omega,?_⟩
   rw [tdivn,tmodn,u64n (by omega)]
   refine zkk rfl (by omega) fun z h4 hl4 hz=>zkk rfl (by omega) fun w h5 hl5 hw=>?_
   exact H _ _ _ (Hp.le_trans hl4 hl5) (hz.le hl5) hw
 refine za7 (fun h2=>?_) (fun h2=>?_)
 · have hB1:=zr7 (B:=B) (by omega)
   have hBW:B<W:=ok_dg B B (by rw [hB1]; exact List.mem_singleton.2 rfl)
   refine ze2 0 hy rfl (by omega) fun a ha=>⟨_,ha,?_⟩
   have e0:(dg B).getD 0 0=B:=by rw [hB1]; rfl
   rw [e0]
   refine za19 hx (ok_dg A) (Nat.pos_of_ne_zero hB) hBW (by omega) fun z h3 hl3 hz=>?_
   rw [vl_dg] at hz ⊢
   have:=Nat.mod_lt A (Nat.pos_of_ne_zero hB)
   simp only
   rw [u64W (Nat.lt_trans this hBW)]
   refine zkk rfl (by unfold W at hBW; omega) fun w h5 hl5 hw=>H _ _ _ (Hp.le_trans hl3 hl5) (hz.le hl5) hw
 obtain ⟨n,hn⟩:∃n,(dg B).length=n+2:=⟨(dg B).length-2,by omega⟩
 obtain ⟨N,hN⟩:∃N,(dg A).length=N:=⟨_,rfl⟩
 obtain ⟨s,hs,hbl,hs31,hVl,hVu⟩:=zy4 (B:=B) (n:=n+1) hn
 refine zxx hy hn (by omega) ?_
 have es:IntKind.i64.wrap (IntKind.i64.wrap (32*(y.len:Int))-((32*(n+1)+bl (dg B)[n+1]:Nat):Int))=(s:Int):=by
  rw [hs]
  generalize bl (dg B)[n+1]=z at *
  rw [ly,hn,w64 (n:=32*((n+2:Nat):Int)) (by omega),w64 (by omega)]
  omega
 rw [es]
 refine zvn hx (ok_dg A) hs31 (by omega) fun u h9 U ho9 okU hUl hUv=>?_
 rw [vl_dg] at hUv
 refine zvn (hy.le ho9.1) (ok_dg B) hs31 (by omega) fun v0 h10 V0 ho10 okV0 hV0l hV0v=>?_
 rw [vl_dg] at hV0v
 refine zod ho10.rdW (by omega) fun v hv hsub=>?_
 rw [zc6 okV0,hV0v] at hv
 generalize hV:B*2 ^ s=V at *
 have hVpos:0<V:=Nat.lt_of_lt_of_le (Nat.mul_pos (Nat.pow_pos W_pos) (by decide)) hVl
 have hVn:(dg V).length=n+2:=zy3 hVl hVu
 have lu:=ho9.len
 have lv:=hv.len
 have hN2:n+2≤N:=by omega
 refine zf9 N N (by omega) (by omega) (by omega) (by omega) fun q h12 hq ho12=>?_
 obtain ⟨a13,ha13,hb13,hc13⟩:=Own.some ho9 (by omega)
 obtain ⟨a16,ha16,hb16,hc16⟩:=Own.some ho12 (by simp; omega)
 have hlh:h.le h10:=Hp.le_trans ho9.1 ho10.1
 have hb16h:h a16.block=none:=Hp.none_of_le hlh hb16
 have ne16:a13.block≠a16.block:=fun hh=>by
  have h3:=Hp.none_of_le ho10.1 hb16
  rw [←hh] at h3; exact hc13 h3
 have hvne:∀a,v.a=some a→a.block≠a13.block∧a.block≠a16.block:=fun a ha=>by
  obtain ⟨a',h3,h4⟩:=hsub a ha
  rw [h4]
  constructor
  · exact zp8 ho9 ho10 a13 a' ha13 h3 |>.symm
  · exact zp8 ho10 ho12 a' a16 h3 ha16
 have hne13:∀a,v.a=some a→a.block≠a13.block:=fun a ha=>(hvne a ha).1
 have hne16:∀a,v.a=some a→a.block≠a16.block:=fun a ha=>(hvne a ha).2
 have hu16:∀a,u.a=some a→a.block≠a16.block:=fun a ha=>by rw [ha13] at ha; cases ha; exact ne16
 have hq13:∀a,q.a=some a→a.block≠a13.block:=fun a ha=>by rw [ha16] at ha; cases ha; exact ne16.symm
 have hou:OwnW h h12 u U:=(ho9.le ho10.1).le ho12.1
 have hoq:OwnW h h12 q (List.replicate N 0):=ho12.base hlh
 have hv12:RdW h12 v (dg V):=hv.le ho12.1
 obtain ⟨P,lo2,hP,hlo2,hVtop,_⟩:=top2 (ok_dg V) (n:=n) hVn
 rw [vl_dg] at hVtop
 have hv1:(dg V).getD (n+1) 0<W:=zd7 (ok_dg V) _
 have hv2:(dg V).getD n 0<W:=zd7 (ok_dg V) _
 generalize hgv1:(dg V).getD (n+1) 0=v1 at *
 generalize hgv2:(dg V).getD n 0=v2 at *
 subst hP
 have hv1b:W≤2*v1:=zze hVl hVtop hlo2 hv2
 have hAl:A<W ^ N:=zb9.1 (by omega)
 have hfirst:vl (U.drop (N-(n+1)))<V:=zxn (n:=n+1) (by omega) hUv hAl hs31 (by omega) hVl
 refine zal (fun st h'=>∃(k:Nat) (L r:List Nat),st=((k:Int)-1,())∧k≤N-n-1∧OwnW h h' u L∧okW L∧L.length=N+1∧OwnW h h' q r∧okW r∧r.length=N∧RdW h' v (dg V)∧h' a13.block≠none∧h' a16.block≠none ∧
  vl (L.drop k)<V∧A*2 ^ s=V*(W ^ k*vl (r.drop k))+vl L) (fun st=>(st.1+1).toNat)
  ⟨N-n-1,U,_,by rw [lv,hVn,lx,hN,w64 (by omega)]; congr 1; omega,Nat.le_refl _,hou,okU,by omega,hoq,zi4 _,by simp,hv12,?_,hc16,by rw [show N-n-1=N-(n+1) by omega]; exact hfirst,by rw [List.drop_replicate,zzi,hUv]; simp⟩ ?_
 · have:h9.le h12:=Hp.le_trans ho10.1 ho12.1
   intro hh; exact hc13 (Hp.none_of_le this hh)
 rintro st h3 ⟨k,L,r,rfl,hk,hoL,okL,hLl,hor,okr,hrl,hv3,hn13,hn16,hlt,hval⟩
 have llu:=hoL.len
 have hucap:=hoL.2.2.1
 refine za0 (fun h4=>?_) (fun h4=>?_)
 · obtain ⟨j,rfl⟩:∃j,k=j+1:=⟨k-1,by have:(k:Int)-1≥0:=h4; omega⟩
   have hji:((j+1:Nat):Int)-1=(j:Int):=by omega
   have wj:IntKind.i64.wrap ((j:Int)+(v.len:Int))=((j+(n+2):Nat):Int):=by rw [lv,hVn,w64 (by omega)]; omega
   have wj3:IntKind.i64.wrap (((j+(n+2):Nat):Int)+1)=((j+(n+3):Nat):Int):=by rw [w64 (by omega)]; omega
   simp only [hji,wj,wj3]
   have hlt2:vl (L.drop (j+1))<W ^ (n+2):=Nat.lt_trans hlt hVu
   have hz0:vl (L.drop (j+(n+3)))=0:=by
    have:=znh okL hlt2
    rw [show j+1+(n+2)=j+(n+3) by omega] at this
    exact this
   obtain ⟨lo,hlo,hX⟩:=za2a (n:=n) okL (j:=j) (by omega) hz0
   have hun2:L.getD (j+n) 0<W:=zd7 okL _
   have hXV:vl (L.drop j)<V*W:=zzk okL (by omega) hlt
   have hwX:vl ((L.drop j).take (n+3))=vl (L.drop j):=by
    have e1:=zc8 (l:=L.drop j) (k:=n+3) (by rw [List.length_drop]; omega)
    rw [List.drop_drop,hz0] at e1; omega
   have hg:∀i,i<n+3→((L.drop j).take (n+3)).getD i 0=L.getD (j+i) 0:=fun i hi=>by
    simp only [List.getD_eq_getElem?_getD,List.getElem?_take,hi,if_true,List.getElem?_drop]
   have hcut:=hoL.rdW.cut j (j+(n+3)) (by omega) (by omega)
   rw [show j+(n+3)-j=n+3 by omega] at hcut
   refine zu2 j (j+(n+3)) rfl rfl (by omega) (by omega) ?_
   generalize hX0:vl (L.drop j)=X at *
   have hv1p:0<v1:=by unfold W at hv1b; omega
   have hVle:(v1*W+v2)*W ^ n≤V:=by rw [hVtop]; omega
   have hXlt:X<((L.getD (j+(n+2)) 0*W+L.getD (j+(n+1)) 0)*W+L.getD (j+n) 0+1)*W ^ n:=by rw [Nat.add_mul _ 1]; omega
   have hqW:X/V<W:=(Nat.div_lt_iff_lt_mul hVpos).2 (by rw [Nat.mul_comm]; exact hXV)
   have hwl:((L.drop j).take (n+3)).length=n+3:=by rw [List.length_take,List.length_drop]; omega
   refine zw0 (X:=X) hcut (zhh (zkr okL _) _) hwl hwX hv3 hVn (by omega) (hg _ (by omega)) (hg _ (by omega)) hgv1 hVpos hv1p hVle hXlt hun2 hqW fun z h5 hl5 hz hfz=>?_
   have hoL5:OwnW h h5 u L:=hoL.le hl5
   have hor5:OwnW h h5 q r:=hor.le hl5
   have hz16:=hfz.ne hn16
   refine zih j (X/V) ha16 hor5 rfl (by omega) rfl fun h6 hl6 hor6=>?_
   have hoL6:OwnW h h6 u L:=hoL5.leX hl6 hb16h hu16
   have hcut6:=hoL6.rdW.cut j (j+(n+3)) (by omega) (by omega)
   rw [show j+(n+3)-j=n+3 by omega] at hcut6
   have hz6:=hz.leX hl6 hz16
   have hn13':h6 a13.block≠none:=by
    cases hh:h5 a13.block with
    | none=>exact absurd (Hp.none_of_le hl5 hh) hn13
    | some B2=>rw [hl6 _ _ ne16 hh]; exact fun e=>by cases e
   refine zdl hcut6 (by rw [hwl]; omega) fun w hw=>?_
   rw [zc6 (zhh (zkr okL _) _),hwX] at hw
   have hXl:(dg X).length≤n+3:=zb9.2 (by have:=vl_lt (zhh (zkr okL j) (n+3)); rw [hwX,hwl] at this; exact this)
   have hmd:=Nat.div_mul_le_self X V
   refine znb hw hz6 (ok_dg X) (ok_dg _) (by omega) (zdx hmd) (by rw [vl_dg,vl_dg]; exact hmd) fun r21 h7 hl7 hr21 hf21=>?_
   rw [vl_dg,vl_dg] at hr21
   have hoL7:OwnW h h7 u L:=hoL6.le hl7
   have hne21:=hf21.ne hn13'
   have h21l:(dg (X-X/V*V)).length≤n+3:=by have:=zdx (Nat.sub_le X (X/V*V)); omega
   have l21:=hr21.len
   refine zal (fun st h'=>∃(i:Nat) (L':List Nat),st=((i:Int),())∧i≤n+3∧LeX a13.block h7 h'∧OwnW h h' u L'∧okW L'∧L'.length=N+1∧L'.take j=L.take j∧L'.drop (j+(n+3))=L.drop (j+(n+3)) ∧
    vl ((L'.drop j).take i)=vl ((dg (X-X/V*V)).take i)) (fun st=>((n+3:Nat)-st.1).toNat) ⟨0,L,rfl,Nat.zero_le _,LeX.refl,hoL7,okL,hLl,rfl,rfl,by simp [vl]⟩ ?_
   rintro st h8 ⟨i,L',rfl,hi,hle8,hoL8,okL8,hL8l,ht8,hd8,hv8⟩
   have lc8:(u.cut j (j+(n+3)) 1).len=n+3:=by show j+(n+3)-j=n+3; omega
   have llu8:=hoL8.len
   have hucap8:=hoL8.2.2.1
   refine za0 (fun h9=>?_) (fun h9=>?_)
   · have hi':i<n+3:=by have:(i:Int)<((u.cut j (j+(n+3)) 1).len:Int):=h9; rw [lc8] at this; omega
     have hgw:=zd7 (ok_dg (X-X/V*V)) i
     refine za3 (fun _ h'=>LeX a13.block h7 h'∧OwnW h h' u (L'.set (j+i) ((dg (X-X/V*V)).getD i 0))) ?_ ?_
     · rintro _ h' ⟨hle9,hoL9⟩
       refine ⟨⟨i+1,_,by rw [w64 (by simp only; omega)]; rfl,by omega,hle9,hoL9,zd0 okL8 hgw,by simp [hL8l],by rw [zlz (by omega)]; exact ht8,by rw [zly (by omega)]; exact hd8,?_⟩,by simp only; rw [w64 (by omega)]; omega⟩
       rw [zaap,zf5 (by rw [List.length_drop]; omega),zij,hv8]
     · refine zg4 rfl (by omega) (by omega) (zih (j+i) 0 ha13 hoL8 rfl (by omega) rfl fun h10 hl10 ho10'=>?_)
       refine za0 (fun h11=>?_) (fun h11=>?_)
       · have hi2:i<(dg (X-X/V*V)).length:=by have:(i:Int)<(r21.len:Int):=h11; omega
         refine ze2 i ((hr21.leX hle8 hne21).leX hl10 hne21) rfl hi2 fun a5 ha5=>⟨_,ha5,?_⟩
         refine zg4 rfl (by omega) (by omega) (zih (j+i) _ ha13 ho10' rfl (by simp; omega) rfl fun h12 hl12 ho12'=>⟨(hle8.trans hl10).trans hl12,?_⟩)
         rw [List.set_set] at ho12'
         exact ho12'
       · have hi2:(dg (X-X/V*V)).length≤i:=by have:¬(i:Int)<(r21.len:Int):=h11; omega
         rw [zfu hi2]
         exact ⟨hle8.trans hl10,ho10'⟩
   · have hi':i=n+3:=by have:¬(i:Int)<((u.cut j (j+(n+3)) 1).len:Int):=h9; rw [lc8] at this; omega
     subst hi'
     rw [List.take_of_length_le h21l,vl_dg] at hv8
     have hv9:vl (L'.drop j)=X-X/V*V:=by
      have e1:=zc8 (l:=L'.drop j) (k:=n+3) (by rw [List.length_drop]; omega)
      rw [List.drop_drop,hd8,hz0] at e1
      omega
     obtain ⟨g2,g3⟩:=zab4 hVpos hX0 (by omega) (by omega) ht8 hv9
     have hn13'':h8 a13.block≠none:=by
      obtain ⟨a,e1,_,e3⟩:=Own.some hoL8 (by omega)
      rw [ha13] at e1; cases e1; exact e3
     have hor8:OwnW h h8 q (r.set j (X/V)):=(hor6.le hl7).leX hle8 hb13 hq13
     have hn16':h8 a16.block≠none:=by
      obtain ⟨a,e1,_,e3⟩:=Own.some hor8 (by simp; omega)
      rw [ha16] at e1; cases e1; exact e3
     exact ⟨⟨j,L',_,by rw [w64 (by omega)],by omega,hoL8,okL8,hL8l,hor8,zd0 okr hqW,by simp [hrl],(((hv3.le hl5).leX hl6 hne16).le hl7).leX hle8 hne13,hn13'',hn16',g3,zwr rfl hval g2 (by omega)⟩,by rw [w64 (by omega)]; omega⟩
 · obtain rfl:k=0:=by have:¬(k:Int)-1≥0:=h4; omega
   simp only [List.drop_zero,Nat.pow_zero,Nat.one_mul] at hlt hval
   have hVq:A/B=vl r:=by
    have h5:A*2 ^ s/(B*2 ^ s)=A/B:=Nat.mul_div_mul_right _ _ (Nat.two_pow_pos s)
    rw [hV,hval,Nat.mul_add_div hVpos,Nat.div_eq_of_lt hlt,Nat.add_zero] at h5
    exact h5.symm
   have hVr:vl L=A % B*2 ^ s:=by
    have h5:A*2 ^ s % (B*2 ^ s)=A % B*2 ^ s:=Nat.mul_mod_mul_right _ _ _
    rw [hV,hval,Nat.mul_add_mod,Nat.mod_eq_of_lt hlt] at h5
    exact h5
   refine zdl hor.rdW (by omega) fun z1 hz1=>?_
   rw [zc6 okr,←hVq] at hz1
   refine zdl hoL.rdW (by omega) fun z2 hz2=>?_
   rw [zc6 okL] at hz2
   have hz2l:(dg (vl L)).length≤n+2:=zb9.2 (Nat.lt_trans hlt hVu)
   refine za42 hz2 (ok_dg _) hs31 (by omega) fun z3 h5 hl5 hz3=>?_
   rw [vl_dg,hVr,Nat.mul_div_cancel _ (Nat.two_pow_pos s)] at hz3
   exact H _ _ _ (Hp.le_trans hoL.1 hl5) (hz1.le hl5) hz3
theorem zqq {A B:Nat} (hx:RdW h x (dg A)) (hy:RdW h y (dg B)) (hB:B≠0) (hl:(dg A).length≤35184372088000) (hl2:(dg B).length≤35184372088000)
 (H:∀q r h',h.le h'→RdW h' q (dg (A/B))→RdW h' r (dg (A % B))→Kp (q,r) h'):callP (F.zgf x y) Kp h:=
 za1 (fun v h'=>RdW h' v.1 (dg (A/B))∧RdW h' v.2 (dg (A % B))) (fun K' hk=>za3b hx hy hB hl hl2 fun q r h' h1 h2 h3=>hk _ _ h1 ⟨h2,h3⟩) fun v h' h1 ⟨h2,h3⟩=>H v.1 v.2 h' h1 h2 h3
end
end Den
end

section
namespace Den
open Go Iv
theorem zxv {P:Nat→Prop} (h:∃n,P n):∃n,P n∧∀m,P m→n≤m:=by
 obtain ⟨n,hn⟩:=h
 induction n using Nat.strongRecOn with
 | _ n ih=>
   by_cases hm:∃m,m<n∧P m
   · obtain ⟨m,h1,h2⟩:=hm
     exact ih m h1 h2
   · exact ⟨n,hn,fun m h2=>by
      rcases Nat.lt_or_ge m n with h3 | h3
      · exact absurd ⟨m,h3,h2⟩ hm
      · exact h3⟩
open Classical in
noncomputable def leastN (P:Nat→Prop):Nat:=if h:∃n,P n then Classical.choose (zxv h) else 0
theorem zrt {P:Nat→Prop} {n:Nat} (h:P n):P (leastN P)∧leastN P≤n:=by
 have h1:∃n,P n:=⟨n,h⟩
 unfold leastN
 rw [dif_pos h1]
 have:=Classical.choose_spec (zxv h1)
 exact ⟨this.1,this.2 n h⟩
theorem zxy {S:Type} {body:S→(S→Hp→Prop)→Hp→Prop} {s0:S} {h0:Hp} (I:Nat→S→Hp→Prop) (n0:Nat) (h1:I n0 s0 h0)
 (h2:∀n s h,I n s h→∀K:S→Hp→Prop,(∀s' h' n',n'<n→I n' s' h'→K s' h')→body s K h):loopP body s0 h0:=by
 refine ⟨fun s h=>∃n,I n s h,fun s h=>leastN fun n=>I n s h,⟨n0,h1⟩,fun s h ⟨n,hI⟩=>?_⟩
 have h3:=zrt (P:=fun n=>I n s h) hI
 refine h2 _ s h h3.1 _ fun s' h' n' hn hI'=>⟨⟨n',hI'⟩,?_⟩
 have h4:=zrt (P:=fun n=>I n s' h') hI'
 exact Nat.lt_of_le_of_lt h4.2 hn
section
variable {h : Hp} {x y : Sl} {l : List Nat} {m n : Int} {a b : TInt} {Ks : Sl → Hp → Prop} {Ki : Int → Hp → Prop} {Kb : Bool → Hp → Prop} {KI : TInt → Hp → Prop} {KP : (TInt × TInt × Int) → Hp → Prop}
theorem zs7 (x y:Nat):Nat.gcd y (x % y)=Nat.gcd x y:=by
 rw [Nat.gcd_comm x y,Nat.gcd_rec y x,Nat.gcd_comm]
theorem zuu (ha:NI h a m) (hb:NI h b n) (om:(dg m.natAbs).length≤35184372087808) (on:(dg n.natAbs).length≤35184372087808) (H:∀z h',h.le h'→NI h' z (Nat.gcd m.natAbs n.natAbs:Nat)→KI z h'):callP (F.zhe a b) KI h:=by
 refine za1 _ (fun K' hk=>?_) H
 unfold F.zhe
 refine zoh ha om fun x hx=>zoh hb on fun y hy=>?_
 have om':=om
 have on':=on
 refine za3 (fun st h'=>h.le h'∧∃A B:Nat,RdW h' st.1 (dg A)∧RdW h' st.2.1 (dg B)∧(dg A).length≤35184372087808∧Nat.gcd A B=Nat.gcd m.natAbs n.natAbs∧(dg B).length≤2∧(B≠0→(dg A).length≤2)) ?_ ?_
 · rintro ⟨x,y,_⟩ h1 ⟨hl1,A,B,hA,hB,hAl,hg,hB2,hA2⟩
   simp only at hA hB ⊢
   have lB:=hB.len
   refine za7 (fun h2=>?_) (fun h2=>?_)
   · have hB0:B=0:=zef.1 (List.length_eq_zero_iff.1 (by omega))
     subst hB0
     rw [Nat.gcd_zero_right] at hg
     refine zpd hA (by omega) fun z h3 hl3 hz=>zig hz (by omega) fun w hw=>hk _ _ (Hp.le_trans hl1 hl3) ?_
     rw [←hg]
     exact hw
   · have hB0:B≠0:=fun h0=>h2 (by rw [lB,h0,zbz]; rfl)
     have hA2':=hA2 hB0
     refine zlm hA (ok_dg A) hA2' fun h3 hl3=>zlm (hB.le hl3) (ok_dg B) hB2 fun h4 hl4=>?_
     rw [vl_dg,vl_dg]
     have lt2:∀{n:Nat},(dg n).length≤2→n<18446744073709551616:=fun hn=>by
      have:=(zb9 (k:=2)).1 hn
      have e:W ^ 2=18446744073709551616:=by decide
      omega
     refine zal (fun st h'=>h.le h'∧∃A B:Nat,st=((A:Int),(B:Int),())∧A<18446744073709551616∧B<18446744073709551616∧Nat.gcd A B=Nat.gcd m.natAbs n.natAbs) (fun st=>st.2.1.toNat)
      ⟨Hp.le_trans hl1 (Hp.le_trans hl3 hl4),A,B,rfl,lt2 hA2',lt2 hB2,hg⟩ ?_
     rintro _ h5 ⟨hl5,A,B,rfl,hA3,hB3,hg3⟩
     refine zax (fun h6=>⟨h6,?_⟩) (fun h6=>?_)
     · have hB4:B≠0:=fun h0=>h6 (by rw [h0]; rfl)
       have:=Nat.mod_lt A (Nat.pos_of_ne_zero hB4)
       simp only
       rw [tmodn]
       exact ⟨⟨hl5,B,A % B,rfl,hB3,by omega,by rw [zs7]; exact hg3⟩,by omega⟩
     · have hB4:B=0:=by simp only at h6; omega
       subst hB4
       rw [Nat.gcd_zero_right] at hg3
       have:=dg2 hA3
       refine zh5 rfl hA3 fun z h7 hl7 hz=>zig hz (by omega) fun w hw=>hk _ _ (Hp.le_trans hl5 hl7) ?_
       rw [←hg3]
       exact hw
 · refine zxy (fun N st h'=>h.le h'∧∃A:Nat,RdW h' st.1 (dg A)∧RdW h' st.2.1 (dg N)∧(dg A).length≤35184372087808∧(dg N).length≤35184372087808∧Nat.gcd A N=Nat.gcd m.natAbs n.natAbs) n.natAbs
    ⟨Hp.le_refl _,m.natAbs,hx,hy,om',on',rfl⟩ ?_
   rintro B ⟨x,y,_⟩ h1 ⟨hl1,A,hA,hB,hAl,hBl,hg⟩ K hK
   simp only at hA hB ⊢
   have lA:=hA.len
   have lB:=hB.len
   have step:B≠0→callP (F.zdz x y) (fun r17 h13=>K (y,r17.2,()) h13) h1:=fun hB0=>by
    refine zrm hA hB hB0 (by omega) (by omega) fun q r h2 hl2 hq hr=>?_
    have:=Nat.mod_lt A (Nat.pos_of_ne_zero hB0)
    exact hK _ _ (A % B) this ⟨Hp.le_trans hl1 hl2,B,hB.le hl2,hr,hBl,by have:=zdx (Nat.le_of_lt this); omega,by rw [zs7]; exact hg⟩
   have hB0:0<y.len→B≠0:=fun h0 hh=>by rw [lB,hh,zbz] at h0; exact absurd h0 (by decide)
   refine zxt ?_
   refine za0 (fun h2=>step (hB0 (by omega))) (fun h2=>za0 (fun h3=>za0 (fun h4=>step (hB0 (by omega))) (fun h4=>?_)) (fun h3=>?_))
   · exact ⟨hl1,A,B,hA,hB,hAl,hg,by omega,fun h5=>absurd (zef.1 (List.length_eq_zero_iff.1 (by omega))) h5⟩
   · exact ⟨hl1,A,B,hA,hB,hAl,hg,by omega,fun _=>by omega⟩
theorem za9r (ha:NI h a m) (hb:NI h b n) (om:Ok m) (on:Ok n) (H:∀z h',h.le h'→NI h' z (Nat.gcd m.natAbs n.natAbs:Nat)→KI z h'):callP (F.zhe a b) KI h:=
 zuu ha hb (Nat.le_trans om (by decide)) (Nat.le_trans on (by decide)) H
theorem zts (ha:NI h a m) (hb:NI h b n) (om:(dg m.natAbs).length≤35184372087808) (on:(dg n.natAbs).length≤35184372087808) (H:∀z h',h.le h'→NI h' z (Nat.gcd m.natAbs n.natAbs:Nat)→KI z h'):callP (F.zi8 a b) KI h:=by
 refine za1 _ (fun K' hk=>?_) H
 unfold F.zi8
 refine zqu ha om fun x hx=>zqu hb on fun y hy=>?_
 have om':=om
 have on':=on
 refine zxy (fun N st h'=>h.le h'∧∃A:Nat,RdW h' st.1 (dg A)∧RdW h' st.2.1 (dg N)∧(dg A).length≤35184372087808∧(dg N).length≤35184372087808∧Nat.gcd A N=Nat.gcd m.natAbs n.natAbs) n.natAbs
  ⟨Hp.le_refl _,m.natAbs,hx,hy,om',on',rfl⟩ ?_
 rintro B ⟨x,y,_⟩ h1 ⟨hl1,A,hA,hB,hAl,hBl,hg⟩ K hK
 simp only at hA hB ⊢
 have lA:=hA.len
 have lB:=hB.len
 refine za0 (fun h2=>?_) (fun h2=>?_)
 · have hB0:B≠0:=fun hh=>by rw [lB,hh,zbz] at h2; exact absurd h2 (by decide)
   refine zqq hA hB hB0 (by omega) (by omega) fun q r h2 hl2 hq hr=>?_
   have:=Nat.mod_lt A (Nat.pos_of_ne_zero hB0)
   exact hK _ _ (A % B) this ⟨Hp.le_trans hl1 hl2,B,hB.le hl2,hr,hBl,by have:=zdx (Nat.le_of_lt this); omega,by rw [zs7]; exact hg⟩
 · have hB0:B=0:=zef.1 (List.length_eq_zero_iff.1 (by omega))
   subst hB0
   rw [Nat.gcd_zero_right] at hg
   refine zcv hA (by omega) fun w hw=>hk _ _ hl1 ?_
   rw [←hg]
   exact hw
theorem zvk (ha:NI h a m) (hb:NI h b n) (om:Ok m) (on:Ok n) (H:∀z h',h.le h'→NI h' z (Nat.gcd m.natAbs n.natAbs:Nat)→KI z h'):callP (F.zi8 a b) KI h:=
 zts ha hb (Nat.le_trans om (by decide)) (Nat.le_trans on (by decide)) H
theorem zwp:dg 1=[1]:=by rw [zol (by decide),show 1/W=0 by decide,zbz]; rfl
theorem zru (G:(Bool→Hp→Prop)→Hp→Prop) (hG:∀K,((m=1)→K true h)→((m≠1)→K false h)→G K h) (H:Kb (decide (m=1)) h):callP G Kb h:=by
 refine zae (decide (m=1)) (fun K' hk=>hG K' (fun h1=>?_) (fun h1=>?_)) H
 · rw [decide_eq_true h1] at hk; exact hk
 · rw [decide_eq_false h1] at hk; exact hk
theorem zm7 (ha:NI h a m) (H:Kb (decide (m=1)) h):callP (F.ze1 a) Kb h:=by
 refine zru _ (fun K' h1 h0=>?_) H
 unfold F.ze1
 have hl:=ha.len
 rw [ha.2]
 refine za2 (fun h2=>?_) (fun h2=>?_)
 · have hpos:¬m<0:=by simpa using h2
   refine za7 (fun h3=>?_) (fun h3=>?_)
   · have h4:=zr7 (B:=m.natAbs) (by omega)
     refine ze2 0 ha.1 rfl (by omega) fun p hp=>⟨_,hp,?_⟩
     rw [h4]
     by_cases h5:m=1
     · have:=h1 h5
       subst h5; exact this
     · have:=h0 h5
       have e:(((([m.natAbs]:List Nat).getD 0 0:Nat):Int)==1)=false:=by
        simp; omega
       simp only
       rw [e]; exact this
   · refine h0 fun h5=>h3 ?_
     subst h5
     rw [hl,show (1:Int).natAbs=1 from rfl,zwp]; rfl
 · exact h0 fun h5=>by subst h5; simp at h2
theorem zqs (ha:NI h a m) (H:Kb (decide (m=1)) h):callP (F.zjr a) Kb h:=by
 refine zru _ (fun K' h1 h0=>?_) H
 unfold F.zjr
 have hl:=ha.len
 refine za7 (fun h3=>?_) (fun h3=>?_)
 · have h4:=zr7 (B:=m.natAbs) (by omega)
   refine ze2 0 ha.1 rfl (by omega) fun p hp=>⟨_,hp,?_⟩
   rw [h4]
   refine za7 (fun h5=>?_) (fun h5=>?_)
   · have h6:((m.natAbs:Nat):Int)=1:=h5
     rw [ha.2]
     by_cases h7:m<0
     · rw [decide_eq_true h7]; exact h0 (by omega)
     · rw [decide_eq_false h7]; exact h1 (by omega)
   · have h6:((m.natAbs:Nat):Int)≠1:=h5
     exact h0 (by omega)
 · refine h0 fun h5=>h3 ?_
   subst h5
   rw [hl,show (1:Int).natAbs=1 from rfl,zwp]; rfl
def DM (m n q r:Int):Prop:=m=n*q+r∧(0<n→0≤r∧r<n)∧(n<0→n<r∧r≤0)
theorem DM.div {m n q r:Int} (h:DM m n q r) (h0:n≠0) (hd:0<n∨n ∣ m):q=m/n:=by
 obtain ⟨h1,h2,h3⟩:=h
 rcases hd with hd | hd
 · have h4:=h2 hd
   exact ((Int.ediv_emod_unique hd).2 ⟨by omega,h4.1,h4.2⟩).1.symm
 · have hr:n ∣ r:=by
    have e:r=m-n*q:=by omega
    rw [e]; exact Int.dvd_sub hd (Int.dvd_mul_right n q)
   have hr0:r=0:=by
    have h5:n.natAbs ∣ r.natAbs:=Int.natAbs_dvd_natAbs.2 hr
    have h6:r.natAbs<n.natAbs:=by
     rcases Int.lt_or_gt_of_ne h0 with h7 | h7
     · have:=h3 h7; omega
     · have:=h2 h7; omega
    have:=Nat.eq_zero_of_dvd_of_lt h5 h6
    omega
   rw [h1,hr0,Int.add_zero,Int.mul_ediv_cancel_left _ h0]
theorem zej (m:Int):m=m.natAbs∧¬m<0∨m=-(m.natAbs:Int)∧m<0:=by omega
theorem zab9 {m n:Int} (h0:n≠0) (h:decide (m<0)=decide (n<0)):DM m n (sg false (m.natAbs/n.natAbs)) (sg (decide (n<0)) (m.natAbs % n.natAbs)):=by
 have e:=Nat.div_add_mod m.natAbs n.natAbs
 have hlt:=Nat.mod_lt m.natAbs (y:=n.natAbs) (by omega)
 have h':m<0↔n<0:=by simpa using h
 have c1:=zej m
 have c2:=zej n
 clear h
 generalize m.natAbs/n.natAbs=q at *
 generalize m.natAbs % n.natAbs=r at *
 generalize m.natAbs=A at *
 generalize n.natAbs=B at *
 have e':(A:Int)=B*q+r:=by rw [←e]; simp
 unfold DM sg
 rcases c1 with ⟨h1,h2⟩ | ⟨h1,h2⟩<;>rcases c2 with ⟨h3,h4⟩ | ⟨h3,h4⟩
 · rw [decide_eq_false h4]
   simp only [Bool.false_eq_true,if_false]
   exact ⟨by rw [h1,h3,e'],fun _=>by omega,fun _=>by omega⟩
 · omega
 · omega
 · rw [decide_eq_true h4]
   simp only [Bool.false_eq_true,if_false,if_true]
   exact ⟨by rw [h1,h3,e',Int.neg_add,Int.neg_mul],fun _=>by omega,fun _=>by omega⟩
theorem zaba {m n:Int} (h0:n≠0) (h:decide (m<0)≠decide (n<0)) (hr:m.natAbs % n.natAbs=0):DM m n (sg true (m.natAbs/n.natAbs)) (sg (decide (n<0)) (m.natAbs % n.natAbs)):=by
 have e:=Nat.div_add_mod m.natAbs n.natAbs
 have h':¬(m<0↔n<0):=by simpa using h
 have c1:=zej m
 have c2:=zej n
 rw [hr] at e ⊢
 clear h hr
 generalize m.natAbs/n.natAbs=q at *
 generalize m.natAbs=A at *
 generalize n.natAbs=B at *
 have e':(A:Int)=B*q:=by rw [←e]; simp
 unfold DM sg
 rcases c1 with ⟨h1,h2⟩ | ⟨h1,h2⟩<;>rcases c2 with ⟨h3,h4⟩ | ⟨h3,h4⟩
 · omega
 · rw [decide_eq_true h4]
   simp only [if_true]
   exact ⟨by rw [h1,h3,e',Int.neg_mul_neg]; simp,fun _=>by omega,fun _=>by omega⟩
 · rw [decide_eq_false h4]
   simp only [Bool.false_eq_true,if_false,if_true]
   exact ⟨by rw [h1,h3,e',Int.mul_neg]; simp,fun _=>by omega,fun _=>by omega⟩
 · omega
theorem zab8 {m n:Int} (h0:n≠0) (h:decide (m<0)≠decide (n<0)) (hr:m.natAbs % n.natAbs≠0):DM m n (sg true (m.natAbs/n.natAbs+1)) (sg (decide (n<0)) (n.natAbs-m.natAbs % n.natAbs)):=by
 have e:=Nat.div_add_mod m.natAbs n.natAbs
 have hlt:=Nat.mod_lt m.natAbs (y:=n.natAbs) (by omega)
 have h':¬(m<0↔n<0):=by simpa using h
 have c1:=zej m
 have c2:=zej n
 clear h
 generalize m.natAbs/n.natAbs=q at *
 generalize m.natAbs % n.natAbs=r at *
 generalize m.natAbs=A at *
 generalize n.natAbs=B at *
 have e':(A:Int)=B*q+r:=by rw [←e]; simp
 have e2:((B-r:Nat):Int)=(B:Int)-r:=by omega
 have e3:(B:Int)*((q+1:Nat):Int)=B*q+B:=by
  rw [Int.natCast_add,Int.mul_add]; simp
 unfold DM sg
 rw [e2]
 rcases c1 with ⟨h1,h2⟩ | ⟨h1,h2⟩<;>rcases c2 with ⟨h3,h4⟩ | ⟨h3,h4⟩
 · omega
 · rw [decide_eq_true h4]
   simp only [if_true]
   refine ⟨?_,fun _=>by omega,fun _=>by omega⟩
   rw [h1,h3,e',Int.neg_mul_neg,e3]; omega
 · rw [decide_eq_false h4]
   simp only [Bool.false_eq_true,if_false,if_true]
   refine ⟨?_,fun _=>by omega,fun _=>by omega⟩
   rw [h1,h3,e',Int.mul_neg,e3]; omega
 · omega
theorem zaac {p q:Bool} (h:p=q):(!(p==q))=false:=by subst h; simp
theorem za1s {p q:Bool} (h:p≠q):(!(p==q))=true:=by simpa using h
theorem zzq (ha:NI h a m) (hb:NI h b n) (om:Ok m) (on:Ok n) (h0:n≠0)
 (H:∀z w h' q r,h.le h'→NI h' z q→NI h' w r→DM m n q r→KP (z,w,0) h'):callP (F.zin a b) KP h:=by
 refine za1 (fun v h'=>∃q r,NI h' v.1 q∧NI h' v.2.1 r∧DM m n q r∧v.2.2=0) (fun K' hk=>?_) fun ⟨z,w,c⟩ h' hl ⟨q,r,h1,h2,h3,h4⟩=>by
  simp only at h4; subst h4
  exact H z w h' q r hl h1 h2 h3
 unfold F.zin
 have om':(dg m.natAbs).length≤8796093022208:=om
 have on':(dg n.natAbs).length≤8796093022208:=on
 refine zh2 hb on fun y hy=>?_
 have ly:=hy.len
 refine za7 (fun h1=>absurd (zsa.1 (by omega)) h0) (fun h1=>?_)
 refine zh2 ha om fun x hx=>?_
 refine zrm hx hy (by omega) (by omega) (by omega) fun q r h2 hl2 hq hr=>?_
 have hql:(dg (m.natAbs/n.natAbs)).length≤8796093022208:=Nat.le_trans (zdx (Nat.div_le_self _ _)) om'
 have hrl:(dg (m.natAbs % n.natAbs)).length≤8796093022208:=Nat.le_trans (zdx (Nat.mod_le _ _)) om'
 have lr:=hr.len
 rw [ha.2,hb.2]
 refine za3 (fun st h'=>h.le h'∧∃q r:List Nat,okW q∧okW r∧RdW h' st.1 q∧RdW h' st.2.1 r∧q.length≤35184372088800∧r.length≤35184372088800∧DM m n (sg (!(decide (m<0)==decide (n<0))) (vl q)) (sg (decide (n<0)) (vl r))) ?_ ?_
 · rintro ⟨x,y,_⟩ h3 ⟨hl3,q,r,okq,okr,hx3,hy3,hq3,hr3,hdm⟩
   refine zog hx3 okq (by omega) fun z hz=>zog hy3 okr (by omega) fun w hw=>hk _ _ hl3 ⟨_,_,hz,hw,hdm,rfl⟩
 · have stay:DM m n (sg (!(decide (m<0)==decide (n<0))) (m.natAbs/n.natAbs)) (sg (decide (n<0)) (m.natAbs % n.natAbs)) →
    h.le h2∧∃q' r':List Nat,okW q'∧okW r'∧RdW h2 q q'∧RdW h2 r r'∧q'.length≤35184372088800∧r'.length≤35184372088800∧DM m n (sg (!(decide (m<0)==decide (n<0))) (vl q')) (sg (decide (n<0)) (vl r')):=fun hd=>
    ⟨hl2,dg _,dg _,ok_dg _,ok_dg _,hq,hr,by omega,by omega,by rw [vl_dg,vl_dg]; exact hd⟩
   refine za2 (fun h3=>?_) (fun h3=>?_)
   · have hd:decide (m<0)≠decide (n<0):=by simpa using h3
     refine za0 (fun h4=>?_) (fun h4=>?_)
     · have hr0:m.natAbs % n.natAbs≠0:=fun hh=>by rw [lr,hh,zbz] at h4; exact absurd h4 (by decide)
       have hlt:=Nat.mod_lt m.natAbs (y:=n.natAbs) (by omega)
       refine zhg (n:=1) (size:=1) rfl fun b1 h5 hb1 ho=>?_
       have ho':OwnW h2 h5 ⟨some ⟨b1,0,none⟩,1,1⟩ [1]:=ho
       refine za7v (hq.le ho.1) ho'.rdW (ok_dg _) (fun d hd=>by rw [List.mem_singleton.1 hd]; decide) (by omega) (by simp) fun z h6 rr hl6 hz okz hv hzl=>?_
       rw [vl_dg] at hv
       have hl26:=Hp.le_trans ho.1 hl6
       refine za32 (hy.le (Hp.le_trans hl2 hl26)) (hr.le hl26) (ok_dg _) (ok_dg _) (by omega) (zdx (Nat.le_of_lt hlt)) (by rw [vl_dg,vl_dg]; exact Nat.le_of_lt hlt) fun w h7 hl7 hw=>?_
       rw [vl_dg,vl_dg] at hw
       refine ⟨Hp.le_trans hl2 (Hp.le_trans hl26 hl7),rr,_,okz,ok_dg _,hz.le hl7,hw,by simp at hzl; omega,by have:=zz0 (n:=m.natAbs % n.natAbs) on'; omega,?_⟩
       rw [vl_dg,hv,za1s hd]
       have:=zab8 h0 hd hr0
       simpa [vl] using this
     · have hr0:m.natAbs % n.natAbs=0:=zef.1 (List.length_eq_zero_iff.1 (by have h5:¬(r.len:Int)>0:=h4; omega))
       exact stay (by rw [za1s hd]; exact zaba h0 hd hr0)
   · have hd:decide (m<0)=decide (n<0):=by simpa using h3
     exact stay (by rw [zaac hd]; exact zab9 h0 hd)
end
end Den
end

section
namespace Den
open Go Iv
section
variable {h : Hp} {x y : Sl} {l : List Nat} {m n : Int} {a b : TInt} {Ks : Sl → Hp → Prop} {Ki : Int → Hp → Prop} {Kb : Bool → Hp → Prop} {KI : TInt → Hp → Prop} {KP : (TInt × TInt × Int) → Hp → Prop}
def tq (m n:Int):Int:=sg (!(decide (m<0)==decide (n<0))) (m.natAbs/n.natAbs)
theorem zuq {m n:Int} (h0:n≠0):m-tq m n*n=sg (decide (m<0)) (m.natAbs % n.natAbs):=by
 have e:=Nat.div_add_mod m.natAbs n.natAbs
 have c1:=zej m
 have c2:=zej n
 unfold tq
 generalize m.natAbs/n.natAbs=q at *
 generalize m.natAbs % n.natAbs=r at *
 generalize m.natAbs=A at *
 generalize n.natAbs=B at *
 have e':(A:Int)=B*q+r:=by rw [←e]; simp
 unfold sg
 rcases c1 with ⟨h1,h2⟩ | ⟨h1,h2⟩<;>rcases c2 with ⟨h3,h4⟩ | ⟨h3,h4⟩
 · rw [decide_eq_false h2,decide_eq_false h4]
   simp only [BEq.rfl,Bool.not_true,Bool.false_eq_true,if_false]
   rw [h1,h3,e',Int.mul_comm]; omega
 · rw [decide_eq_false h2,decide_eq_true h4]
   simp only [Bool.false_eq_true,if_false]
   rw [if_pos (by decide),h1,h3,e',Int.neg_mul_neg,Int.mul_comm]; omega
 · rw [decide_eq_true h2,decide_eq_false h4]
   simp only [if_true]
   rw [if_pos (by decide),h1,h3,e',Int.neg_mul,Int.mul_comm]; omega
 · rw [decide_eq_true h2,decide_eq_true h4]
   simp only [BEq.rfl,Bool.not_true,Bool.false_eq_true,if_false,if_true]
   rw [h1,h3,e',Int.mul_neg,Int.mul_comm]; omega
theorem tq_DM {m n:Int} (h0:n≠0) (h:¬(m-tq m n*n).sign*n.sign<0):DM m n (tq m n) (m-tq m n*n):=by
 have hr:=zuq (m:=m) h0
 have hlt:=Nat.mod_lt m.natAbs (y:=n.natAbs) (by omega)
 have hb:(m-tq m n*n).natAbs<n.natAbs:=by rw [hr,zkg]; exact hlt
 have s1:=zd5 (m-tq m n*n)
 have s2:=zd5 n
 refine ⟨by rw [Int.mul_comm n]; omega,fun h1=>?_,fun h1=>?_⟩
 · generalize m-tq m n*n=r at *
   rcases s1 with ⟨e1,s1⟩ | ⟨e1,s1⟩ | ⟨e1,s1⟩<;>rcases s2 with ⟨e2,s2⟩ | ⟨e2,s2⟩ | ⟨e2,s2⟩<;>(rw [e1,e2] at h)<;>omega
 · generalize m-tq m n*n=r at *
   rcases s1 with ⟨e1,s1⟩ | ⟨e1,s1⟩ | ⟨e1,s1⟩<;>rcases s2 with ⟨e2,s2⟩ | ⟨e2,s2⟩ | ⟨e2,s2⟩<;>(rw [e1,e2] at h)<;>omega
theorem tq_DM' {m n:Int} (h0:n≠0) (h:(m-tq m n*n).sign*n.sign<0):DM m n (tq m n-1) (m-tq m n*n+n):=by
 have hr:=zuq (m:=m) h0
 have hlt:=Nat.mod_lt m.natAbs (y:=n.natAbs) (by omega)
 have hb:(m-tq m n*n).natAbs<n.natAbs:=by rw [hr,zkg]; exact hlt
 have s1:=zd5 (m-tq m n*n)
 have s2:=zd5 n
 refine ⟨by rw [Int.mul_sub,Int.mul_comm n (tq m n)]; omega,fun h1=>?_,fun h1=>?_⟩
 · generalize m-tq m n*n=r at *
   rcases s1 with ⟨e1,s1⟩ | ⟨e1,s1⟩ | ⟨e1,s1⟩<;>rcases s2 with ⟨e2,s2⟩ | ⟨e2,s2⟩ | ⟨e2,s2⟩<;>(rw [e1,e2] at h)<;>omega
 · generalize m-tq m n*n=r at *
   rcases s1 with ⟨e1,s1⟩ | ⟨e1,s1⟩ | ⟨e1,s1⟩<;>rcases s2 with ⟨e2,s2⟩ | ⟨e2,s2⟩ | ⟨e2,s2⟩<;>(rw [e1,e2] at h)<;>omega
theorem Ok.le {m n:Int} (hm:Ok m) (h:n.natAbs≤m.natAbs):Ok n:=Nat.le_trans (zdx h) hm
theorem zacf:Ok 1:=by unfold Ok; rw [show (1:Int).natAbs=1 from rfl,zwp]; decide
theorem zag9 (m n:Int):(tq m n).natAbs≤m.natAbs:=by unfold tq; rw [zkg]; exact Nat.div_le_self _ _
theorem zac9 (m n:Int):(tq m n*n).natAbs≤m.natAbs:=by
 rw [Int.natAbs_mul]; unfold tq; rw [zkg]; exact Nat.div_mul_le_self _ _
theorem zyi (ha:NI h a m) (hb:NI h b n) (om:Ok m) (on:Ok n) (h0:n≠0)
 (H:∀z w h' q r,h.le h'→NI h' z q→NI h' w r→DM m n q r→KP (z,w,0) h'):callP (F.zk8 a b) KP h:=by
 refine za1 (fun v h'=>∃q r,NI h' v.1 q∧NI h' v.2.1 r∧DM m n q r∧v.2.2=0) (fun K' hk=>?_) fun ⟨z,w,c⟩ h' hl ⟨q,r,h1,h2,h3,h4⟩=>by
  simp only at h4; subst h4
  exact H z w h' q r hl h1 h2 h3
 unfold F.zk8
 have om':(dg m.natAbs).length≤8796093022208:=om
 have on':(dg n.natAbs).length≤8796093022208:=on
 refine ziq ha om fun x hx=>ziq hb on fun y hy=>?_
 refine za2 (fun h1=>?_) (fun _=>?_)
 · rw [hy.len0] at h1; exact absurd (of_decide_eq_true h1) h0
 refine zqq hx.1 hy.1 (by omega) (by omega) (by omega) fun q r h2 hl2 hq hr=>?_
 have hql:(dg (m.natAbs/n.natAbs)).length≤8796093022208:=Nat.le_trans (zdx (Nat.div_le_self _ _)) om'
 rw [hx.2,hy.2]
 refine zcv hq (by omega) fun z hz=>?_
 have hz':NI h2 z (tq m n):=hz
 have oq:Ok (tq m n):=om.le (zag9 m n)
 refine znt hz' (hy.le hl2) oq on fun w h3 hl3 hw=>?_
 have hl23:=Hp.le_trans hl2 hl3
 refine zvl (hx.le hl23) hw om (om.le (zac9 m n)) fun v h4 hl4 hv=>?_
 have hl24:=Hp.le_trans hl23 hl4
 have hb:(m-tq m n*n).natAbs<n.natAbs:=by rw [zuq h0,zkg]; exact Nat.mod_lt _ (by omega)
 have or':Ok (m-tq m n*n):=on.le (Nat.le_of_lt hb)
 refine za3 (fun st h'=>h.le h'∧∃q r,NI h' ⟨st.1.1,st.1.2.1⟩ q∧NI h' ⟨st.2.1.1,st.2.1.2.1⟩ r∧DM m n q r) ?_ ?_
 · rintro st h5 ⟨hl5,q,r,hq5,hr5,hdm⟩
   exact hk _ _ hl5 ⟨q,r,hq5,hr5,hdm,rfl⟩
 · refine zpr hv or' (zpr (hy.le hl24) on ?_)
   have s1:=zd5 (m-tq m n*n)
   have s2:=zd5 n
   have es:IntKind.i64.wrap ((m-tq m n*n).sign*n.sign)=(m-tq m n*n).sign*n.sign:=by
    rcases s1 with ⟨e1,s1⟩ | ⟨e1,s1⟩ | ⟨e1,s1⟩<;>rcases s2 with ⟨e2,s2⟩ | ⟨e2,s2⟩ | ⟨e2,s2⟩<;>rw [e1,e2]<;>rfl
   rw [es]
   refine za0 (fun h5=>?_) (fun h5=>?_)
   · refine zja (by decide) (by decide) fun o h6 hl6 ho=>?_
     have hq6:NI h6 z (tq m n):=((hz'.le hl3).le hl4).le hl6
     refine zvl hq6 ho oq zacf fun u h7 hl7 hu=>?_
     have hl47:=Hp.le_trans hl6 hl7
     refine zvj (hv.le hl47) (hy.le (Hp.le_trans hl24 hl47)) or' on fun t h8 hl8 ht=>?_
     exact ⟨Hp.le_trans hl24 (Hp.le_trans hl47 hl8),_,_,hu.le hl8,ht,tq_DM' h0 h5⟩
   · exact ⟨hl24,_,_,(hz'.le hl3).le hl4,hv,tq_DM h0 h5⟩
theorem zyh (ha:NI h a m) (hb:NI h b n) (om:Ok m) (on:Ok n) (h0:n≠0) (hd:0<n∨n ∣ m) (H:∀z h',h.le h'→NI h' z (m/n)→KI z h'):callP (F.zi7 a b) KI h:=by
 refine za1 _ (fun K' hk=>?_) H
 unfold F.zi7
 refine zm7 hb ?_
 refine za0 (fun h1=>?_) (fun h1=>?_)
 · subst h1
   exact hk _ _ (Hp.le_refl _) (by rw [Int.ediv_one]; exact ha)
 · refine zzq ha hb om on h0 fun z w h' q r hl hz hw hdm=>hk _ _ hl ?_
   have:=hdm.div h0 hd
   subst this
   exact hz
theorem zny (ha:NI h a m) (hb:NI h b n) (om:Ok m) (on:Ok n) (h0:n≠0) (hd:0<n∨n ∣ m) (H:∀z h',h.le h'→NI h' z (m/n)→KI z h'):callP (F.zib a b) KI h:=by
 refine za1 _ (fun K' hk=>?_) H
 unfold F.zib
 refine zyi ha hb om on h0 fun z w h' q r hl hz hw hdm=>hk _ _ hl ?_
 have:=hdm.div h0 hd
 subst this
 exact hz
end
end Den
end

section
namespace Iv
theorem zju (q:Rat):((q.den:Nat):Int)≠0:=by have:=q.den_pos; omega
theorem zjp {n d:Int} {q:Rat} (hd:d≠0):Rat.divInt n d=q↔n*q.den=q.num*d:=by
 have h:=Rat.divInt_eq_divInt_iff (n₁:=n) (n₂:=q.num) hd (zju q)
 rw [Rat.num_divInt_den] at h
 exact h
theorem ztu {n d:Int} {q:Rat} (hd:0<d) (hc:Nat.Coprime n.natAbs d.natAbs) (h:n*q.den=q.num*d):n=q.num∧d=q.den:=by
 have hq:(⟨n,d.toNat,by omega,by rw [show d.toNat=d.natAbs by omega]; exact hc⟩:Rat)=q:=by
  have h1:Rat.divInt n d=q:=(zjp (by omega)).2 h
  rw [←h1]
  symm
  refine (zjp (by omega)).2 ?_
  show n*((d.toNat:Nat):Int)=n*d
  rw [Int.toNat_of_nonneg (by omega)]
 refine ⟨congrArg Rat.num hq,?_⟩
 have:=congrArg Rat.den hq
 show d=((q.den:Nat):Int)
 have h2:d.toNat=q.den:=this
 omega
theorem za7c {m n g:Int} (hn:n≠0) (hg:g=n.sign*(Nat.gcd m.natAbs n.natAbs:Nat)):g≠0∧g ∣ m∧g ∣ n∧m/g=(Rat.divInt m n).num∧n/g=(Rat.divInt m n).den:=by
 have hG:Nat.gcd m.natAbs n.natAbs≠0:=fun h=>by have:=(Nat.gcd_eq_zero_iff.1 h).2; omega
 have hgabs:g.natAbs=Nat.gcd m.natAbs n.natAbs:=by
  rw [hg,Int.natAbs_mul,Int.natAbs_sign_of_ne_zero hn,Nat.one_mul]; rfl
 have hg0:g≠0:=fun h=>by rw [h] at hgabs; exact hG hgabs.symm
 have hgm:g ∣ m:=Int.natAbs_dvd_natAbs.1 (by rw [hgabs]; exact Nat.gcd_dvd_left _ _)
 have hgn:g ∣ n:=Int.natAbs_dvd_natAbs.1 (by rw [hgabs]; exact Nat.gcd_dvd_right _ _)
 obtain ⟨m',hm'⟩:=id hgm
 obtain ⟨n',hn'⟩:=id hgn
 have e1:m/g=m':=by rw [hm']; exact Int.mul_ediv_cancel_left _ hg0
 have e2:n/g=n':=by rw [hn']; exact Int.mul_ediv_cancel_left _ hg0
 have hGp:0<((Nat.gcd m.natAbs n.natAbs:Nat):Int):=by omega
 have hpos:0<n':=by
  generalize ((Nat.gcd m.natAbs n.natAbs:Nat):Int)=G at *
  clear hgabs hgm hgn e1 e2 hm' hG
  rcases Int.lt_or_gt_of_ne hn with h | h
  · have hgneg:g<0:=by
     rw [hg,Int.sign_eq_neg_one_of_neg h]; omega
    rcases Int.lt_trichotomy n' 0 with h1 | h1 | h1
    · have:=Int.mul_pos_of_neg_of_neg hgneg h1; omega
    · rw [h1] at hn'; omega
    · exact h1
  · have hgpos:0<g:=by
     rw [hg,Int.sign_eq_one_of_pos h]; omega
    rcases Int.lt_trichotomy n' 0 with h1 | h1 | h1
    · have:=Int.mul_neg_of_pos_of_neg hgpos h1; omega
    · rw [h1] at hn'; omega
    · exact h1
 have hcop:Nat.Coprime m'.natAbs n'.natAbs:=by
  have h1:m.natAbs=g.natAbs*m'.natAbs:=(congrArg Int.natAbs hm').trans (Int.natAbs_mul _ _)
  have h2:n.natAbs=g.natAbs*n'.natAbs:=(congrArg Int.natAbs hn').trans (Int.natAbs_mul _ _)
  rw [h1,h2,Nat.gcd_mul_left] at hgabs
  have h3:g.natAbs*1=g.natAbs*Nat.gcd m'.natAbs n'.natAbs:=by rw [Nat.mul_one]; exact hgabs
  exact (Nat.eq_of_mul_eq_mul_left (by omega) h3).symm
 have hx:m'*(Rat.divInt m n).den=(Rat.divInt m n).num*n':=by
  have h1:=(zjp (q:=Rat.divInt m n) hn).1 rfl
  generalize (Rat.divInt m n).den=D at *
  generalize (Rat.divInt m n).num=N at *
  rw [hm',hn'] at h1
  refine Int.eq_of_mul_eq_mul_left hg0 ?_
  rw [←Int.mul_assoc,h1,Int.mul_comm g n',←Int.mul_assoc,Int.mul_comm]
 have:=ztu hpos hcop hx
 exact ⟨hg0,hgm,hgn,by rw [e1]; exact this.1,by rw [e2]; exact this.2⟩
theorem rmul (a b:Rat):a*b=Rat.divInt (a.num*b.num) (a.den*b.den):=by
 have:=Rat.divInt_mul_divInt a.num b.num (d₁:=a.den) (d₂:=b.den)
 rw [Rat.num_divInt_den,Rat.num_divInt_den] at this
 exact this
end Iv
namespace Den
open Go Iv
def NR (h:Hp) (x:TRat) (q:Rat):Prop:=NI h x.num q.num∧NI h x.den q.den
theorem NR.le {h h':Hp} {x:TRat} {q:Rat} (hx:NR h x q) (hl:h.le h'):NR h' x q:=⟨hx.1.le hl,hx.2.le hl⟩
def BR (k:Nat) (q:Rat):Prop:=Lt k q.num∧Lt k q.den
theorem BR.mono {k j:Nat} {q:Rat} (h:BR k q) (hk:k≤j):BR j q:=⟨h.1.mono hk,h.2.mono hk⟩
theorem BR.divInt {k:Nat} {m n:Int} (hm:Lt k m) (hn:Lt k n) (h0:n≠0):BR k (Rat.divInt m n):=by
 obtain ⟨_,_,_,h1,h2⟩:=za7c (m:=m) (n:=n) h0 rfl
 exact ⟨by rw [←h1]; exact hm.le (Int.natAbs_ediv_le_natAbs _ _),by rw [←h2]; exact hn.le (Int.natAbs_ediv_le_natAbs _ _)⟩
theorem BR.mul {k j:Nat} {a b:Rat} (ha:BR k a) (hb:BR j b):BR (k+j) (a*b):=by
 rw [rmul]
 exact BR.divInt (ha.1.mul hb.1) (ha.2.mul hb.2) (Int.mul_ne_zero (zju a) (zju b))
section
variable {h : Hp} {m n : Int} {a b : TInt} {x y : TRat} {p q : Rat} {j k : Nat} {Ki : Int → Hp → Prop} {Kb : Bool → Hp → Prop} {KI : TInt → Hp → Prop} {KR : TRat → Hp → Prop} {KE : (TRat × Int) → Hp → Prop}
theorem zy7 (H:∀z h',h.le h'→NI h' z 1→KI z h'):callP F.zi6 KI h:=
 za1 _ (fun K' hk=>by unfold F.zi6; exact zmw (by decide) (by decide) fun z h' hl hz=>hk _ _ hl hz) H
theorem zvx (h1:-9223372036854775808≤n) (h2:n≤9223372036854775807) (H:∀z h',h.le h'→NR h' z (n:Rat)→KR z h'):callP (F.zh0 n) KR h:=by
 refine za1 _ (fun K' hk=>?_) H
 unfold F.zh0
 refine zmw h1 h2 fun z h3 hl3 hz=>zy7 fun w h4 hl4 hw=>hk _ _ (Hp.le_trans hl3 hl4) ⟨?_,?_⟩
 · exact hz.le hl4
 · exact hw
theorem za38 (hx:NR h x p) (op:BR k p) (hk:k≤1000000000000) (H:Ki p.num.sign h):callP (F.zfn x) Ki h:=
 zae _ (fun K' hk=>by unfold F.zfn; exact zq7 hx.1 (op.1.ok (by omega)) hk) H
theorem za0j (ha:NI h a m) (hb:NI h b n) (om:Lt k m) (on:Lt k n) (hk:k≤1000000000000) (h0:n≠0) (H:∀z h',h.le h'→NR h' z (Rat.divInt m n)→KR z h'):callP (F.zhs a b) KR h:=by
 refine za1 _ (fun K' hk=>?_) H
 unfold F.zhs
 have om':=om.ok (by omega)
 have on':=on.ok (by omega)
 refine za9r ha hb om' on' fun g h1 hl1 hg=>?_
 have og:Ok (Nat.gcd m.natAbs n.natAbs:Nat):=on'.le (by
  rw [Int.natAbs_natCast]
  exact Nat.le_of_dvd (by omega) (Nat.gcd_dvd_right _ _))
 obtain ⟨e0,e1,e2,e3,e4⟩:=za7c (m:=m) (n:=n) h0 rfl
 have oG:Ok (n.sign*(Nat.gcd m.natAbs n.natAbs:Nat)):=og.le (by
  rw [Int.natAbs_mul,Int.natAbs_sign_of_ne_zero h0,Nat.one_mul]; exact Nat.le_refl _)
 refine za3 (fun st h'=>h.le h'∧NI h' ⟨st.1.1,st.1.2.1⟩ (n.sign*(Nat.gcd m.natAbs n.natAbs:Nat))) ?_ ?_
 · rintro st h2 ⟨hl2,hG⟩
   refine zyh (ha.le hl2) hG om' oG e0 (.inr e1) fun u h3 hl3 hu=>?_
   refine zyh (hb.le (Hp.le_trans hl2 hl3)) (hG.le hl3) on' oG e0 (.inr e2) fun v h4 hl4 hv=>?_
   refine hk _ _ (Hp.le_trans hl2 (Hp.le_trans hl3 hl4)) ⟨?_,?_⟩
   · rw [←e3]; exact hu.le hl4
   · rw [←e4]; exact hv
 · rw [hb.2]
   refine za0 (fun h2=>?_) (fun h2=>?_)
   · refine za9s hg og fun w h3 hl3 hw=>⟨Hp.le_trans hl1 hl3,?_⟩
     rw [Int.sign_eq_neg_one_of_neg h2,Int.neg_mul,Int.one_mul]; exact hw
   · refine ⟨hl1,?_⟩
     rw [Int.sign_eq_one_of_pos (by omega),Int.one_mul]; exact hg
theorem za7x (hx:NR h x p) (hy:NR h y q) (op:BR k p) (oq:BR j q) (hk:k≤400000000000) (hj:j≤400000000000) (H:∀z h',h.le h'→NR h' z (p*q)→KR z h'):callP (F.zk7 x y) KR h:=by
 refine za1 _ (fun K' hk=>?_) H
 unfold F.zk7
 have hd:((p.den:Nat):Int)*q.den≠0:=Int.mul_ne_zero (zju p) (zju q)
 refine za3 (fun _ h'=>h'=h) ?_ ?_
 · rintro _ h' rfl
   refine zs1 hx.1 hy.1 (op.1.ok (by omega)) (oq.1.ok (by omega)) fun z h3 hl3 hz=>?_
   refine zs1 (hx.2.le hl3) (hy.2.le hl3) (op.2.ok (by omega)) (oq.2.ok (by omega)) fun w h4 hl4 hw=>?_
   refine za0j (hz.le hl4) hw (op.1.mul oq.1) (op.2.mul oq.2) (by omega) hd fun v h5 hl5 hv=>hk _ _ (Hp.le_trans hl3 (Hp.le_trans hl4 hl5)) ?_
   rw [rmul]; exact hv
 · refine zm7 hx.2 (za0 (fun h1=>zm7 hy.2 (za0 (fun h2=>?_) (fun _=>rfl))) (fun _=>rfl))
   refine zs1 hx.1 hy.1 (op.1.ok (by omega)) (oq.1.ok (by omega)) fun z h3 hl3 hz=>?_
   refine zy7 fun w h4 hl4 hw=>hk _ _ (Hp.le_trans hl3 hl4) ?_
   have e:=ztu (n:=p.num*q.num) (d:=1) (q:=p*q) (by decide) (Nat.coprime_one_right _) (by
    have:=(zjp (n:=p.num*q.num) hd).1 (rmul p q).symm
    rw [h1,h2] at this; simpa using this)
   exact ⟨by rw [←e.1]; exact hz.le hl4,by rw [←e.2]; exact hw⟩
end
end Den
end

section
namespace Iv
theorem ndvd {k:Nat} {m:Int}:(k:Int) ∣ m↔k ∣ m.natAbs:=by rw [←Int.natAbs_dvd_natAbs,Int.natAbs_natCast]
theorem za1i {x y k:Nat} (h:Nat.Coprime x y) (h1:k ∣ x) (h2:k ∣ y):k=1:=Nat.eq_one_of_dvd_one (by rw [←h]; exact Nat.dvd_gcd h1 h2)
theorem zabt {a b:Rat} {G1 G2:Nat} (h1:G1=Nat.gcd a.num.natAbs b.den) (h2:G2=Nat.gcd b.num.natAbs a.den) :
 0<G1∧0<G2∧(G1:Int) ∣ a.num∧(G2:Int) ∣ b.num∧G2 ∣ a.den∧G1 ∣ b.den∧a.num/G1*(b.num/G2)=(a*b).num∧(a.den:Int)/G2*((b.den:Int)/G1)=(a*b).den:=by
 have h10:0<G1:=by rw [h1]; exact Nat.gcd_pos_of_pos_right _ b.den_pos
 have h20:0<G2:=by rw [h2]; exact Nat.gcd_pos_of_pos_right _ a.den_pos
 have d1:(G1:Int) ∣ a.num:=ndvd.2 (by rw [h1]; exact Nat.gcd_dvd_left _ _)
 have d2:(G2:Int) ∣ b.num:=ndvd.2 (by rw [h2]; exact Nat.gcd_dvd_left _ _)
 have d3:G2 ∣ a.den:=by rw [h2]; exact Nat.gcd_dvd_right _ _
 have d4:G1 ∣ b.den:=by rw [h1]; exact Nat.gcd_dvd_right _ _
 refine ⟨h10,h20,d1,d2,d3,d4,?_⟩
 obtain ⟨A,hA⟩:=d1
 obtain ⟨B,hB⟩:=d2
 obtain ⟨P,hP⟩:=d3
 obtain ⟨Q,hQ⟩:=d4
 have i1:(G1:Int)≠0:=by omega
 have i2:(G2:Int)≠0:=by omega
 have e1:a.num/G1=A:=by rw [hA]; exact Int.mul_ediv_cancel_left _ i1
 have e2:b.num/G2=B:=by rw [hB]; exact Int.mul_ediv_cancel_left _ i2
 have e3:(a.den:Int)/G2=P:=by rw [hP,Int.natCast_mul]; exact Int.mul_ediv_cancel_left _ i2
 have e4:(b.den:Int)/G1=Q:=by rw [hQ,Int.natCast_mul]; exact Int.mul_ediv_cancel_left _ i1
 rw [e1,e2,e3,e4]
 have n1:a.num.natAbs=G1*A.natAbs:=by rw [hA,Int.natAbs_mul,Int.natAbs_natCast]
 have n2:b.num.natAbs=G2*B.natAbs:=by rw [hB,Int.natAbs_mul,Int.natAbs_natCast]
 have c1:Nat.Coprime A.natAbs Q:=by
  rw [n1,hQ,Nat.gcd_mul_left] at h1
  have:G1*1=G1*Nat.gcd A.natAbs Q:=by rw [Nat.mul_one]; exact h1
  exact (Nat.eq_of_mul_eq_mul_left h10 this).symm
 have c2:Nat.Coprime B.natAbs P:=by
  rw [n2,hP,Nat.gcd_mul_left] at h2
  have:G2*1=G2*Nat.gcd B.natAbs P:=by rw [Nat.mul_one]; exact h2
  exact (Nat.eq_of_mul_eq_mul_left h20 this).symm
 have c3:Nat.Coprime A.natAbs P:=za1i a.reduced (Nat.dvd_trans (Nat.gcd_dvd_left _ _) ⟨G1,by rw [n1,Nat.mul_comm]⟩) (Nat.dvd_trans (Nat.gcd_dvd_right _ _) ⟨G2,by rw [hP,Nat.mul_comm]⟩)
 have c4:Nat.Coprime B.natAbs Q:=za1i b.reduced (Nat.dvd_trans (Nat.gcd_dvd_left _ _) ⟨G2,by rw [n2,Nat.mul_comm]⟩) (Nat.dvd_trans (Nat.gcd_dvd_right _ _) ⟨G1,by rw [hQ,Nat.mul_comm]⟩)
 have hpos:0<(P:Int)*(Q:Int):=by
  have k1:=a.den_pos
  have k2:=b.den_pos
  rw [hP] at k1
  rw [hQ] at k2
  have k3:=Nat.pos_of_mul_pos_left k1
  have k4:=Nat.pos_of_mul_pos_left k2
  exact Int.mul_pos (by omega) (by omega)
 refine ztu hpos ?_ ?_
 · rw [←Int.natCast_mul,Int.natAbs_natCast,Int.natAbs_mul]
   exact Nat.Coprime.mul_left (Nat.Coprime.mul_right c3 c1) (Nat.Coprime.mul_right c2 c4)
 · have h5:=(zjp (n:=a.num*b.num) (q:=a*b) (Int.mul_ne_zero (zju a) (zju b))).1 (rmul a b).symm
   generalize (a*b).den=D at *
   generalize (a*b).num=N at *
   rw [hA,hB,hP,hQ] at h5
   simp only [Int.natCast_mul] at h5
   have k1:(G1:Int)*A*(G2*B)=G1*(G2*(A*B)):=by rw [Int.mul_assoc,Int.mul_left_comm A]
   have k2:(G2:Int)*P*(G1*Q)=G1*(G2*((P:Int)*Q)):=by
    rw [Int.mul_assoc,Int.mul_left_comm (P:Int),Int.mul_left_comm (G2:Int) (G1:Int)]
   rw [k1,k2] at h5
   refine Int.eq_of_mul_eq_mul_left i2 (Int.eq_of_mul_eq_mul_left i1 ?_)
   rw [←Int.mul_assoc,←Int.mul_assoc,Int.mul_assoc (G1:Int),h5,Int.mul_left_comm N,Int.mul_left_comm N]
end Iv
end

section
namespace Den
open Go Iv
section
variable {h : Hp} {m n : Int} {a b : TInt} {x y : TRat} {p q : Rat} {j k : Nat} {Ki : Int → Hp → Prop} {Kb : Bool → Hp → Prop} {KI : TInt → Hp → Prop} {KR : TRat → Hp → Prop} {KE : (TRat × Int) → Hp → Prop}
theorem dpos (q:Rat):0<(q.den:Int):=by have:=q.den_pos; omega
theorem zm9 (q:Rat):((q.den:Nat):Int).natAbs=q.den:=Int.natAbs_natCast _
theorem zfa (h1:-9223372036854775808≤n) (h2:n≤9223372036854775807) (H:∀z h',h.le h'→NR h' z (n:Rat)→KR z h'):callP (F.zd4 n) KR h:=by
 refine za1 _ (fun K' hk=>?_) H
 unfold F.zd4
 refine zja h1 h2 fun z h3 hl3 hz=>zja (by decide) (by decide) fun w h4 hl4 hw=>hk _ _ (Hp.le_trans hl3 hl4) ⟨?_,?_⟩
 · exact hz.le hl4
 · exact hw
theorem za0v (hx:NR h x p) (op:BR k p) (hk:k≤1000000000000) (H:Ki p.num.sign h):callP (F.zir x) Ki h:=
 zae _ (fun K' hk=>by unfold F.zir; exact zpr hx.1 (op.1.ok (by omega)) hk) H
theorem zsv {P G:Nat}:((P:Int)/G).natAbs≤((P:Int)).natAbs:=Int.natAbs_ediv_le_natAbs _ _
theorem za3i (hx:NR h x p) (hy:NR h y q) (op:BR k p) (oq:BR j q) (hk:k≤400000000000) (hj:j≤400000000000) (H:∀z h',h.le h'→NR h' z (p*q)→KR z h'):callP (F.znx x y) KR h:=by
 refine za1 _ (fun K' hk=>?_) H
 unfold F.znx
 have op1:=op.1.ok (by omega)
 have oq1:=oq.1.ok (by omega)
 have op2:=op.2.ok (by omega)
 have oq2:=oq.2.ok (by omega)
 refine za3 (fun _ h'=>h'=h) ?_ ?_
 · rintro _ h' rfl
   refine za3 (fun _ h2=>h2=h') ?_ ?_
   · rintro _ h2 rfl
     obtain ⟨g1,g2,d1,d2,d3,d4,e1,e2⟩:=zabt (a:=p) (b:=q) rfl rfl
     refine zvk hx.1 hy.2 op1 oq2 fun u h3 hl3 hu=>?_
     refine zvk (hy.1.le hl3) (hx.2.le hl3) oq1 op2 fun v h4 hl4 hv=>?_
     rw [zm9] at hu hv
     generalize hG1:Nat.gcd p.num.natAbs q.den=G1 at *
     generalize hG2:Nat.gcd q.num.natAbs p.den=G2 at *
     have oG1:Ok (G1:Int):=oq2.le (by rw [Int.natAbs_natCast,zm9]; exact Nat.le_of_dvd q.den_pos d4)
     have oG2:Ok (G2:Int):=op2.le (by rw [Int.natAbs_natCast,zm9]; exact Nat.le_of_dvd p.den_pos d3)
     have i1:(G1:Int)≠0:=by omega
     have i2:(G2:Int)≠0:=by omega
     have hl34:=Hp.le_trans hl3 hl4
     refine zny (hx.1.le hl34) (hu.le hl4) op1 oG1 i1 (.inr d1) fun r h5 hl5 hr=>?_
     refine zny (hy.1.le (Hp.le_trans hl34 hl5)) (hv.le hl5) oq1 oG2 i2 (.inr d2) fun s h6 hl6 hs=>?_
     have hl56:=Hp.le_trans hl5 hl6
     refine znt (hr.le hl6) hs (op1.le (Int.natAbs_ediv_le_natAbs _ _)) (oq1.le (Int.natAbs_ediv_le_natAbs _ _)) fun t h7 hl7 ht=>?_
     have hl57:=Hp.le_trans hl56 hl7
     refine zny (hx.2.le (Hp.le_trans hl34 hl57)) (hv.le hl57) op2 oG2 i2 (.inr (Int.natCast_dvd_natCast.2 d3)) fun w h8 hl8 hw=>?_
     have hl58:=Hp.le_trans hl57 hl8
     refine zny (hy.2.le (Hp.le_trans hl34 hl58)) (hu.le (Hp.le_trans hl4 hl58)) oq2 oG1 i1 (.inr (Int.natCast_dvd_natCast.2 d4)) fun o h9 hl9 ho=>?_
     refine znt (hw.le hl9) ho (op2.le zsv) (oq2.le zsv) fun e h10 hl10 he=>hk _ _ (Hp.le_trans hl34 (Hp.le_trans hl58 (Hp.le_trans hl9 hl10))) ⟨?_,?_⟩
     · rw [←e1]; exact ht.le (Hp.le_trans hl8 (Hp.le_trans hl9 hl10))
     · rw [←e2]; exact he
   · refine zqs hx.2 (za0 (fun h1=>zqs hy.2 (za0 (fun h2=>?_) (fun _=>rfl))) (fun _=>rfl))
     refine znt hx.1 hy.1 op1 oq1 fun z h3 hl3 hz=>hk _ _ hl3 ?_
     have hd:((p.den:Nat):Int)*q.den≠0:=Int.mul_ne_zero (zju p) (zju q)
     have e:=ztu (n:=p.num*q.num) (d:=1) (q:=p*q) (by decide) (Nat.coprime_one_right _) (by
      have:=(zjp (n:=p.num*q.num) hd).1 (rmul p q).symm
      rw [h1,h2] at this; simpa using this)
     exact ⟨by rw [←e.1]; exact hz,by rw [←e.2,←h1]; exact hx.2.le hl3⟩
 · rw [hx.1.len0,hy.1.len0]
   refine za0 (fun h1=>?_) (fun h1=>za0 (fun h2=>?_) (fun h2=>rfl))
   · refine zfa (by decide) (by decide) fun z h3 hl3 hz=>hk _ _ hl3 ?_
     rw [Rat.num_eq_zero.1 h1,Rat.zero_mul]; exact hz
   · refine zfa (by decide) (by decide) fun z h3 hl3 hz=>hk _ _ hl3 ?_
     rw [Rat.num_eq_zero.1 h2,Rat.mul_zero]; exact hz
theorem zaco {m n:Nat} (h:dg m=dg n):m=n:=by rw [←vl_dg m,←vl_dg n,h]
end
end Den
end

section
namespace Iv
open Den
end Iv
namespace Den
open Go Iv
section
variable {h : Hp} {m n : Int} {a b : TInt} {x y : Sl} {l : List Nat} {j k : Nat} {Ks : Sl → Hp → Prop} {Ki : Int → Hp → Prop} {Kb : Bool → Hp → Prop} {KI : TInt → Hp → Prop} {KE : (TInt × Int) → Hp → Prop}
end
end Den
end

section
namespace Iv
open Den
end Iv
namespace Den
open Go Iv
section
variable {h : Hp} {a : TInt} {KE : (TInt × Int) → Hp → Prop}
end
end Den
end

section
namespace Den
open Go Iv
theorem zxo {α:Type} {c:α→List Value} {n:Nat} (hc:∀x,(c x).length=n):∀{xs:List α} {k j:Nat} (hk:k<xs.length),j<n→(xs.flatMap c)[k*n+j]?=(c xs[k])[j]?
 | [],k,j,hk,_=>by simp at hk
 | x :: r,0,j,hk,hj=>by
   rw [List.flatMap_cons,Nat.zero_mul,Nat.zero_add,List.getElem?_append_left (by rw [hc]; exact hj)]
   rfl
 | x :: r,k+1,j,hk,hj=>by
   rw [List.flatMap_cons,List.getElem?_append_right (by rw [hc,Nat.add_mul]; omega),hc]
   have:(k+1)*n+j-n=k*n+j:=by rw [Nat.add_mul]; omega
   rw [this,zxo hc (by simpa using hk) hj]
   rfl
theorem zgt {α:Type} {c:α→List Value} {n:Nat} (hc:∀x,(c x).length=n) (xs:List α):(xs.flatMap c).length=xs.length*n:=by
 induction xs with
 | nil=>simp
 | cons x r ih=>rw [List.flatMap_cons,List.length_append,hc,ih,List.length_cons,Nat.add_mul]; omega
def hiS (m x:Rat):Rat:=if m<x then x else m
abbrev q4 (s:Bool×Sl×Bool×Sl×Unit):TRat:=⟨⟨s.1,s.2.1⟩,⟨s.2.2.1,s.2.2.2.1⟩⟩
section
variable {h : Hp} {l : Sl} {B : Nat} {xs : List TRat} {vs : List Rat} {v0 : Rat} {KV : TInterval → Hp → Prop}
end
end Den
end

section
namespace Den
open Go Iv
theorem zq8 {α:Type} {G:(α→Hp→Prop)→Hp→Prop} {K1 K:α→Hp→Prop} {D h:Hp} (hD:D.le h) (H:callP G K1 D)
 (k:∀v D' h',D.le D'→D'.le h'→(∀j,D j=none→h j≠none→D' j=none∧h' j=h j)→K1 v D'→K v h'):callP G K h:=by
 obtain ⟨O,hO⟩:∃O:Hp,O=fun j=>match D j with | none=>h j | some _=>none:=⟨_,rfl⟩
 have e:h=D.add O:=by
  funext j
  unfold Hp.add
  rw [hO]
  cases hj:D j with
  | none=>simp [hj]
  | some b=>simp [hD j b hj]
 have hdj:D.dj O:=fun j=>by
  cases hj:D j with
  | none=>exact .inl rfl
  | some b=>right; rw [hO]; simp [hj]
 rw [e]
 refine za03 hdj H fun v D' hl hdj' hk=>k v D' _ hl (Hp.le_add _ _) (fun j h1 h2=>?_) hk
 have e2:h j=O j:=by rw [hO]; simp [h1]
 rw [e2] at h2 ⊢
 have h3:D' j=none:=by
  rcases hdj' j with h4 | h4
  · exact h4
  · exact absurd h4 h2
 exact ⟨h3,by unfold Hp.add; rw [h3]⟩
theorem Own.move {D h D' h':Hp} {n:Nat} {l:Sl} {cs:List Value} (ho:Own D h n l cs) (h1:D'.le h') (hfr:∀j,D j=none→h j≠none→D' j=none∧h' j=h j):Own D' h' n l cs:=by
 obtain ⟨g1,g2,g3,g4⟩:=ho
 refine ⟨h1,g2,g3,?_⟩
 cases ha:l.a with
 | none=>rw [ha] at g4; exact g4
 | some a=>
   rw [ha] at g4
   obtain ⟨k1,k2,k3,b,k4,k5⟩:=g4
   have:=hfr a.block k3 (by rw [k4]; simp)
   exact ⟨k1,k2,this.1,b,by rw [this.2]; exact k4,k5⟩
theorem Own.call {α:Type} {G:(α→Hp→Prop)→Hp→Prop} {K1 K:α→Hp→Prop} {D h:Hp} {n:Nat} {l:Sl} {cs:List Value} (ho:Own D h n l cs) (H:callP G K1 D)
 (k:∀v D' h',D.le D'→Own D' h' n l cs→K1 v D'→K v h'):callP G K h:=
 zq8 ho.1 H fun v D' h' h1 h2 h3 h4=>k v D' h' h1 (ho.move h2 h3) h4
def Apt (x y:Sl):Prop:=∀a b,x.a=some a→y.a=some b→a.block≠b.block
theorem Apt.symm {x y:Sl} (h:Apt x y):Apt y x:=fun a b h1 h2=>(h b a h2 h1).symm
theorem za26 {h0 h:Hp} {size:Nat} {x:Sl} {cs vs:List Value} {i:Int} {K:Hp→Prop} (k:Nat) (ho:Own h0 h size x cs) (hi:i=k) (hk:k<x.len) (hv:vs.length=size) (hsz:0<size) (hleaf:vs.all Value.leaf=true)
 (H:∀h',Own h0 h' size x (splice cs (k*size) vs)→(∀j,(∀a,x.a=some a→j≠a.block)→h' j=h j)→K h'):idxP x i size fun a=>stP a vs K h:=by
 subst hi
 obtain ⟨h1,h2,h3,h4⟩:=ho
 refine ⟨by omega,by omega,?_⟩
 cases ha:x.a with
 | none=>rw [ha] at h4; simp only at h4; omega
 | some a=>
   rw [ha] at h4
   obtain ⟨g1,g2,g3,b,g4,g5,g6,g7⟩:=h4
   have e0:((k:Int).toNat)=k:=rfl
   have e1:k*size+size≤cs.length:=by
    rw [←h2]
    have:=Nat.mul_le_mul_right size (show k+1≤x.len by omega)
    rw [Nat.add_mul] at this; omega
   have e2:cs.length≤b.cells.length:=by rw [g6,←h2]; exact Nat.mul_le_mul_right _ h3
   show ptrK (some a) _
   simp only [ptrK,e0]
   refine ⟨b,by rw [zbg]; exact g4,zdw g2 _,g5,by rw [zcs]; omega,hleaf,?_⟩
   rw [zbg,zcs,g1,Nat.zero_add]
   refine H _ ⟨?_,?_,h3,?_⟩ fun j hj=>?_
   · intro kk bk hkk
     rw [Hp.ins_ne (fun hh=>by subst hh; rw [g3] at hkk; cases hkk)]
     exact h1 kk bk hkk
   · rw [zea (by omega)]; exact h2
   · rw [ha]
     refine ⟨g1,g2,g3,_,Hp.ins_same _ _ _,g5,?_,?_⟩
     · show (splice b.cells (k*size) vs).length=_
       rw [zea (by omega)]; exact g6
     · show (splice b.cells (k*size) vs).take _=_
       rw [zea (by omega)]
       exact zrx (by omega) g7
   · exact Hp.ins_ne (hj a ha)
section
variable {α : Type} {c : α → List Value} {n : Nat}
theorem zrp (hc:∀x,(c x).length=n) {x:α}:∀{xs:List α} {k:Nat},k<xs.length→splice (xs.flatMap c) (k*n) (c x)=(xs.set k x).flatMap c
 | [],k,h=>by simp at h
 | y :: r,0,h=>by
   unfold splice
   simp only [Nat.zero_mul,List.take_zero,List.nil_append,Nat.zero_add,List.set_cons_zero,List.flatMap_cons,hc]
   congr 1
   rw [←hc y,List.drop_left]
 | y :: r,k+1,h=>by
   have ih:=zrp hc (x:=x) (xs:=r) (k:=k) (by simpa using h)
   unfold splice at ih ⊢
   rw [hc] at ih ⊢
   have e1:(k+1)*n=n+k*n:=by rw [Nat.add_mul]; omega
   have e2:n+k*n+n=n+(k*n+n):=by omega
   simp only [List.flatMap_cons,List.set_cons_succ]
   rw [e1,e2,←ih]
   have e3:∀j,(c y++r.flatMap c).take (n+j)=c y++(r.flatMap c).take j:=fun j=>by
    rw [List.take_append,hc,Nat.add_sub_cancel_left,List.take_of_length_le (by rw [hc]; omega)]
   have e4:∀j,(c y++r.flatMap c).drop (n+j)=(r.flatMap c).drop j:=fun j=>by
    rw [List.drop_append,hc,Nat.add_sub_cancel_left,List.drop_of_length_le (by rw [hc]; omega),List.nil_append]
   rw [e3,e4]
   simp [List.append_assoc]
theorem Own.flen (hc:∀x,(c x).length=n) (hn:0<n) {D h:Hp} {l:Sl} {xs:List α} (ho:Own D h n l (xs.flatMap c)):l.len=xs.length:=by
 have:=ho.2.1
 rw [zgt hc] at this
 exact Nat.eq_of_mul_eq_mul_right hn this
theorem zac4 (hc:∀x,(c x).length=n) (hn:0<n) {D h:Hp} {l:Sl} {xs:List α} {x:α} {i:Int} {K:Hp→Prop} (k:Nat) (ho:Own D h n l (xs.flatMap c)) (hi:i=k) (hk:k<xs.length) (hleaf:(c x).all Value.leaf=true)
 (H:∀h',Own D h' n l ((xs.set k x).flatMap c)→(∀j,(∀a,l.a=some a→j≠a.block)→h' j=h j)→K h'):idxP l i n fun a=>stP a (c x) K h:=by
 refine za26 k ho hi (by rw [ho.flen hc hn]; exact hk) (hc x) hn hleaf fun h' h1 h2=>H h' ?_ h2
 rw [zrp hc hk] at h1
 exact h1
end
section
variable {D h h' h0 : Hp} {B : Nat} {l : Sl} {p : List Rat}
end
end Den
end

section
namespace Den
open Go Iv
theorem zbi {body:(Int×Unit)→((Int×Unit)→Hp→Prop)→Hp→Prop} {h0:Hp} {n:Nat} (hn:n≤140737488355328) (I:Nat→Hp→Prop) (h:I 0 h0)
 (step:∀i h,i≤n→I i h→∀k,(∀h',i<n→I (i+1) h'→k (IntKind.i64.wrap ((i:Int)+1),()) h')→body ((i:Int),()) k h):loopP body (0,()) h0:=by
 refine zal (fun st h'=>∃i:Nat,st.1=(i:Int)∧i≤n∧I i h') (fun st=>(n-st.1).toNat) ⟨0,rfl,Nat.zero_le _,h⟩ ?_
 rintro ⟨_,_⟩ h' ⟨i,rfl,hi,hI⟩
 refine step i h' hi hI _ fun h2 hlt hI2=>⟨⟨i+1,?_,hlt,hI2⟩,?_⟩
 · simp only; rw [w64 (by omega)]; rfl
 · simp only; rw [w64 (by omega)]; omega
theorem zc5 {α:Type} {body:(α×Int×Unit)→((α×Int×Unit)→Hp→Prop)→Hp→Prop} {a0:α} {h0:Hp} {n:Nat} (hn:n≤140737488355328) (I:Nat→α→Hp→Prop) (h:I 0 a0 h0)
 (step:∀i a h,i≤n→I i a h→∀k,(∀a' h',i<n→I (i+1) a' h'→k (a',IntKind.i64.wrap ((i:Int)+1),()) h')→body (a,(i:Int),()) k h):loopP body (a0,0,()) h0:=by
 refine zal (fun st h'=>∃i:Nat,st.2.1=(i:Int)∧i≤n∧I i st.1 h') (fun st=>(n-st.2.1).toNat) ⟨0,rfl,Nat.zero_le _,h⟩ ?_
 rintro ⟨a,_,_⟩ h' ⟨i,rfl,hi,hI⟩
 refine step i a h' hi hI _ fun a2 h2 hlt hI2=>⟨⟨i+1,?_,hlt,hI2⟩,?_⟩
 · simp only; rw [w64 (by omega)]; rfl
 · simp only; rw [w64 (by omega)]; omega
theorem rd_el {α:Type} {c:α→List Value} {n:Nat} {h:Hp} {l:Sl} {xs:List α} {i:Int} {K:Addr→Prop} (hc:∀x,(c x).length=n) (hn:0<n) (hr:Rd h n l (xs.flatMap c)) (k:Nat) (hi:i=k) (hk:k<xs.length)
 (H:∀a,(∀j v,j<n→(c xs[k])[j]?=some v→h.cell (a.add j)=some v)→K a):idxP l i n K:=by
 have hl:l.len=xs.length:=by
  have:=hr.1
  rw [zgt hc] at this
  exact Nat.eq_of_mul_eq_mul_right hn this
 exact za1m k hr hi (by omega) hn fun a ha=>H a fun j v hj hv=>ha j v (by rw [zxo hc hk hj]; exact hv)
def ic (z:Int):Value:=.int .i64 z
def IL (h:Hp) (l:Sl) (xs:List Int):Prop:=Rd h 1 l (xs.map ic)∧l.len≤l.cap
def OI (D h:Hp) (l:Sl) (xs:List Int):Prop:=Own D h 1 l (xs.map ic)
section
variable {D h h' : Hp} {l m : Sl} {xs ys : List Int} {n : Int} {Kb : Bool → Hp → Prop} {Ki : Int → Hp → Prop} {Ks : Sl → Hp → Prop}
theorem IL.le (hx:IL h l xs) (hl:h.le h'):IL h' l xs:=⟨hx.1.le hl,hx.2⟩
theorem IL.len (hx:IL h l xs):l.len=xs.length:=by have:=hx.1.1; simp at this; omega
theorem IL.nil:IL h nilS []:=⟨Rd.nil,Nat.le_refl _⟩
theorem IL.get {i:Int} {K:Int→Prop} (hx:IL h l xs) (k:Nat) (hi:i=k) (hk:k<xs.length) (H:K xs[k]):idxP l i 1 fun a=>ldL (.int .i64) a K h:=by
 refine ztv k hx.1 hi (v:=ic xs[k]) (by rw [List.getElem?_map,List.getElem?_eq_getElem hk]; rfl) fun a ha=>⟨xs[k],ha,H⟩
theorem IL.cut (hx:IL h l xs) {n:Nat} (hn:n≤xs.length):IL h (l.cut 0 n 1) (xs.take n):=by
 have hl:=hx.len
 have hc:=hx.2
 refine ⟨⟨?_,?_⟩,?_⟩
 · show (n-0)*1=_
   simp; omega
 · have e:((xs.take n).map ic).length=n:=by simp; omega
   rw [e]
   have h2:=hx.1.2
   have ea:(l.cut 0 n 1).a=l.a:=by
    show (if l.cap=0 then l.a else l.a.map (·.add (0*1)))=l.a
    split
    · rfl
    · cases l.a with
      | none=>rfl
      | some a=>simp only [Option.map_some,Nat.zero_mul,zb3]
   rw [ea]
   cases ha:l.a with
   | some a=>
     rw [ha] at h2
     have key:∀{m n:Nat} {L:List Value},cellsAt h a m=some L→n≤m→cellsAt h a n=some (L.take n):=by
      intro m
      induction m with
      | zero=>
        intro n L e hn
        have:n=0:=by omega
        subst this; simp [cellsAt]
      | succ m ih=>
        intro n L e hn
        have hl:=zhd e
        by_cases h1:n=m+1
        · subst h1; rw [e,List.take_of_length_le (by omega)]
        · unfold cellsAt at e
          split at e
          · rename_i l1 h2
            split at e
            · rename_i v hv
              simp only [Option.some.injEq] at e
              subst e
              have h3:=zhd h2
              rw [ih h2 (show n≤m by omega),List.take_append_of_le_length (by omega)]
            · cases e
          · cases e
     have:=key h2 (n:=n) (by simp; omega)
     show cellsAt h a n=_
     rw [this,List.map_take]
   | none=>
     rw [ha] at h2
     simp only [cellsAtO] at h2 ⊢
     split at h2
     · rename_i h5
       simp only [Option.some.injEq] at h2
       have:n=0:=by simp at h5; subst h5; simp at hn; omega
       subst this
       simp
     · cases h2
 · show n-0≤l.cap-0; omega
theorem OI.il (ho:OI D h l xs):IL h l xs:=⟨ho.rd,ho.2.2.1⟩
theorem OI.dle (ho:OI D h l xs):D.le h:=ho.1
theorem OI.nil:OI h h nilS []:=Own.nil (Hp.le_refl _)
theorem OI.app {x:Int} (ho:OI D h l xs) (hlen:xs.length≤1000000) (H:∀y h',OI D h' y (xs++[x])→Ks y h'):appP 1 8 [.int .i64 0] l 1 [.int .i64 x] Ks h:=by
 have hl:=ho.il.len
 refine zik ho (n:=1) (new:=[ic x]) rfl rfl rfl (by omega) (by omega) fun y h' hy _=>H y h' ?_
 unfold OI; rw [List.map_append]; exact hy
theorem zg9 (hx:IL h l xs) (hlen:xs.length≤1000000) (H:∀h',h.le h'→Kb (decide (n∈xs)) h'):callP (F.zg0 l n) Kb h:=by
 refine za1 (fun b h'=>b=decide (n∈xs)) (fun K' hk=>?_) fun b h' hl hb=>by subst hb; exact H h' hl
 unfold F.zg0
 have hl:=hx.len
 refine zbi (n:=xs.length) (by omega) (fun i h'=>h'=h∧n∉xs.take i) ⟨rfl,by simp⟩ ?_
 rintro i _ hi ⟨rfl,hno⟩ k hk2
 refine za0 (fun h1=>?_) (fun h1=>?_)
 · have hi':i<xs.length:=by simp only at h1; omega
   refine hx.get i rfl hi' ?_
   refine za7 (fun h2=>hk _ _ (Hp.le_refl _) ?_) (fun h2=>hk2 _ hi' ⟨rfl,?_⟩)
   · rw [eq_comm,decide_eq_true_iff,←h2]; exact List.getElem_mem _
   · rw [←List.take_append_getElem hi',List.mem_append,List.mem_singleton]
     rintro (h3 | h3)
     · exact hno h3
     · exact h2 h3.symm
 · refine hk _ _ (Hp.le_refl _) ?_
   have:i=xs.length:=by simp only at h1; omega
   subst this
   rw [List.take_length] at hno
   rw [eq_comm,decide_eq_false_iff_not]; exact hno
theorem ztc (hx:IL h l xs) (hlen:xs.length≤1000000) (H:∀r h',h.le h'→(0≤r↔n∈xs)→Ki r h'):callP (F.zdn l n) Ki h:=by
 refine za1 (fun r h'=>(0≤r↔n∈xs)) (fun K' hk=>?_) fun b h' hl hb=>H b h' hl hb
 unfold F.zdn
 have hl:=hx.len
 refine zbi (n:=xs.length) (by omega) (fun i h'=>h'=h∧n∉xs.take i) ⟨rfl,by simp⟩ ?_
 rintro i _ hi ⟨rfl,hno⟩ k hk2
 refine za0 (fun h1=>?_) (fun h1=>?_)
 · have hi':i<xs.length:=by simp only at h1; omega
   refine hx.get i rfl hi' ?_
   refine za7 (fun h2=>hk _ _ (Hp.le_refl _) ⟨fun _=>?_,fun _=>by simp only; omega⟩) (fun h2=>hk2 _ hi' ⟨rfl,?_⟩)
   · rw [h2]; exact List.getElem_mem _
   · rw [←List.take_append_getElem hi',List.mem_append,List.mem_singleton]
     rintro (h3 | h3)
     · exact hno h3
     · exact h2 h3
 · refine hk _ _ (Hp.le_refl _) ⟨fun hh=>by omega,fun hh=>?_⟩
   have:i=xs.length:=by simp only at h1; omega
   subst this
   rw [List.take_length] at hno
   exact absurd hh hno
theorem zfm (hx:IL h l xs) (hlen:xs.length≤1000000) (H:∀h',h.le h'→Kb (decide (n∈xs)) h'):callP (F.zbd l n) Kb h:=by
 refine za1 (fun b h'=>b=decide (n∈xs)) (fun K' hk=>?_) fun b h' hl hb=>by subst hb; exact H h' hl
 unfold F.zbd
 refine ztc hx hlen fun r h' hl hr=>hk _ _ hl ?_
 by_cases hm:n∈xs
 · rw [decide_eq_true hm,decide_eq_true (hr.2 hm)]
 · rw [decide_eq_false hm,decide_eq_false fun hh=>hm (hr.1 hh)]
theorem zj2 (hx:IL h l xs) (hy:IL h m ys) (hlen:xs.length≤1000000) (H:∀h',h.le h'→Kb (decide (xs=ys)) h'):callP (F.zcl l m) Kb h:=by
 refine za1 (fun b h'=>b=decide (xs=ys)) (fun K' hk=>?_) fun b h' hl hb=>by subst hb; exact H h' hl
 unfold F.zcl
 have hl:=hx.len
 have hm:=hy.len
 refine zax (fun h1=>hk _ _ (Hp.le_refl _) ?_) (fun h1=>?_)
 · rw [eq_comm,decide_eq_false_iff_not]
   rintro rfl
   omega
 have hl2:xs.length=ys.length:=by omega
 refine zbi (n:=xs.length) (by omega) (fun i h'=>h'=h∧xs.take i=ys.take i) ⟨rfl,by simp⟩ ?_
 rintro i _ hi ⟨rfl,heq⟩ k hk2
 refine za0 (fun h2=>?_) (fun h2=>?_)
 · have hi':i<xs.length:=by simp only at h2; omega
   refine hx.get i rfl hi' (hy.get i rfl (by omega) ?_)
   refine zax (fun h3=>hk _ _ (Hp.le_refl _) ?_) (fun h3=>hk2 _ hi' ⟨rfl,?_⟩)
   · rw [eq_comm,decide_eq_false_iff_not]
     rintro rfl
     exact h3 rfl
   · rw [←List.take_append_getElem hi',←List.take_append_getElem (show i<ys.length by omega),heq,h3]
 · have:i=xs.length:=by simp only at h2; omega
   subst this
   refine hk _ _ (Hp.le_refl _) ?_
   rw [List.take_length,hl2,List.take_length] at heq
   rw [eq_comm,decide_eq_true_iff]; exact heq
theorem za0e (hx:IL h l xs) (hlen:xs.length≤1000000) (H:∀y h',OI h h' y xs→Ks y h'):callP (F.zf3 l) Ks h:=by
 refine za1 (fun y h'=>OI h h' y xs) (fun K' hk=>?_) fun b h' _ hb=>H b h' hb
 unfold F.zf3
 have hl:=hx.len
 cases ha:l.a with
 | none=>
   refine zbt rfl ?_
   have h2:=hx.1.2
   rw [ha] at h2
   simp only [cellsAtO] at h2
   split at h2
   · rename_i h5
     have:xs=[]:=by simpa using h5
     subst this
     exact hk _ _ (Hp.le_refl _) OI.nil
   · cases h2
 | some a=>
   refine zah rfl ?_
   rw [←ha]
   intro b el hb
   refine ⟨xs.map ic,?_,?_⟩
   · have:=zrj (Hp.le_ins hb (b:=⟨[],el,(0,0)⟩)) hx.1.2
     rw [List.length_map] at this
     rw [hl,Nat.mul_one]; exact this
   · have ho:Own h (h.ins b ⟨[],el,(0,0)⟩) 1 ⟨some ⟨b,0,none⟩,0,0⟩ []:=⟨Hp.le_ins hb,rfl,Nat.le_refl _,rfl,rfl,hb,_,Hp.ins_same _ _ _,rfl,rfl,rfl⟩
     refine zik ho (n:=l.len) (new:=xs.map ic) (by simp [hl]) rfl (by simp [ic,Value.leaf]) (by simp only; omega) (by simp only; omega) fun y h' hy _=>?_
     rw [List.nil_append] at hy
     exact hk _ _ hy.1 hy
end
end Den
end

section
namespace Lx
abbrev B:=List UInt8
def isL (c:UInt8):Bool:=(97≤c&&c≤122)||(65≤c&&c≤90)
def isD (c:UInt8):Bool:=48≤c&&c≤57
def isW (c:UInt8):Bool:=isL c||isD c||c==95
def spn (p:UInt8→Bool):B→Nat
 | []=>0
 | c :: r=>if p c=true then spn p r+1 else 0
def num (l:B):Nat:=
 match l.drop (spn isD l) with
 | []=>spn isD l
 | c :: r=>if c=46∧0<spn isD r then spn isD l+1+spn isD r else spn isD l
def qs:Nat→B→Option (Nat×B)
 | 0,_=>none
 | _,[]=>none
 | f+1,c :: r=>
   if c<32 then none else if c=34 then some (1,[])
   else if c=92 then
    match r with
    | []=>none
    | d :: r'=>if d=34∨d=92∨d=110 then (qs f r').map fun p=>(p.1+2,(if d=110 then 10 else d) :: p.2) else none
   else (qs f r).map fun p=>(p.1+1,c :: p.2)
def quo (l:B):Option (Nat×B):=
 match l with
 | []=>none
 | c :: r=>if c=34 then (qs (r.length+1) r).map fun p=>(p.1+1,p.2) else none
def isNm (l:B):Bool:=
 match l with
 | []=>false
 | c :: r=>decide ((c :: r).length≤24)&&isL c&&(spn isW (c :: r)==(c :: r).length)
def wordN (l:B):Nat:=match l with | []=>0 | c :: _=>if isL c=true then spn isW l else 0
end Lx
end

section
namespace Den
open Go Lx
theorem zqc {l:List UInt8} {k:Nat} {c:UInt8} {r:List UInt8} (h:l.drop k=c :: r):l.drop (k+1)=r∧k<l.length:=by
 have h2:(l.drop k).length=r.length+1:=by rw [h]; rfl
 rw [List.length_drop] at h2
 refine ⟨?_,by omega⟩
 rw [←List.drop_drop,h]; rfl
theorem zabr (c:UInt8):isL c=((decide ((c.toNat:Int)≥97)&&decide ((c.toNat:Int)≤122))||(decide ((c.toNat:Int)≥65)&&decide ((c.toNat:Int)≤90))):=by
 rw [Bool.eq_iff_iff]
 simp [isL,UInt8.le_iff_toNat_le]
 omega
theorem zabq (c:UInt8):isD c=(decide ((c.toNat:Int)≥48)&&decide ((c.toNat:Int)≤57)):=by
 rw [Bool.eq_iff_iff]
 simp [isD,UInt8.le_iff_toNat_le]
 omega
theorem u8_eq {c:UInt8} {n:Nat} (hn:n<256):(c.toNat:Int)=(n:Int)↔c=UInt8.ofNat n:=by
 rw [←UInt8.toNat_inj]
 simp
 omega
section
variable {K : Bool → Hp → Prop} {Ki : Int → Hp → Prop} {h : Hp} {c : UInt8} {s : ByteArray}
theorem zo4 (H:K (isL c) h):F.zge c.toNat K h:=by
 rw [zabr] at H
 unfold F.zge
 generalize decide ((c.toNat:Int)≥97)=a1 at H ⊢
 generalize decide ((c.toNat:Int)≤122)=a2 at H ⊢
 generalize decide ((c.toNat:Int)≥65)=a3 at H ⊢
 cases a1<;>cases a2<;>cases a3<;>exact H
theorem ztd (H:K (isD c) h):F.zh9 c.toNat K h:=by
 rw [zabq] at H
 unfold F.zh9
 generalize decide ((c.toNat:Int)≥48)=a1 at H ⊢
 cases a1<;>exact H
theorem za77 (H:K (isW c) h):F.zjx c.toNat K h:=by
 unfold F.zjx
 refine zae (isL c) (fun K'=>zo4) ?_
 unfold isW at H
 cases h1:isL c
 · show callP (F.zh9 ↑c.toNat) (fun r2 h2=>ifP r2 (K true h2) (K ((c.toNat:Int)==95) h2)) h
   refine zae (isD c) (fun K'=>ztd) ?_
   rw [h1] at H
   cases h2:isD c
   · rw [h2] at H
     have:((c.toNat:Int)==95)=(c==95):=by
      rw [Bool.eq_iff_iff]
      simp only [beq_iff_eq]
      exact u8_eq (n:=95) (by decide)
     show K ((c.toNat:Int)==95) h
     rw [this]; exact H
   · rw [h2] at H; exact H
 · rw [h1] at H; exact H
theorem zyy (hs:s.size≤1000000) (H:Ki (spn isW (BS s)) h):F.zdt s Ki h:=by
 unfold F.zdt
 refine zal (fun st h'=>h'=h∧∃k:Nat,st=((k:Int),())∧spn isW (BS s)=k+spn isW ((BS s).drop k)) (fun st=>((s.size:Int)-st.1).toNat) ⟨rfl,0,rfl,by simp⟩ ?_
 rintro st h' ⟨rfl,k,rfl,hk⟩
 refine zxt (za0 (fun h1=>?_) (fun h1=>?_))
 · cases hd:(BS s).drop k with
   | nil=>have:=List.drop_eq_nil_iff.1 hd; rw [zcz] at this; simp only at h1; omega
   | cons c r=>
     obtain ⟨h2,h3⟩:=zqc hd
     rw [zcz] at h3
     refine zga hd rfl (zae (isW c) (fun K'=>za77) (za2 (fun h4=>?_) (fun h4=>?_)))
     · simp only at h1
       refine ⟨⟨rfl,k+1,by simp only; rw [w64 (by omega)]; rfl,?_⟩,by simp only; rw [w64 (by omega)]; omega⟩
       rw [h2,hk,hd]; simp only [spn,h4,if_true]; omega
     · rw [hk,hd] at H
       simp only [spn,h4] at H
       simpa using H
 · have hd:(BS s).drop k=[]:=by apply List.drop_eq_nil_of_le; rw [zcz]; simp only at h1; omega
   rw [hk,hd] at H
   simpa [spn] using H
end
end Den
end

section
namespace Den
open Go Lx
section
variable {Kp : Int × Int → Hp → Prop} {Kt : Sl × Int × Int → Hp → Prop} {K : Bool → Hp → Prop} {h : Hp} {s : ByteArray}
theorem zpx:(emptyS:ByteArray).toList=[]:=by rw [zhv]; rfl
theorem zv6 {A B:Prop} (hA:BS s≠[]→A) (hB:BS s=[]→B):ifP (!((s:ByteArray).toList==(emptyS:ByteArray).toList)) A B:=by
 rw [zpx,zhv]
 refine za2 (fun hh=>hA ?_) (fun hh=>hB ?_)
 · intro h0; rw [h0] at hh; cases hh
 · simpa using hh
theorem za3x (H:K (isNm (BS s)) h):F.zgd s K h:=by
 unfold F.zgd
 refine zv6 (fun h1=>?_) (fun h1=>by rw [h1] at H; exact H)
 cases hd:BS s with
 | nil=>exact absurd hd h1
 | cons c r=>
   have hl:s.size=(c :: r).length:=by rw [←zcz,hd]
   rw [hd] at H
   unfold isNm at H
   simp only at H
   refine za0 (fun h2=>?_) (fun h2=>?_)
   · rw [decide_eq_true (show (c :: r).length≤24 by omega)] at H
     refine zga (k:=0) (by rw [List.drop_zero]; exact hd) rfl (zae (isL c) (fun K'=>zo4) (za2 (fun h3=>?_) (fun h3=>?_)))
     · rw [h3] at H
       refine zae _ (fun K'=>zyy (by omega)) ?_
       have:((spn isW (BS s):Int)==(s.size:Int))=(spn isW (c :: r)==(c :: r).length):=by
        rw [Bool.eq_iff_iff]; simp only [beq_iff_eq]; rw [hd,hl]; omega
       rw [this]; simpa using H
     · rw [h3] at H; simpa using H
   · rw [decide_eq_false (show ¬(c :: r).length≤24 by omega)] at H
     exact H
end
end Den
end

section
namespace Den
open Go Lx
section
variable {Kp : Int × ByteArray → Hp → Prop} {Kt : Sl × Int × Int → Hp → Prop} {K : Bool → Hp → Prop} {Ki : Int → Hp → Prop} {h : Hp} {s : ByteArray} {c : UInt8} {p : Nat}
theorem ztx (H:K (isL c) h):F.zkb c.toNat K h:=zo4 H
theorem za7z (H:K (isD c) h):F.zo9 c.toNat K h:=ztd H
theorem zaan (hs:s.size≤1000000) (hp:p≤s.size) (H:Ki ((p+wordN ((BS s).drop p):Nat):Int) h):F.zmg s p Ki h:=by
 unfold F.zmg
 refine za3 (fun _ h1=>h1=h∧∃c r,(BS s).drop p=c :: r∧isL c=true) ?_ ?_
 · rintro _ h1 ⟨rfl,c0,r0,hd0,hL⟩
   have e0:wordN ((BS s).drop p)=spn isW ((BS s).drop p):=by rw [hd0]; simp [wordN,hL]
   rw [e0] at H
   refine zal (fun st h'=>h'=h1∧∃k:Nat,st=((k:Int),())∧p+spn isW ((BS s).drop p)=k+spn isW ((BS s).drop k)) (fun st=>((s.size:Int)-st.1).toNat) ⟨rfl,p,rfl,rfl⟩ ?_
   rintro st h' ⟨rfl,k,rfl,hk⟩
   refine za3 (fun _ h2=>h2=h'∧k<s.size∧∃c r,(BS s).drop k=c :: r∧isW c=true) ?_ ?_
   · rintro _ h2 ⟨rfl,hks,c,r,hd,hW⟩
     obtain ⟨h4,h3⟩:=zqc hd
     refine ⟨⟨rfl,k+1,by simp only; rw [w64 (by omega)]; rfl,?_⟩,by simp only; rw [w64 (by omega)]; omega⟩
     rw [h4,hk,hd]; simp only [spn,hW,if_true]; omega
   · have stop:(spn isW ((BS s).drop k)=0)→Ki ((k:Nat):Int) h':=fun h0=>by
      rw [hk,h0] at H; exact H
     refine za0 (fun h1=>?_) (fun h1=>?_)
     · cases hd:(BS s).drop k with
       | nil=>have:=List.drop_eq_nil_iff.1 hd; rw [zcz] at this; simp only at h1; omega
       | cons c r=>
         obtain ⟨h2,h3⟩:=zqc hd
         rw [zcz] at h3
         refine zga hd rfl (zae (isL c) (fun K'=>ztx) (za2 (fun h4=>?_) (fun h4=>?_)))
         · exact ⟨rfl,h3,c,r,rfl,by simp [isW,h4]⟩
         · refine zga hd rfl (zae (isD c) (fun K'=>za7z) (za2 (fun h5=>?_) (fun h5=>?_)))
           · exact ⟨rfl,h3,c,r,rfl,by simp [isW,h5]⟩
           · refine zga hd rfl (za7 (fun h6=>?_) (fun h6=>?_))
             · have:c=95:=(u8_eq (n:=95) (by decide)).1 h6
               exact ⟨rfl,h3,c,r,rfl,by simp [isW,this]⟩
             · have hc:c≠95:=fun hh=>h6 (by rw [hh]; rfl)
               refine stop ?_
               rw [hd]
               simp [spn,isW,h4,h5,hc]
     · have hd:(BS s).drop k=[]:=by apply List.drop_eq_nil_of_le; rw [zcz]; simp only at h1; omega
       exact stop (by rw [hd]; rfl)
 · have stop:wordN ((BS s).drop p)=0→Ki (p:Int) h:=fun h0=>by rw [h0] at H; exact H
   refine za7 (fun h1=>?_) (fun h1=>?_)
   · have hd:(BS s).drop p=[]:=by apply List.drop_eq_nil_of_le; rw [zcz]; omega
     exact stop (by rw [hd]; rfl)
   · cases hd:(BS s).drop p with
     | nil=>have:=List.drop_eq_nil_iff.1 hd; rw [zcz] at this; omega
     | cons c r=>
       refine zga hd rfl (zae (isL c) (fun K'=>ztx) (za2 (fun h4=>?_) (fun h4=>?_)))
       · have h5:isL c=false:=by simpa using h4
         exact stop (by rw [hd]; simp [wordN,h5])
       · have h5:isL c=true:=by simpa using h4
         exact ⟨rfl,c,r,rfl,h5⟩
def bcells (l:List UInt8):List Value:=l.map fun b=>.int .u8 b.toNat
end
end Den
end

section
namespace Den
open Go Lx
section
variable {Kt : Sl × Int × Int → Hp → Prop} {K : Bool → Hp → Prop} {h : Hp} {s : ByteArray}
theorem za39 (H:K (isNm (BS s)) h):F.zgg s K h:=by
 unfold F.zgg
 refine zv6 (fun h1=>?_) (fun h1=>by rw [h1] at H; exact H)
 cases hd:BS s with
 | nil=>exact absurd hd h1
 | cons c r=>
   have hl:s.size=(c :: r).length:=by rw [←zcz,hd]
   rw [hd] at H
   unfold isNm at H
   simp only at H
   refine za0 (fun h2=>?_) (fun h2=>?_)
   · rw [decide_eq_true (show (c :: r).length≤24 by omega)] at H
     refine zae _ (fun K' hk'=>zaan (p:=0) (by omega) (Nat.zero_le _) hk') ?_
     rw [List.drop_zero,hd]
     have:((((0+wordN (c :: r):Nat):Int))==(s.size:Int))=(true&&isL c&&(spn isW (c :: r)==(c :: r).length)):=by
      rw [Bool.eq_iff_iff]
      simp only [beq_iff_eq,Bool.true_and,Bool.and_eq_true]
      cases hL:isL c
      · simp only [wordN,hL,Bool.false_eq_true,if_false,false_and,iff_false]
        simp only [List.length_cons] at hl; omega
      · simp only [wordN,hL,if_true,true_and]
        omega
     rw [this]; exact H
   · rw [decide_eq_false (show ¬(c :: r).length≤24 by omega)] at H
     exact H
end
end Den
end

section
namespace Den
open Go Lx
section
variable {K : Bool → Hp → Prop} {h : Hp} {s : ByteArray}
end
end Den
end

section
namespace Den
open Go Lx
def OwnT (t:TypeId) (h0 h:Hp) (x:Sl) (cs:List Value):Prop:=Own h0 h 1 x cs∧∀a b,x.a=some a→h a.block=some b→b.elem=t
theorem zabx {h0 h:Hp} {x:Sl} {cs:List Value} {n:Nat} {bl:Blk} (ho:Own h0 h 1 x cs) (hn:h0 n=none) (hne:∀a,x.a=some a→a.block≠n):Own h0 (h.ins n bl) 1 x cs:=by
 obtain ⟨h1,h2,h3,h4⟩:=ho
 refine ⟨fun k b hk=>?_,h2,h3,?_⟩
 · rw [Hp.ins_ne (fun hh=>by rw [hh,hn] at hk; cases hk)]
   exact h1 k b hk
 · cases ha:x.a with
   | none=>rw [ha] at h4; exact h4
   | some a=>
     rw [ha] at h4
     obtain ⟨g1,g2,g3,b,g4,g5⟩:=h4
     exact ⟨g1,g2,g3,b,by rw [Hp.ins_ne (hne a ha)]; exact g4,g5⟩
theorem OwnT.ins {t:TypeId} {h0 h:Hp} {x:Sl} {cs:List Value} {n:Nat} {bl:Blk} (ho:OwnT t h0 h x cs) (hn:h0 n=none) (hne:∀a,x.a=some a→a.block≠n):OwnT t h0 (h.ins n bl) x cs:=
 ⟨zabx ho.1 hn hne,fun a b ha hb=>ho.2 a b ha (by rwa [Hp.ins_ne (hne a ha)] at hb)⟩
theorem za9t {t:TypeId} {h0 h:Hp} {n N:Nat} {zero new cs:List Value} {x:Sl} {K:Sl→Hp→Prop} (hN:h N≠none) (hNx:∀a,x.a=some a→a.block≠N) (ho:OwnT t h0 h x cs) (hn:new.length=n) (hz:zero.length=1)
 (hleaf:new.all Value.leaf=true) (hb:x.len+n≤140737488355328)
 (H:∀y h',OwnT t h0 h' y (cs++new)→(∀a,y.a=some a→a.block≠N)→h' N=h N→y.len=x.len+n→(y.a=none→x.a=none∧n=0)→K y h'):appT t 1 1 zero x n new K h:=by
 obtain ⟨ho,hel⟩:=ho
 have hrd:=ho.rd
 obtain ⟨h1,h2,h3,h4⟩:=ho
 rw [Nat.mul_one] at h2
 refine ⟨by rw [Nat.mul_one]; exact hb,hb,fun hfit=>?_,fun hgrow=>?_⟩
 · cases ha:x.a with
   | none=>
     rw [ha] at h4
     simp only at h4
     have hn0:n=0:=by omega
     have hnew:new=[]:=List.eq_nil_of_length_eq_zero (by omega)
     subst hnew hn0
     simp only [stO]
     refine H _ _ ⟨⟨h1,?_,?_,?_⟩,fun a b hh=>by cases hh⟩ (fun a hh=>by cases hh) rfl rfl (fun _=>⟨ha,rfl⟩)
     · simpa using h2
     · show x.len+0≤x.cap; omega
     · show x.cap=0; exact h4
   | some a=>
     rw [ha] at h4
     obtain ⟨g1,g2,g3,b,g4,g5,g6,g7⟩:=h4
     rw [Nat.mul_one] at g6
     simp only [stO]
     refine ⟨b,by rw [zbg]; exact g4,zdw g2 _,g5,?_,hleaf,?_⟩
     · rw [zcs]; omega
     · rw [zbg,zcs]
       have hne:=hNx a ha
       refine H _ _ ⟨⟨?_,?_,hfit,?_⟩,?_⟩ (fun a' hh=>by cases hh; exact hne) ?_ rfl (fun hh=>by cases hh)
       · intro k bk hk
         rw [Hp.ins_ne (fun hh=>by subst hh; rw [g3] at hk; cases hk)]
         exact h1 k bk hk
       · show (x.len+n)*1=_; rw [List.length_append]; omega
       · refine ⟨g1,g2,g3,_,Hp.ins_same _ _ _,g5,?_,?_⟩
         · show (splice b.cells (a.off+x.len*1) new).length=_
           unfold splice
           simp only [List.length_append,List.length_take,List.length_drop]
           show _=x.cap*1
           omega
         · show (splice b.cells (a.off+x.len*1) new).take _=_
           have hoff:a.off+x.len*1=cs.length:=by omega
           unfold splice
           rw [hoff,g7,List.append_assoc,List.length_append,List.take_append]
           simp only [Nat.add_sub_cancel_left]
           rw [List.take_of_length_le (by omega),List.take_append,List.take_of_length_le (Nat.le_refl _)]
           simp
       · intro a' b' ha' hb'
         cases ha'
         rw [Hp.ins_same] at hb'
         cases hb'
         exact hel a b ha g4
       · rw [Hp.ins_ne (Ne.symm hne)]
 · refine ⟨cs,?_,fun bk c hc hfr=>?_⟩
   · rw [Nat.mul_one,h2]; exact hrd.2
   · have hbN:bk≠N:=fun hh=>by rw [hh] at hfr; exact hN hfr
     refine H _ _ ⟨⟨Hp.le_trans h1 (Hp.le_ins hfr),?_,hc,?_⟩,?_⟩ (fun a hh=>by cases hh; exact hbN) (Hp.ins_ne (Ne.symm hbN)) rfl (fun hh=>by cases hh)
     · show (x.len+n)*1=_; rw [List.length_append]; omega
     · refine ⟨rfl,rfl,?_,_,Hp.ins_same _ _ _,rfl,?_,?_⟩
       · cases hk:h0 bk with
         | none=>rfl
         | some b=>have:=h1 _ _ hk; rw [hfr] at this; cases this
       · show (cs++new++repl (c-(x.len+n)) zero).length=c*1
         have hr:(repl (c-(x.len+n)) zero).length=(c-(x.len+n)):=by
          unfold repl
          simp [hz]
         rw [List.length_append,List.length_append,hr]
         omega
       · show (cs++new++repl (c-(x.len+n)) zero).take _=cs++new
         rw [List.take_append_of_le_length (by simp)]
         exact List.take_of_length_le (Nat.le_refl _)
     · intro a' b' ha' hb'
       cases ha'
       have hb'':(h.ins bk ⟨cs++new++repl (c-(x.len+n)) zero,t,(0,0)⟩) bk=some b':=hb'
       rw [Hp.ins_same] at hb''
       cases hb''
       rfl
def BLD (h0 h:Hp) (n:Nat) (l:List UInt8):Prop:=
 ∃q x,h n=some ⟨[q,.slice x.a x.len x.cap],239,(0,0)⟩∧(q=.pointer none∨q=.pointer (some ⟨n,0,none⟩))∧h0 n=none ∧
  OwnT 5 h0 h x (bcells l)∧(∀a,x.a=some a→a.block≠n)∧(x.a=none∨l≠[])
def BLU (h0 h:Hp) (n:Nat) (l:List UInt8):Prop:=
 ∃x,h n=some ⟨[.pointer (some ⟨n,0,none⟩),.slice x.a x.len x.cap],239,(0,0)⟩∧h0 n=none ∧
  OwnT 5 h0 h x (bcells l)∧(∀a,x.a=some a→a.block≠n)∧(x.a=none∨l≠[])
theorem BLD.hle {h0 h:Hp} {n:Nat} {l:List UInt8} (hb:BLD h0 h n l):h0.le h:=by
 obtain ⟨q,x,h1,h2,h3,h4,h5⟩:=hb
 exact h4.1.1
theorem zil {l:List UInt8}:(bcells l).length=l.length:=by simp [bcells]
theorem za2k {l m:List UInt8}:bcells (l++m)=bcells l++bcells m:=by simp [bcells]
theorem za00 {l:List UInt8}:(bcells l).all Value.leaf=true:=by simp [bcells,Value.leaf]
section
variable {h0 h : Hp} {n : Nat} {l : List UInt8}
theorem zabu {K:Addr→Hp→Prop} (H:∀n h',BLD h h' n []→K ⟨n,0,none⟩ h'):newT 239 [.pointer none,.slice nilS.a nilS.len nilS.cap] K h:=by
 intro b hb
 refine H b _ ⟨.pointer none,nilS,Hp.ins_same _ _ _,.inl rfl,hb,⟨Own.nil (Hp.le_ins hb),(fun a b' ha=>by cases ha)⟩,(fun a ha=>by cases ha),.inl rfl⟩
theorem zqa {K:Unit→Hp→Prop} (hb:BLD h0 h n l) (H:∀h',BLU h0 h' n l→K () h'):callM (F.zdb (some ⟨n,0,none⟩)) K h:=by
 refine zhx ?_
 obtain ⟨q,x,h1,h2,h3,h4,h5,h6⟩:=hb
 refine ⟨n,_,rfl,h1,rfl,rfl,rfl,?_⟩
 rcases h2 with rfl | rfl
 · exact .inl ⟨rfl,H _ ⟨x,Hp.ins_same _ _ _,h3,h4.ins h3 h5,h5,h6⟩⟩
 · exact .inr ⟨rfl,H _ ⟨x,h1,h3,h4,h5,h6⟩⟩
theorem za18 {m:List UInt8} {k:Nat} {K:Hp→Prop} (hb:BLU h0 h n l) (hk:m.length=k) (hlen:l.length+k≤140737488355328) (hm:m≠[]∨l≠[]) (H:∀h',BLD h0 h' n (l++m)→K h') :
 ldL (.sl) ((⟨n,0,none⟩:Addr).add 1) (fun x3=>appT 5 1 1 [.int .u8 0] x3 k (bcells m) (fun w4 h2=>ptrK (some ⟨n,0,none⟩) fun p5=>stP (p5.add 1) [.slice w4.a w4.len w4.cap] (fun h3=>K h3) h2) h) h:=by
 obtain ⟨x,h1,h3,h4,h5,h6⟩:=hb
 have hl:x.len=l.length:=by have:=h4.1.2.1; rw [zil] at this; omega
 refine ⟨x,?_,?_⟩
 · rw [zg2]
   unfold Hp.cell
   simp only [h1]
   rfl
 · refine za9t (N:=n) (by rw [h1]; simp) h5 h4 (by rw [zil]; exact hk) rfl za00 (by omega) fun y h' hy hyn hn hlen' hya=>?_
   rw [h1] at hn
   refine ⟨_,by rw [zbg]; exact hn,by rw [zg2],rfl,by rw [zg2]; exact Nat.le_refl _,rfl,H _ ⟨_,y,Hp.ins_same _ _ _,.inr rfl,h3,?_,hyn,?_⟩⟩
   · rw [za2k]; exact hy.ins h3 hyn
   · right
     cases l with
     | nil=>exact hm.elim id fun hh=>absurd rfl hh
     | cons a b=>simp
theorem zuc {s:ByteArray} {K:(Int×Value)→Hp→Prop} (hb:BLD h0 h n l) (hlen:l.length≤1000000) (hs:BS s≠[]) (hs2:s.size≤1000000) (H:∀h',BLD h0 h' n (l++BS s)→K ((s.size:Int),.nilIface) h'):callM (F.zb1 (some ⟨n,0,none⟩) s) K h:=by
 refine zhx ?_
 unfold F.zb1
 exact zqa hb fun h1 hb1=>za18 (m:=BS s) hb1 (zcz s) (by omega) (.inl hs) fun h' hb'=>H _ hb'
theorem zsq {s:ByteArray} {K:(Int×Value)→Hp→Prop} (hb:BLD h0 h n l) (hlen:l.length≤1000000) (hs:BS s≠[]∨l≠[]) (hs2:s.size≤1000000) (H:∀h',BLD h0 h' n (l++BS s)→K ((s.size:Int),.nilIface) h'):callM (F.zb1 (some ⟨n,0,none⟩) s) K h:=by
 refine zhx ?_
 unfold F.zb1
 exact zqa hb fun h1 hb1=>za18 (m:=BS s) hb1 (zcz s) (by omega) hs fun h' hb'=>H _ hb'
theorem za41 {K:ByteArray→Hp→Prop} (hb:BLD h0 h n l) (hlen:l.length≤1000000) (H:∀h',h0.le h'→K ⟨l.toArray⟩ h'):callM (F.zeb (some ⟨n,0,none⟩)) K h:=by
 refine zhx ?_
 obtain ⟨q,x,h1,h2,h3,h4,h5,h6⟩:=hb
 obtain ⟨⟨g0,g1,g2,g3⟩,hel⟩:=h4
 rw [zil] at g1
 refine ⟨n,_,q,rfl,h1,rfl,rfl,?_⟩
 cases ha:x.a with
 | none=>
   rw [ha] at g3
   simp only at g3
   have hl0:l=[]:=List.eq_nil_of_length_eq_zero (by omega)
   subst hl0
   refine .inl ⟨?_,H h g0⟩
   have e1:x.len=0:=by omega
   rw [e1,g3]
 | some a=>
   rw [ha] at g3
   obtain ⟨i1,i2,i3,b,i4,i5,i6,i7⟩:=g3
   have hne:l≠[]:=by
    rcases h6 with h6 | h6
    · rw [ha] at h6; cases h6
    · exact h6
   obtain ⟨g,off,sp⟩:=a
   simp only at i1 i2
   subst i1 i2
   refine .inr ⟨g,x.cap,l,b,hne,?_,by omega,i4,hel _ _ ha i4,by omega,by omega,fun j y hj=>?_,H _ fun k c hk=>?_⟩
   · have e1:x.len=l.length:=by omega
     rw [e1]
   · have hlt:j<l.length:=by
      rcases Nat.lt_or_ge j l.length with hh | hh
      · exact hh
      · rw [List.getElem?_eq_none hh] at hj; cases hj
     have:(b.cells.take (bcells l).length)[j]?=(bcells l)[j]?:=by rw [i7]
     rw [zil,List.getElem?_take_of_lt hlt] at this
     rw [this]
     unfold bcells
     rw [List.getElem?_map,hj]
     rfl
   · have hkg:k≠g:=fun hh=>by
      subst hh
      have i3':h0 k=none:=i3
      rw [i3'] at hk; cases hk
     simp only [if_neg hkg]
     exact g0 k c hk
end
end Den
end

section
namespace Den
open Go Iv Lx
def dgt (n:Nat):Nat:=if h:n<10 then 1 else dgt (n/10)+1
termination_by n
decreasing_by omega
theorem zfe {n:Nat} (h:n<10):dgt n=1:=by unfold dgt; rw [dif_pos h]
theorem zd6 {n:Nat} (h:10≤n):dgt n=dgt (n/10)+1:=by
 conv=>lhs; unfold dgt
 rw [dif_neg (by omega)]
theorem zui (n:Nat):1≤dgt n:=by
 by_cases h:n<10
 · rw [zfe h]; exact Nat.le_refl _
 · rw [zd6 (by omega)]; omega
def dg9 (n:Nat):Nat:=if n<10 then 1 else if n<100 then 2 else if n<1000 then 3 else if n<10000 then 4 else if n<100000 then 5 else if n<1000000 then 6 else if n<10000000 then 7 else if n<100000000 then 8 else 9
theorem dgt_9 {n:Nat} (h:n<1000000000):dgt n=dg9 n:=by
 unfold dg9
 by_cases h1:n<10
 · rw [if_pos h1,zfe h1]
 rw [if_neg h1,zd6 (by omega)]
 by_cases h2:n<100
 · rw [if_pos h2,zfe (by omega)]
 rw [if_neg h2,zd6 (by omega)]
 by_cases h3:n<1000
 · rw [if_pos h3,zfe (by omega)]
 rw [if_neg h3,zd6 (by omega)]
 by_cases h4:n<10000
 · rw [if_pos h4,zfe (by omega)]
 rw [if_neg h4,zd6 (by omega)]
 by_cases h5:n<100000
 · rw [if_pos h5,zfe (by omega)]
 rw [if_neg h5,zd6 (by omega)]
 by_cases h6:n<1000000
 · rw [if_pos h6,zfe (by omega)]
 rw [if_neg h6,zd6 (by omega)]
 by_cases h7:n<10000000
 · rw [if_pos h7,zfe (by omega)]
 rw [if_neg h7,zd6 (by omega)]
 by_cases h8:n<100000000
 · rw [if_pos h8,zfe (by omega)]
 rw [if_neg h8,zd6 (by omega),zfe (by omega)]
theorem zabi {n:Nat} (h:1000000000≤n):dgt n=dgt (n/1000000000)+9:=by
 rw [zd6 (n:=n) (by omega),zd6 (n:=n/10) (by omega),zd6 (n:=n/10/10) (by omega),zd6 (n:=n/10/10/10) (by omega),zd6 (n:=n/10/10/10/10) (by omega),
  zd6 (n:=n/10/10/10/10/10) (by omega),zd6 (n:=n/10/10/10/10/10/10) (by omega),zd6 (n:=n/10/10/10/10/10/10/10) (by omega),zd6 (n:=n/10/10/10/10/10/10/10/10) (by omega)]
 have:n/10/10/10/10/10/10/10/10/10=n/1000000000:=by omega
 rw [this]
theorem za4e {n k:Nat}:∀{k n:Nat},n<10 ^ (k+1)→dgt n≤k+1
 | 0,n,h=>by rw [zfe (by simpa using h)]; exact Nat.le_refl _
 | k+1,n,h=>by
   by_cases h1:n<10
   · rw [zfe h1]; omega
   · rw [zd6 (by omega)]
     have:n/10<10 ^ (k+1):=by rw [Nat.div_lt_iff_lt_mul (by decide),←Nat.pow_succ]; exact h
     have:=za4e (n:=n) (k:=k) this
     omega
section
variable {h : Hp} {s : ByteArray} {i lo hi : Int}
theorem zabo {K:Int→Prop} (h0:0≤i) (h1:i<s.size) (H:∀b:UInt8,s[i.toNat]?=some b→K (b.toNat:Int)):strIdx s i K:=by
 have:i.toNat<s.size:=by omega
 exact ⟨h0,s[i.toNat],by simp [this],H _ (by simp [this])⟩
theorem zjl {K:ByteArray→Prop} (h0:0≤lo) (h1:lo≤hi) (h2:hi≤s.size) (H:∀t:ByteArray,(t.size:Int)=hi-lo→BS t=((BS s).drop lo.toNat).take (hi.toNat-lo.toNat)→K t):strCut s lo hi K:=by
 refine ⟨h0,h1,h2,H _ ?_ za2b⟩
 rw [ByteArray.size_extract]; omega
end
theorem w64n {n:Nat} (h:n≤9223372036854775807):IntKind.i64.wrap (n:Int)=n:=w64 (by omega)
section
variable {h : Hp} {Kt : ByteArray → Hp → Prop} {Ki : Int → Hp → Prop} {Kb : Bool → Hp → Prop}
theorem zo6 {s t:ByteArray} (hs:t.size=1) (hs0:1≤s.size) (H:∀h',h.le h'→Kb (decide ((BS s)[0]?=(BS t)[0]?)) h'):callP (F.za8 s t) Kb h:=by
 refine za1 (fun b h'=>b=decide ((BS s)[0]?=(BS t)[0]?)) (fun K' hk=>?_) fun b h' hl hb=>by subst hb; exact H h' hl
 unfold F.za8
 refine za1 (fun b h'=>b=decide ((BS s)[0]?=(BS t)[0]?)) (fun K2 hk2=>?_) fun b h' hl hb=>hk _ _ hl hb
 unfold F.zdf
 refine za0 (fun _=>?_) (fun h1=>absurd (by omega) h1)
 refine zjl (by decide) (by omega) (by omega) fun c hc hb=>hk2 _ _ (Hp.le_refl _) ?_
 rw [zhv,zhv,hb]
 have l1:=zcz s
 have l2:=zcz t
 cases hS:BS s with
 | nil=>rw [hS] at l1; simp at l1; omega
 | cons a r=>
   cases hT:BS t with
   | nil=>rw [hT] at l2; simp at l2; omega
   | cons b q=>
     have:q=[]:=by rw [hT] at l2; simp at l2; exact List.eq_nil_of_length_eq_zero (by omega)
     subst this
     rw [hs]
     simp
     by_cases hab:a=b<;>simp [hab]
theorem zabb {n:Nat} (hn:n≤64) {K:(Int×Int)→Hp→Prop} (H:∀h',h.le h'→K (0,(n:Int)) h'):callP (F.zj9 1 (n:Int)) K h:=by
 refine za1 (fun v h'=>v=(0,(n:Int))) (fun K' hk=>?_) fun b h' hl hb=>by subst hb; exact H h' hl
 unfold F.zj9
 refine za1 (fun v h'=>v=(0,(n:Int))) (fun K2 hk2=>?_) fun b h' hl hb=>by subst hb; exact hk _ _ hl rfl
 unfold F.zk0
 refine ⟨by decide,by decide,by decide,by decide,by decide,?_⟩
 refine hk2 _ _ (Hp.le_refl _) ?_
 clear hk hk2 H K' K2
 revert n
 decide +kernel
theorem zrg {n:Nat} (hn:n≤64) (H:∀s h',h.le h'→s.size=n→Kt s h'):callP (F.zfb ⟨#[48]⟩ (n:Int)) Kt h:=by
 refine za1 (fun s h'=>s.size=n) (fun K' hk=>?_) fun b h' hl hb=>H b h' hl hb
 unfold F.zfb
 refine za7 (fun h1=>hk _ _ (Hp.le_refl _) ?_) (fun h1=>?_)
 · have:n=0:=by omega
   subst this; rfl
 refine za7 (fun h2=>hk _ _ (Hp.le_refl _) ?_) (fun h2=>?_)
 · have:n=1:=by omega
   subst this; rfl
 refine za3 (fun _ h'=>h.le h') ?_ (za0 (fun hh=>absurd hh (by omega)) fun _=>Hp.le_refl _)
 intro _ h1' hl1
 have e1:IntKind.u64.wrap (((⟨#[48]⟩:ByteArray).size:Int))=1:=by decide
 have e2:IntKind.u64.wrap (n:Int)=(n:Int):=wu64 (by omega)
 rw [e1,e2]
 refine zabb hn fun h2 hl2=>?_
 have l2:=Hp.le_trans hl1 hl2
 refine za3 (fun _ h'=>h.le h') ?_ (za0 (fun hh=>absurd hh (by simp)) fun _=>za0 (fun hh=>absurd hh (by simp only; omega)) fun _=>l2)
 intro _ h3 hl3
 refine za7 (fun hh=>absurd hh (by decide)) (fun _=>?_)
 have e3:IntKind.i64.wrap (n:Int)=(n:Int):=w64n (by omega)
 simp only [e3]
 refine za3 (fun _ _=>False) (fun _ _ hh=>hh.elim) ?_
 refine ⟨by decide,48,rfl,?_⟩
 refine za3 (fun s h'=>s.1=true∧h.le h') ?_ ?_
 · rintro ⟨b,_⟩ h4 ⟨rfl,hl4⟩
   refine zbt rfl ?_
   refine za0 (fun _=>?_) (fun hh=>absurd (by omega) hh)
   refine zo6 rfl (by decide +kernel) fun h5 hl5=>zah (by decide +kernel) ?_
   refine za0 (fun _=>?_) (fun hh=>absurd (by omega) hh)
   refine zo6 rfl (by decide +kernel) fun h6 hl6=>zah (by decide +kernel) ?_
   refine za0 (fun _=>?_) (fun hh=>absurd (by omega) hh)
   refine zo6 rfl (by decide +kernel) fun h7 hl7=>zbt (by decide +kernel) ?_
   refine zjl (by decide) (by omega) (by have:(⟨#[48,48,48,48,48,48,48,48,48,48,48,48,48,48,48,48,48,48,48,48,48,48,48,48,48,48,48,48,48,48,48,48,48,48,48,48,48,48,48,48,48,48,48,48,48,48,48,48,48,48,48,48,48,48,48,48,48,48,48,48,48,48,48,48]⟩:ByteArray).size=64:=rfl; rw [this]; omega) fun t ht _=>hk _ _ (Hp.le_trans hl4 (Hp.le_trans hl5 (Hp.le_trans hl6 hl7))) ?_
   omega
 · refine za7 (fun hh=>absurd hh (by decide)) (fun _=>?_)
   refine za7 (fun hh=>absurd hh (by decide)) (fun _=>?_)
   refine za7 (fun _=>⟨by decide,hl3⟩) (fun hh=>absurd rfl hh)
def P10 (h:Hp):Prop:=∀i:Nat,i<20→h.cell ((⟨3,0,none⟩:Addr).add i)=some (.int .u64 ((10 ^ i:Nat):Int))
theorem P10.le {h':Hp} (ht:P10 h) (hl:h.le h'):P10 h':=fun i hi=>Hp.cell_le hl (ht i hi)
theorem wu8 {n:Int} (h:0≤n∧n≤255):IntKind.u8.wrap n=n:=by
 unfold IntKind.wrap
 simp only [IntKind.signed,IntKind.bits]
 exact Int.emod_eq_of_lt h.1 (by omega)
theorem tab8 {K:Int→Prop} {x:Nat} (hx:x<256) (H:∀r:Nat,(x=0→r=0)→(0<x→1≤r∧2 ^ (r-1)≤x∧x<2 ^ r)→r≤8→K (r:Int)):strIdx ⟨#[0,1,2,2,3,3,3,3,4,4,4,4,4,4,4,4,5,5,5,5,5,5,5,5,5,5,5,5,5,5,5,5,6,6,6,6,6,6,6,6,6,6,6,6,6,6,6,6,6,6,6,6,6,6,6,6,6,6,6,6,6,6,6,6,7,7,7,7,7,7,7,7,7,7,7,7,7,7,7,7,7,7,7,7,7,7,7,7,7,7,7,7,7,7,7,7,7,7,7,7,7,7,7,7,7,7,7,7,7,7,7,7,7,7,7,7,7,7,7,7,7,7,7,7,7,7,7,7,8,8,8,8,8,8,8,8,8,8,8,8,8,8,8,8,8,8,8,8,8,8,8,8,8,8,8,8,8,8,8,8,8,8,8,8,8,8,8,8,8,8,8,8,8,8,8,8,8,8,8,8,8,8,8,8,8,8,8,8,8,8,8,8,8,8,8,8,8,8,8,8,8,8,8,8,8,8,8,8,8,8,8,8,8,8,8,8,8,8,8,8,8,8,8,8,8,8,8,8,8,8,8,8,8,8,8,8,8,8,8,8,8,8,8,8,8,8,8,8,8,8,8,8,8,8,8,8]⟩ (x:Int) K:=by
 have key:∀x:Nat,x<256→((⟨#[0,1,2,2,3,3,3,3,4,4,4,4,4,4,4,4,5,5,5,5,5,5,5,5,5,5,5,5,5,5,5,5,6,6,6,6,6,6,6,6,6,6,6,6,6,6,6,6,6,6,6,6,6,6,6,6,6,6,6,6,6,6,6,6,7,7,7,7,7,7,7,7,7,7,7,7,7,7,7,7,7,7,7,7,7,7,7,7,7,7,7,7,7,7,7,7,7,7,7,7,7,7,7,7,7,7,7,7,7,7,7,7,7,7,7,7,7,7,7,7,7,7,7,7,7,7,7,7,8,8,8,8,8,8,8,8,8,8,8,8,8,8,8,8,8,8,8,8,8,8,8,8,8,8,8,8,8,8,8,8,8,8,8,8,8,8,8,8,8,8,8,8,8,8,8,8,8,8,8,8,8,8,8,8,8,8,8,8,8,8,8,8,8,8,8,8,8,8,8,8,8,8,8,8,8,8,8,8,8,8,8,8,8,8,8,8,8,8,8,8,8,8,8,8,8,8,8,8,8,8,8,8,8,8,8,8,8,8,8,8,8,8,8,8,8,8,8,8,8,8,8,8,8,8,8,8]⟩:ByteArray)[x]?).any (fun b=>decide ((x=0→b.toNat=0)∧(0<x→1≤b.toNat∧2 ^ (b.toNat-1)≤x∧x<2 ^ b.toNat)∧b.toNat≤8))=true:=by decide +kernel
 have k:=key x hx
 refine ⟨by omega,?_⟩
 rw [Int.toNat_natCast]
 cases hb:(⟨#[0,1,2,2,3,3,3,3,4,4,4,4,4,4,4,4,5,5,5,5,5,5,5,5,5,5,5,5,5,5,5,5,6,6,6,6,6,6,6,6,6,6,6,6,6,6,6,6,6,6,6,6,6,6,6,6,6,6,6,6,6,6,6,6,7,7,7,7,7,7,7,7,7,7,7,7,7,7,7,7,7,7,7,7,7,7,7,7,7,7,7,7,7,7,7,7,7,7,7,7,7,7,7,7,7,7,7,7,7,7,7,7,7,7,7,7,7,7,7,7,7,7,7,7,7,7,7,7,8,8,8,8,8,8,8,8,8,8,8,8,8,8,8,8,8,8,8,8,8,8,8,8,8,8,8,8,8,8,8,8,8,8,8,8,8,8,8,8,8,8,8,8,8,8,8,8,8,8,8,8,8,8,8,8,8,8,8,8,8,8,8,8,8,8,8,8,8,8,8,8,8,8,8,8,8,8,8,8,8,8,8,8,8,8,8,8,8,8,8,8,8,8,8,8,8,8,8,8,8,8,8,8,8,8,8,8,8,8,8,8,8,8,8,8,8,8,8,8,8,8,8,8,8,8,8,8]⟩:ByteArray)[x]? with
 | none=>rw [hb] at k; cases k
 | some b=>
   rw [hb] at k
   obtain ⟨k1,k2,k3⟩:=of_decide_eq_true (show decide _=true from k)
   exact ⟨b,rfl,H _ k1 k2 k3⟩
theorem fd {x k:Nat}:(x:Int).fdiv ((2:Int) ^ k)=((x/2 ^ k:Nat):Int):=by
 have e:((2:Int) ^ k)=((2 ^ k:Nat):Int):=by simp
 rw [e,Int.fdiv_eq_ediv_of_nonneg _ (Int.natCast_nonneg _)]; rfl
theorem za2e {x:Nat} (hx:x<4294967296) (H:∀(r:Nat) h',h.le h'→(x=0→r=0)→(0<x→1≤r∧2 ^ (r-1)≤x∧x<2 ^ r)→r≤32→Ki (r:Int) h'):callP (F.zhq (x:Int)) Ki h:=by
 refine za1 (fun v h'=>∃r:Nat,v=(r:Int)∧(x=0→r=0)∧(0<x→1≤r∧2 ^ (r-1)≤x∧x<2 ^ r)∧r≤32) (fun K' hk=>?_) fun b h' hl ⟨r,hb,a1,a2,a3⟩=>by subst hb; exact H r h' hl a1 a2 a3
 unfold F.zhq
 refine za3 (fun s h'=>h.le h'∧s=((x:Int),0,())) ?_ (za0 (fun hh=>absurd hh (by omega)) fun _=>⟨Hp.le_refl _,rfl⟩)
 rintro _ g1 ⟨l1,rfl⟩
 refine za3 (fun s h'=>h.le h'∧∃a y:Nat,s=((y:Int),(a:Int),())∧y<65536∧a≤16∧(a=16→0<y)∧(a=0∨a=16)∧y=x/2 ^ a) ?_ ?_
 · rintro _ g2 ⟨l2,a,y,rfl,hy,ha,hay,ha2,e⟩
   refine za3 (fun s h'=>h.le h'∧∃a y:Nat,s=((y:Int),(a:Int),())∧y<256∧a≤24∧(0<a→0<y)∧y=x/2 ^ a) ?_ ?_
   · rintro _ g3 ⟨l3,a,y,rfl,hy,ha,hay,e⟩
     have e1:IntKind.u8.wrap (y:Int)=(y:Int):=wu8 (by omega)
     rw [e1]
     refine tab8 hy fun r r0 r1 r8=>hk _ _ l3 ⟨a+r,?_,fun hx0=>?_,fun hx0=>?_,by omega⟩
     · show IntKind.i64.wrap ((a:Int)+IntKind.i64.wrap (r:Int))=_
       rw [w64n (n:=r) (by omega),w64 (by omega)]; omega
     · subst hx0
       have hy0:y=0:=by rw [e]; simp
       have ha0:a=0:=Classical.byContradiction fun hh=>by have:=hay (by omega); omega
       rw [r0 hy0,ha0]
     · by_cases hy0:0<y
       · obtain ⟨k1,k2,k3⟩:=r1 hy0
         rw [e,Nat.le_div_iff_mul_le (Nat.two_pow_pos a),←Nat.pow_add] at k2
         rw [e,Nat.div_lt_iff_lt_mul (Nat.two_pow_pos a),←Nat.pow_add] at k3
         refine ⟨by omega,?_,?_⟩
         · rw [show a+r-1=r-1+a by omega]; exact k2
         · rw [Nat.add_comm a r]; exact k3
       · exfalso
         have ha0:a=0:=Classical.byContradiction fun hh=>by have:=hay (by omega); omega
         rw [ha0] at e
         simp at e
         omega
   · simp only
     refine za0 (fun h2=>⟨by decide,l2,a+8,y/2 ^ 8,?_,by omega,by omega,fun _=>by omega,?_⟩) (fun h2=>⟨l2,a,y,rfl,by omega,by omega,fun h0=>by rcases ha2 with rfl | rfl; omega; exact hay rfl,e⟩)
     · have:(min (8:Int).toNat IntKind.u64.bits)=8:=rfl
       rw [this,fd,w64 (by omega)]; rfl
     · rw [e,Nat.div_div_eq_div_mul,←Nat.pow_add]
 · simp only
   refine za0 (fun h2=>⟨by decide,l1,16,x/2 ^ 16,?_,by omega,by decide,fun _=>by omega,.inr rfl,rfl⟩) (fun h2=>⟨l1,0,x,rfl,by omega,by decide,fun hh=>absurd hh (by decide),.inl rfl,by simp⟩)
   have:(min (16:Int).toNat IntKind.u64.bits)=16:=rfl
   rw [this,fd,w64 (by omega)]; rfl
theorem dig_7 {x:Nat} (h3:x<1000000000) (h1:2 ^ (7-1)≤x) (h2:x<2 ^ 7):7*78913/262144+(if 10 ^ (7*78913/262144)≤x then 1 else 0)=dg9 x:=by
 simp only [Nat.reduceSub,Nat.reducePow,Nat.reduceMul,Nat.reduceDiv] at h1 h2 ⊢
 unfold dg9
 (repeat' split)<;>omega
theorem dig_8 {x:Nat} (h3:x<1000000000) (h1:2 ^ (8-1)≤x) (h2:x<2 ^ 8):8*78913/262144+(if 10 ^ (8*78913/262144)≤x then 1 else 0)=dg9 x:=by
 simp only [Nat.reduceSub,Nat.reducePow,Nat.reduceMul,Nat.reduceDiv] at h1 h2 ⊢
 unfold dg9
 (repeat' split)<;>omega
theorem dig_9 {x:Nat} (h3:x<1000000000) (h1:2 ^ (9-1)≤x) (h2:x<2 ^ 9):9*78913/262144+(if 10 ^ (9*78913/262144)≤x then 1 else 0)=dg9 x:=by
 simp only [Nat.reduceSub,Nat.reducePow,Nat.reduceMul,Nat.reduceDiv] at h1 h2 ⊢
 unfold dg9
 (repeat' split)<;>omega
theorem zacr {x:Nat} (h3:x<1000000000) (h1:2 ^ (10-1)≤x) (h2:x<2 ^ 10):10*78913/262144+(if 10 ^ (10*78913/262144)≤x then 1 else 0)=dg9 x:=by
 simp only [Nat.reduceSub,Nat.reducePow,Nat.reduceMul,Nat.reduceDiv] at h1 h2 ⊢
 unfold dg9
 (repeat' split)<;>omega
theorem zacs {x:Nat} (h3:x<1000000000) (h1:2 ^ (11-1)≤x) (h2:x<2 ^ 11):11*78913/262144+(if 10 ^ (11*78913/262144)≤x then 1 else 0)=dg9 x:=by
 simp only [Nat.reduceSub,Nat.reducePow,Nat.reduceMul,Nat.reduceDiv] at h1 h2 ⊢
 unfold dg9
 (repeat' split)<;>omega
theorem zact {x:Nat} (h3:x<1000000000) (h1:2 ^ (12-1)≤x) (h2:x<2 ^ 12):12*78913/262144+(if 10 ^ (12*78913/262144)≤x then 1 else 0)=dg9 x:=by
 simp only [Nat.reduceSub,Nat.reducePow,Nat.reduceMul,Nat.reduceDiv] at h1 h2 ⊢
 unfold dg9
 (repeat' split)<;>omega
theorem zacu {x:Nat} (h3:x<1000000000) (h1:2 ^ (13-1)≤x) (h2:x<2 ^ 13):13*78913/262144+(if 10 ^ (13*78913/262144)≤x then 1 else 0)=dg9 x:=by
 simp only [Nat.reduceSub,Nat.reducePow,Nat.reduceMul,Nat.reduceDiv] at h1 h2 ⊢
 unfold dg9
 (repeat' split)<;>omega
theorem zacv {x:Nat} (h3:x<1000000000) (h1:2 ^ (14-1)≤x) (h2:x<2 ^ 14):14*78913/262144+(if 10 ^ (14*78913/262144)≤x then 1 else 0)=dg9 x:=by
 simp only [Nat.reduceSub,Nat.reducePow,Nat.reduceMul,Nat.reduceDiv] at h1 h2 ⊢
 unfold dg9
 (repeat' split)<;>omega
theorem zacw {x:Nat} (h3:x<1000000000) (h1:2 ^ (15-1)≤x) (h2:x<2 ^ 15):15*78913/262144+(if 10 ^ (15*78913/262144)≤x then 1 else 0)=dg9 x:=by
 simp only [Nat.reduceSub,Nat.reducePow,Nat.reduceMul,Nat.reduceDiv] at h1 h2 ⊢
 unfold dg9
 (repeat' split)<;>omega
theorem zacx {x:Nat} (h3:x<1000000000) (h1:2 ^ (16-1)≤x) (h2:x<2 ^ 16):16*78913/262144+(if 10 ^ (16*78913/262144)≤x then 1 else 0)=dg9 x:=by
 simp only [Nat.reduceSub,Nat.reducePow,Nat.reduceMul,Nat.reduceDiv] at h1 h2 ⊢
 unfold dg9
 (repeat' split)<;>omega
theorem zacy {x:Nat} (h3:x<1000000000) (h1:2 ^ (17-1)≤x) (h2:x<2 ^ 17):17*78913/262144+(if 10 ^ (17*78913/262144)≤x then 1 else 0)=dg9 x:=by
 simp only [Nat.reduceSub,Nat.reducePow,Nat.reduceMul,Nat.reduceDiv] at h1 h2 ⊢
 unfold dg9
 (repeat' split)<;>omega
theorem zacz {x:Nat} (h3:x<1000000000) (h1:2 ^ (18-1)≤x) (h2:x<2 ^ 18):18*78913/262144+(if 10 ^ (18*78913/262144)≤x then 1 else 0)=dg9 x:=by
 simp only [Nat.reduceSub,Nat.reducePow,Nat.reduceMul,Nat.reduceDiv] at h1 h2 ⊢
 unfold dg9
 (repeat' split)<;>omega
theorem zad0 {x:Nat} (h3:x<1000000000) (h1:2 ^ (19-1)≤x) (h2:x<2 ^ 19):19*78913/262144+(if 10 ^ (19*78913/262144)≤x then 1 else 0)=dg9 x:=by
 simp only [Nat.reduceSub,Nat.reducePow,Nat.reduceMul,Nat.reduceDiv] at h1 h2 ⊢
 unfold dg9
 (repeat' split)<;>omega
theorem zad1 {x:Nat} (h3:x<1000000000) (h1:2 ^ (20-1)≤x) (h2:x<2 ^ 20):20*78913/262144+(if 10 ^ (20*78913/262144)≤x then 1 else 0)=dg9 x:=by
 simp only [Nat.reduceSub,Nat.reducePow,Nat.reduceMul,Nat.reduceDiv] at h1 h2 ⊢
 unfold dg9
 (repeat' split)<;>omega
theorem zad2 {x:Nat} (h3:x<1000000000) (h1:2 ^ (21-1)≤x) (h2:x<2 ^ 21):21*78913/262144+(if 10 ^ (21*78913/262144)≤x then 1 else 0)=dg9 x:=by
 simp only [Nat.reduceSub,Nat.reducePow,Nat.reduceMul,Nat.reduceDiv] at h1 h2 ⊢
 unfold dg9
 (repeat' split)<;>omega
theorem zad3 {x:Nat} (h3:x<1000000000) (h1:2 ^ (22-1)≤x) (h2:x<2 ^ 22):22*78913/262144+(if 10 ^ (22*78913/262144)≤x then 1 else 0)=dg9 x:=by
 simp only [Nat.reduceSub,Nat.reducePow,Nat.reduceMul,Nat.reduceDiv] at h1 h2 ⊢
 unfold dg9
 (repeat' split)<;>omega
theorem zad4 {x:Nat} (h3:x<1000000000) (h1:2 ^ (23-1)≤x) (h2:x<2 ^ 23):23*78913/262144+(if 10 ^ (23*78913/262144)≤x then 1 else 0)=dg9 x:=by
 simp only [Nat.reduceSub,Nat.reducePow,Nat.reduceMul,Nat.reduceDiv] at h1 h2 ⊢
 unfold dg9
 (repeat' split)<;>omega
theorem zad5 {x:Nat} (h3:x<1000000000) (h1:2 ^ (24-1)≤x) (h2:x<2 ^ 24):24*78913/262144+(if 10 ^ (24*78913/262144)≤x then 1 else 0)=dg9 x:=by
 simp only [Nat.reduceSub,Nat.reducePow,Nat.reduceMul,Nat.reduceDiv] at h1 h2 ⊢
 unfold dg9
 (repeat' split)<;>omega
theorem zad6 {x:Nat} (h3:x<1000000000) (h1:2 ^ (25-1)≤x) (h2:x<2 ^ 25):25*78913/262144+(if 10 ^ (25*78913/262144)≤x then 1 else 0)=dg9 x:=by
 simp only [Nat.reduceSub,Nat.reducePow,Nat.reduceMul,Nat.reduceDiv] at h1 h2 ⊢
 unfold dg9
 (repeat' split)<;>omega
theorem zad7 {x:Nat} (h3:x<1000000000) (h1:2 ^ (26-1)≤x) (h2:x<2 ^ 26):26*78913/262144+(if 10 ^ (26*78913/262144)≤x then 1 else 0)=dg9 x:=by
 simp only [Nat.reduceSub,Nat.reducePow,Nat.reduceMul,Nat.reduceDiv] at h1 h2 ⊢
 unfold dg9
 (repeat' split)<;>omega
theorem zad8 {x:Nat} (h3:x<1000000000) (h1:2 ^ (27-1)≤x) (h2:x<2 ^ 27):27*78913/262144+(if 10 ^ (27*78913/262144)≤x then 1 else 0)=dg9 x:=by
 simp only [Nat.reduceSub,Nat.reducePow,Nat.reduceMul,Nat.reduceDiv] at h1 h2 ⊢
 unfold dg9
 (repeat' split)<;>omega
theorem zad9 {x:Nat} (h3:x<1000000000) (h1:2 ^ (28-1)≤x) (h2:x<2 ^ 28):28*78913/262144+(if 10 ^ (28*78913/262144)≤x then 1 else 0)=dg9 x:=by
 simp only [Nat.reduceSub,Nat.reducePow,Nat.reduceMul,Nat.reduceDiv] at h1 h2 ⊢
 unfold dg9
 (repeat' split)<;>omega
theorem zada {x:Nat} (h3:x<1000000000) (h1:2 ^ (29-1)≤x) (h2:x<2 ^ 29):29*78913/262144+(if 10 ^ (29*78913/262144)≤x then 1 else 0)=dg9 x:=by
 simp only [Nat.reduceSub,Nat.reducePow,Nat.reduceMul,Nat.reduceDiv] at h1 h2 ⊢
 unfold dg9
 (repeat' split)<;>omega
theorem zadb {x:Nat} (h3:x<1000000000) (h1:2 ^ (30-1)≤x) (h2:x<2 ^ 30):30*78913/262144+(if 10 ^ (30*78913/262144)≤x then 1 else 0)=dg9 x:=by
 simp only [Nat.reduceSub,Nat.reducePow,Nat.reduceMul,Nat.reduceDiv] at h1 h2 ⊢
 unfold dg9
 (repeat' split)<;>omega
theorem zadc {r x:Nat} (h3:x<1000000000) (h7:7≤r) (h30:r≤30) (h1:2 ^ (r-1)≤x) (h2:x<2 ^ r):r*78913/262144+(if 10 ^ (r*78913/262144)≤x then 1 else 0)=dg9 x:=by
 have hr:r=7∨r=8∨r=9∨r=10∨r=11∨r=12∨r=13∨r=14∨r=15∨r=16∨r=17∨r=18∨r=19∨r=20∨r=21∨r=22∨r=23∨r=24∨r=25∨r=26∨r=27∨r=28∨r=29∨r=30:=by omega
 rcases hr with rfl | rfl | rfl | rfl | rfl | rfl | rfl | rfl | rfl | rfl | rfl | rfl | rfl | rfl | rfl | rfl | rfl | rfl | rfl | rfl | rfl | rfl | rfl | rfl
 · exact dig_7 h3 h1 h2
 · exact dig_8 h3 h1 h2
 · exact dig_9 h3 h1 h2
 · exact zacr h3 h1 h2
 · exact zacs h3 h1 h2
 · exact zact h3 h1 h2
 · exact zacu h3 h1 h2
 · exact zacv h3 h1 h2
 · exact zacw h3 h1 h2
 · exact zacx h3 h1 h2
 · exact zacy h3 h1 h2
 · exact zacz h3 h1 h2
 · exact zad0 h3 h1 h2
 · exact zad1 h3 h1 h2
 · exact zad2 h3 h1 h2
 · exact zad3 h3 h1 h2
 · exact zad4 h3 h1 h2
 · exact zad5 h3 h1 h2
 · exact zad6 h3 h1 h2
 · exact zad7 h3 h1 h2
 · exact zad8 h3 h1 h2
 · exact zad9 h3 h1 h2
 · exact zada h3 h1 h2
 · exact zadb h3 h1 h2
theorem zul {x:Nat} (ht:P10 h) (h0:100≤x) (hx:x<1000000000) (H:∀h',h.le h'→Ki ((dg9 x:Nat):Int) h'):callP (F.zd2 (x:Int)) Ki h:=by
 refine za1 (fun v h'=>v=((dg9 x:Nat):Int)) (fun K' hk=>?_) fun b h' hl hb=>by subst hb; exact H h' hl
 unfold F.zd2
 refine za2e (by omega) fun r h1 hl1 _ hr _=>?_
 obtain ⟨r1,r2,r3⟩:=hr (by omega)
 have rl:7≤r:=Nat.not_lt.1 fun hh=>by
  have:2 ^ r≤2 ^ 6:=Nat.pow_le_pow_right (by decide) (by omega)
  omega
 have ru:r≤30:=Nat.not_lt.1 fun hh=>by
  have:2 ^ 30≤2 ^ (r-1):=Nat.pow_le_pow_right (by decide) (by omega)
  omega
 refine za1 (fun v h'=>v=((r*78913/262144:Nat):Int)) (fun K2 hk2=>?_) fun v h2 hl2 hv=>?_
 · unfold F.zev
   refine ⟨by decide,hk2 _ _ (Hp.le_refl _) ?_⟩
   have e1:IntKind.i64.wrap ((r:Int)*78913)=((r*78913:Nat):Int):=by rw [w64 (by omega)]; omega
   have e2:(min (18:Int).toNat IntKind.i64.bits)=18:=rfl
   rw [e1,e2,fd]
 · subst hv
   obtain ⟨d,hd⟩:∃d,d=r*78913/262144:=⟨_,rfl⟩
   rw [←hd]
   have hd20:d<20:=by omega
   have hc:=(ht.le (Hp.le_trans hl1 hl2)) d hd20
   unfold idxC
   rw [decide_eq_true (p:=0≤(d:Int)∧(d:Int)<(20:Nat)) (by omega)]
   simp only
   refine ⟨((10 ^ d:Nat):Int),by rw [Int.toNat_natCast,Nat.mul_one]; exact hc,?_⟩
   refine za1 (fun v h'=>v=if (x:Int)≥((10 ^ d:Nat):Int) then 1 else 0) (fun K2 hk2=>?_) fun v h3 hl3 hv=>?_
   · unfold F.zeu
     refine za0 (fun hh=>hk2 _ _ (Hp.le_refl _) (by rw [if_pos hh])) (fun hh=>hk2 _ _ (Hp.le_refl _) (by rw [if_neg hh]))
   · subst hv
     refine hk _ _ (Hp.le_trans hl1 (Hp.le_trans hl2 hl3)) ?_
     have hw:IntKind.i64.wrap ((d:Int)+if (x:Int)≥((10 ^ d:Nat):Int) then 1 else 0)=(d:Int)+if (x:Int)≥((10 ^ d:Nat):Int) then 1 else 0:=w64 (by split<;>omega)
     rw [hw,←zadc hx rl ru r2 r3,←hd]
     split<;>split<;>omega
end
end Den
end

section
namespace Den
open Go Iv Lx
theorem u32r (z:Int):0≤IntKind.u32.wrap z∧IntKind.u32.wrap z≤4294967295:=by
 unfold IntKind.wrap
 simp only [IntKind.signed,IntKind.bits]
 have h1:=Int.emod_nonneg z (show ((2:Int) ^ 32)≠0 by decide)
 have h2:=Int.emod_lt_of_pos z (show (0:Int)<2 ^ 32 by decide)
 exact ⟨h1,by simp at h2 ⊢; omega⟩
theorem u8r (z:Int):∃b:UInt8,IntKind.u8.wrap z=(b.toNat:Int):=by
 have h1:=Int.emod_nonneg z (show (256:Int)≠0 by decide)
 have h2:=Int.emod_lt_of_pos z (show (0:Int)<256 by decide)
 have e:IntKind.u8.wrap z=z % 256:=by
  unfold IntKind.wrap
  simp only [IntKind.signed,IntKind.bits]
  rfl
 refine ⟨UInt8.ofNat (z % 256).toNat,?_⟩
 rw [e,UInt8.toNat_ofNat']
 omega
theorem tm {z m:Int} (h:0≤z) (hm:0<m):0≤z.tmod m∧z.tmod m<m:=⟨Int.tmod_nonneg _ h,Int.tmod_lt_of_pos _ hm⟩
theorem td {z m k:Int} (h:0≤z) (hm:0<m) (hz:z<m*k):0≤z.tdiv m∧z.tdiv m<k:=by
 rw [Int.tdiv_eq_ediv_of_nonneg h]
 exact ⟨Int.ediv_nonneg h (Int.le_of_lt hm),Int.ediv_lt_of_lt_mul hm (by rw [Int.mul_comm]; exact hz)⟩
theorem w32 {z:Int} (h:0≤z) (h2:z≤4294967295):IntKind.u32.wrap z=z:=wu32 ⟨h,h2⟩
theorem za88 {X:Int} {K:Int→Prop} (h:0≤X) (h2:X≤199) (H:∀b:UInt8,K (b.toNat:Int)):strIdx ⟨#[48,48,48,49,48,50,48,51,48,52,48,53,48,54,48,55,48,56,48,57,49,48,49,49,49,50,49,51,49,52,49,53,49,54,49,55,49,56,49,57,50,48,50,49,50,50,50,51,50,52,50,53,50,54,50,55,50,56,50,57,51,48,51,49,51,50,51,51,51,52,51,53,51,54,51,55,51,56,51,57,52,48,52,49,52,50,52,51,52,52,52,53,52,54,52,55,52,56,52,57,53,48,53,49,53,50,53,51,53,52,53,53,53,54,53,55,53,56,53,57,54,48,54,49,54,50,54,51,54,52,54,53,54,54,54,55,54,56,54,57,55,48,55,49,55,50,55,51,55,52,55,53,55,54,55,55,55,56,55,57,56,48,56,49,56,50,56,51,56,52,56,53,56,54,56,55,56,56,56,57,57,48,57,49,57,50,57,51,57,52,57,53,57,54,57,55,57,56,57,57]⟩ X K:=
 zabo h (by have:(⟨#[48,48,48,49,48,50,48,51,48,52,48,53,48,54,48,55,48,56,48,57,49,48,49,49,49,50,49,51,49,52,49,53,49,54,49,55,49,56,49,57,50,48,50,49,50,50,50,51,50,52,50,53,50,54,50,55,50,56,50,57,51,48,51,49,51,50,51,51,51,52,51,53,51,54,51,55,51,56,51,57,52,48,52,49,52,50,52,51,52,52,52,53,52,54,52,55,52,56,52,57,53,48,53,49,53,50,53,51,53,52,53,53,53,54,53,55,53,56,53,57,54,48,54,49,54,50,54,51,54,52,54,53,54,54,54,55,54,56,54,57,55,48,55,49,55,50,55,51,55,52,55,53,55,54,55,55,55,56,55,57,56,48,56,49,56,50,56,51,56,52,56,53,56,54,56,55,56,56,56,57,57,48,57,49,57,50,57,51,57,52,57,53,57,54,57,55,57,56,57,57]⟩:ByteArray).size=200:=rfl; rw [this]; omega) fun b _=>H b
theorem zne {X:Int} {K:Int→Prop} (h:0≤X∧X<100) (H:∀b:UInt8,K (b.toNat:Int)):strIdx ⟨#[48,48,48,49,48,50,48,51,48,52,48,53,48,54,48,55,48,56,48,57,49,48,49,49,49,50,49,51,49,52,49,53,49,54,49,55,49,56,49,57,50,48,50,49,50,50,50,51,50,52,50,53,50,54,50,55,50,56,50,57,51,48,51,49,51,50,51,51,51,52,51,53,51,54,51,55,51,56,51,57,52,48,52,49,52,50,52,51,52,52,52,53,52,54,52,55,52,56,52,57,53,48,53,49,53,50,53,51,53,52,53,53,53,54,53,55,53,56,53,57,54,48,54,49,54,50,54,51,54,52,54,53,54,54,54,55,54,56,54,57,55,48,55,49,55,50,55,51,55,52,55,53,55,54,55,55,55,56,55,57,56,48,56,49,56,50,56,51,56,52,56,53,56,54,56,55,56,56,56,57,57,48,57,49,57,50,57,51,57,52,57,53,57,54,57,55,57,56,57,57]⟩ (IntKind.u32.wrap (IntKind.u32.wrap (X*2)+1)) K:=by
 refine za88 (u32r _).1 ?_ H
 rw [w32 (z:=X*2) (by omega) (by omega),w32 (by omega) (by omega)]; omega
theorem zl4 {X:Int} {K:Int→Prop} (h:0≤X∧X<100) (H:∀b:UInt8,K (b.toNat:Int)):strIdx ⟨#[48,48,48,49,48,50,48,51,48,52,48,53,48,54,48,55,48,56,48,57,49,48,49,49,49,50,49,51,49,52,49,53,49,54,49,55,49,56,49,57,50,48,50,49,50,50,50,51,50,52,50,53,50,54,50,55,50,56,50,57,51,48,51,49,51,50,51,51,51,52,51,53,51,54,51,55,51,56,51,57,52,48,52,49,52,50,52,51,52,52,52,53,52,54,52,55,52,56,52,57,53,48,53,49,53,50,53,51,53,52,53,53,53,54,53,55,53,56,53,57,54,48,54,49,54,50,54,51,54,52,54,53,54,54,54,55,54,56,54,57,55,48,55,49,55,50,55,51,55,52,55,53,55,54,55,55,55,56,55,57,56,48,56,49,56,50,56,51,56,52,56,53,56,54,56,55,56,56,56,57,57,48,57,49,57,50,57,51,57,52,57,53,57,54,57,55,57,56,57,57]⟩ (IntKind.u32.wrap (X*2)) K:=by
 refine za88 (u32r _).1 ?_ H
 rw [w32 (by omega) (by omega)]; omega
section
variable {D h : Hp} {arr a : Sl} {bs : List UInt8} {Kt : ByteArray → Hp → Prop}
theorem ze3 {i v:Int} {K:Hp→Prop} (ho:Own D h 1 arr (bcells bs)) (ha:a.a=arr.a) (hal:a.len≤arr.len) (h0:0≤i) (h1:i<a.len) (hv:∃b:UInt8,v=(b.toNat:Int))
 (H:∀h' bs',Own D h' 1 arr (bcells bs')→bs'.length=bs.length→K h'):idxP a i 1 fun p=>stP p [.int .u8 v] K h:=by
 obtain ⟨b,rfl⟩:=hv
 have hl:=ho.2.1
 rw [zil,Nat.mul_one] at hl
 have key:idxP arr i 1 fun p=>stP p [.int .u8 (b.toNat:Int)] K h:=by
  refine zyz i.toNat ho (by omega) (by omega) rfl (by decide) rfl fun h' ho'=>H h' (bs.set i.toNat b) ?_ (by simp)
  rw [Nat.mul_one,zki] at ho'
  have e:bcells (bs.set i.toNat b)=(bcells bs).take i.toNat++.int .u8 (b.toNat:Int) :: (bcells bs).drop (i.toNat+1):=by
   unfold bcells
   rw [List.map_set,List.set_eq_take_append_cons_drop,if_pos (by simp; omega)]
  rw [e]; exact ho'
 obtain ⟨k1,k2,k3⟩:=key
 refine ⟨h0,h1,?_⟩
 rw [ha]; exact k3
theorem zabl {u:Int} {K:Unit→Hp→Prop} (ho:Own D h 1 arr (bcells bs)) (ha:a.a=arr.a) (hal:a.len≤arr.len) (hlen:a.len≤1000) (hu:0≤u) (H:∀h' bs',Own D h' 1 arr (bcells bs')→bs'.length=bs.length→K () h'):F.zct a u K h:=by
 unfold F.zct
 refine zal (fun st h'=>0≤st.1∧0≤st.2.1∧st.2.1≤a.len∧∃cs,Own D h' 1 arr (bcells cs)∧cs.length=bs.length) (fun st=>st.2.1.toNat) ⟨hu,by simp only; omega,Int.le_refl _,bs,ho,rfl⟩ ?_
 rintro ⟨u,i,_⟩ g ⟨hu0,hi0,hi1,cs,ho,hcs⟩
 simp only at hu0 hi0 hi1
 have w:∀k:Int,0≤k→k≤8→IntKind.i64.wrap (i-k)=i-k:=fun k _ _=>w64 (by omega)
 refine za0 (fun h8=>?_) (fun h8=>?_)
 · simp only at h8 ⊢
   refine ⟨by decide,by decide,by decide,by decide,by decide,by decide,by decide,by decide,?_⟩
   obtain ⟨A,hA⟩:∃A,A=IntKind.u32.wrap (u.tmod 100000000):=⟨_,rfl⟩
   have a1:=tm (m:=100000000) hu0 (by decide)
   have eA:A=u.tmod 100000000:=by rw [hA,w32 (by omega) (by omega)]
   rw [←hA]
   have A0:0≤A:=by omega
   have b1:=tm (m:=10000) A0 (by decide)
   have c1:=tm (m:=100) b1.1 (by decide)
   have d1:=td (m:=100) (k:=100) b1.1 (by decide) (by omega)
   have e1:=td (m:=10000) (k:=10000) A0 (by decide) (by omega)
   rw [w32 (z:=(A.tmod 10000).tdiv 100) (by omega) (by omega),w32 (z:=A.tdiv 10000) (by omega) (by omega)]
   have f1:=tm (m:=100) e1.1 (by decide)
   have g1:=td (m:=100) (k:=100) e1.1 (by decide) (by omega)
   rw [w32 (z:=(A.tdiv 10000).tdiv 100) (by omega) (by omega)]
   refine zne c1 fun x1=>zl4 c1 fun x2=>?_
   refine ze3 ho ha hal (by rw [w _ (by decide) (by decide)]; omega) (by rw [w _ (by decide) (by decide)]; omega) ⟨_,rfl⟩ fun h1 s1 o1 q1=>?_
   refine ze3 o1 ha hal (by rw [w _ (by decide) (by decide)]; omega) (by rw [w _ (by decide) (by decide)]; omega) ⟨_,rfl⟩ fun h2 s2 o2 q2=>?_
   refine zne d1 fun x3=>zl4 d1 fun x4=>?_
   refine ze3 o2 ha hal (by rw [w _ (by decide) (by decide)]; omega) (by rw [w _ (by decide) (by decide)]; omega) ⟨_,rfl⟩ fun h3 s3 o3 q3=>?_
   refine ze3 o3 ha hal (by rw [w _ (by decide) (by decide)]; omega) (by rw [w _ (by decide) (by decide)]; omega) ⟨_,rfl⟩ fun h4 s4 o4 q4=>?_
   refine zne f1 fun x5=>zl4 f1 fun x6=>?_
   refine ze3 o4 ha hal (by rw [w _ (by decide) (by decide)]; omega) (by rw [w _ (by decide) (by decide)]; omega) ⟨_,rfl⟩ fun h5 s5 o5 q5=>?_
   refine ze3 o5 ha hal (by rw [w _ (by decide) (by decide)]; omega) (by rw [w _ (by decide) (by decide)]; omega) ⟨_,rfl⟩ fun h6 s6 o6 q6=>?_
   refine zne g1 fun x7=>zl4 g1 fun x8=>?_
   refine ze3 o6 ha hal (by rw [w _ (by decide) (by decide)]; omega) (by rw [w _ (by decide) (by decide)]; omega) ⟨_,rfl⟩ fun h7 s7 o7 q7=>?_
   refine ze3 o7 ha hal (by rw [w _ (by decide) (by decide)]; omega) (by rw [w _ (by decide) (by decide)]; omega) ⟨_,rfl⟩ fun h9 s9 o9 q9=>?_
   refine ⟨⟨?_,?_,?_,s9,o9,by omega⟩,?_⟩
   · show 0≤IntKind.u64.wrap _
     unfold IntKind.wrap
     simp only [IntKind.signed,IntKind.bits]
     exact Int.emod_nonneg _ (by decide)
   · show 0≤IntKind.i64.wrap _; rw [w _ (by decide) (by decide)]; omega
   · show IntKind.i64.wrap _≤_; rw [w _ (by decide) (by decide)]; omega
   · show (IntKind.i64.wrap _).toNat<i.toNat; rw [w _ (by decide) (by decide)]; omega
 · simp only at h8 ⊢
   obtain ⟨U,hU⟩:∃U,U=IntKind.u32.wrap u:=⟨_,rfl⟩
   have uU:=u32r u
   rw [←hU] at uU ⊢
   refine za3 (fun s h'=>0≤s.1∧s.1≤a.len∧s.1<4∧0≤s.2.1∧∃cs,Own D h' 1 arr (bcells cs)∧cs.length=bs.length) ?_ ?_
   · rintro ⟨j,v,_⟩ g2 ⟨j0,j1,j4,v0,cs2,o2,q2⟩
     simp only at j0 j1 j4 v0 ⊢
     have w2:∀k:Int,0≤k→k≤8→IntKind.i64.wrap (j-k)=j-k:=fun k _ _=>w64 (by omega)
     refine za3 (fun s h'=>s.1≤a.len∧∃cs,Own D h' 1 arr (bcells cs)∧cs.length=bs.length) ?_ ?_
     · rintro ⟨m,v,_⟩ g3 ⟨m1,cs3,o3,q3⟩
       simp only at m1 ⊢
       refine za0 (fun h5=>?_) (fun _=>H _ _ o3 q3)
       exact ze3 o3 ha hal (by decide) (by omega) (u8r _) fun h6 s6 o6 q6=>H _ _ o6 (by omega)
     · refine za0 (fun h5=>?_) (fun _=>⟨j1,cs2,o2,q2⟩)
       have c1:=tm (m:=100) v0 (by decide)
       refine ⟨by decide,by decide,zne c1 fun x1=>zl4 c1 fun x2=>?_⟩
       refine ze3 o2 ha hal (by rw [w2 _ (by decide) (by decide)]; omega) (by rw [w2 _ (by decide) (by decide)]; omega) ⟨_,rfl⟩ fun h6 s6 o6 q6=>?_
       refine ze3 o6 ha hal (by rw [w2 _ (by decide) (by decide)]; omega) (by rw [w2 _ (by decide) (by decide)]; omega) ⟨_,rfl⟩ fun h7 s7 o7 q7=>?_
       exact ⟨by show IntKind.i64.wrap _≤_; rw [w2 _ (by decide) (by decide)]; omega,s7,o7,by omega⟩
   · refine za0 (fun h4=>?_) (fun h4=>⟨hi0,hi1,by simp only; omega,uU.1,cs,ho,hcs⟩)
     have b1:=tm (m:=10000) uU.1 (by decide)
     have c1:=tm (m:=100) b1.1 (by decide)
     have d1:=td (m:=100) (k:=100) b1.1 (by decide) (by omega)
     refine ⟨by decide,by decide,by decide,by decide,?_⟩
     rw [w32 (z:=(U.tmod 10000).tdiv 100) (by omega) (by omega)]
     refine zne c1 fun x1=>zl4 c1 fun x2=>?_
     refine ze3 ho ha hal (by rw [w _ (by decide) (by decide)]; omega) (by rw [w _ (by decide) (by decide)]; omega) ⟨_,rfl⟩ fun h1 s1 o1 q1=>?_
     refine ze3 o1 ha hal (by rw [w _ (by decide) (by decide)]; omega) (by rw [w _ (by decide) (by decide)]; omega) ⟨_,rfl⟩ fun h2 s2 o2 q2=>?_
     refine zne d1 fun x3=>zl4 d1 fun x4=>?_
     refine ze3 o2 ha hal (by rw [w _ (by decide) (by decide)]; omega) (by rw [w _ (by decide) (by decide)]; omega) ⟨_,rfl⟩ fun h3 s3 o3 q3=>?_
     refine ze3 o3 ha hal (by rw [w _ (by decide) (by decide)]; omega) (by rw [w _ (by decide) (by decide)]; omega) ⟨_,rfl⟩ fun h5 s5 o5 q5=>?_
     refine ⟨?_,?_,?_,(u32r _).1,s5,o5,by omega⟩
     · show 0≤IntKind.i64.wrap _; rw [w _ (by decide) (by decide)]; omega
     · show IntKind.i64.wrap _≤_; rw [w _ (by decide) (by decide)]; omega
     · show IntKind.i64.wrap _<4; rw [w _ (by decide) (by decide)]; omega
theorem zok (n:Nat):1≤dg9 n∧dg9 n≤9:=by
 unfold dg9
 (repeat' split)<;>omega
theorem zsn {x:Nat} (ht:P10 h) (hx:x<1000000000) (H:∀s h',h.le h'→s.size=dg9 x→Kt s h'):callP (F.zem (x:Int) 10) Kt h:=by
 refine za1 (fun s h'=>s.size=dg9 x) (fun K' hk=>?_) fun b h' hl hb=>H b h' hl hb
 unfold F.zem
 refine za1 (fun s h'=>s.size=dg9 x) (fun K2 hk2=>?_) fun b h' hl hb=>hk _ _ hl hb
 unfold F.zei
 refine zbt rfl ?_
 refine za0 (fun h1=>?_) (fun h1=>?_)
 · rw [w64n (by omega)]
   refine za1 (fun s h'=>s.size=dg9 x) (fun K3 hk3=>?_) fun b h' hl hb=>hk2 _ _ hl hb
   unfold F.zg5
   refine za0 (fun h2=>?_) (fun h2=>?_)
   · rw [w64 (by omega)]
     refine zjl (by omega) (by omega) (by have:(⟨#[48,49,50,51,52,53,54,55,56,57,97,98,99,100,101,102,103,104,105,106,107,108,109,110,111,112,113,114,115,116,117,118,119,120,121,122]⟩:ByteArray).size=36:=rfl; rw [this]; omega) fun t ht _=>hk3 _ _ (Hp.le_refl _) ?_
     unfold dg9
     rw [if_pos (by omega)]; omega
   · rw [w64 (n:=(x:Int)*2) (by omega),w64 (by omega)]
     refine zjl (by omega) (by omega) (by have:(⟨#[48,48,48,49,48,50,48,51,48,52,48,53,48,54,48,55,48,56,48,57,49,48,49,49,49,50,49,51,49,52,49,53,49,54,49,55,49,56,49,57,50,48,50,49,50,50,50,51,50,52,50,53,50,54,50,55,50,56,50,57,51,48,51,49,51,50,51,51,51,52,51,53,51,54,51,55,51,56,51,57,52,48,52,49,52,50,52,51,52,52,52,53,52,54,52,55,52,56,52,57,53,48,53,49,53,50,53,51,53,52,53,53,53,54,53,55,53,56,53,57,54,48,54,49,54,50,54,51,54,52,54,53,54,54,54,55,54,56,54,57,55,48,55,49,55,50,55,51,55,52,55,53,55,54,55,55,55,56,55,57,56,48,56,49,56,50,56,51,56,52,56,53,56,54,56,55,56,56,56,57,57,48,57,49,57,50,57,51,57,52,57,53,57,54,57,55,57,56,57,57]⟩:ByteArray).size=200:=rfl; rw [this]; omega) fun t ht _=>hk3 _ _ (Hp.le_refl _) ?_
     unfold dg9
     rw [if_neg (by omega),if_pos (by omega)]; omega
 · have d9:=zok x
   refine zhg (n:=24) (size:=1) rfl fun b h2 hb ho=>?_
   refine zul (ht.le ho.1) (by omega) hx fun h3 hl3=>?_
   have ho3:=ho.le hl3
   refine ⟨by decide,by omega,by simp only; omega,?_⟩
   refine zhx ?_
   obtain ⟨arr,harr⟩:∃arr:Sl,arr=⟨some ⟨b,0,none⟩,24,24⟩:=⟨_,rfl⟩
   rw [←harr] at ho3 ⊢
   have ea:(arr.cut (0:Int).toNat ((dg9 x:Nat):Int).toNat 1).a=arr.a:=by rw [harr]; rfl
   have el:(arr.cut (0:Int).toNat ((dg9 x:Nat):Int).toNat 1).len=dg9 x:=by show ((dg9 x:Nat):Int).toNat-0=_; omega
   have al:arr.len=24:=by rw [harr]
   refine zabl (bs:=List.replicate 24 0) ho3 ea (by omega) (by omega) (by omega) fun h4 bs ho4 hbs=>?_
   rw [List.length_replicate] at hbs
   refine ⟨by decide,by omega,by rw [harr]; simp only; omega,bs.take (dg9 x),?_,hk2 _ _ ho4.1 ?_⟩
   · rw [ea,el,harr]
     have hr:=ho4.rd.2
     rw [zil,hbs,harr] at hr
     have key:∀{m n:Nat} {L:List Value} {a:Addr},cellsAt h4 a m=some L→n≤m→cellsAt h4 a n=some (L.take n):=by
      intro m
      induction m with
      | zero=>
        intro n L a e hn
        have:n=0:=by omega
        subst this; simp [cellsAt]
      | succ m ih=>
        intro n L a e hn
        have hl:=zhd e
        by_cases h1:n=m+1
        · subst h1; rw [e,List.take_of_length_le (by omega)]
        · unfold cellsAt at e
          split at e
          · rename_i l1 h2
            split at e
            · rename_i v hv
              simp only [Option.some.injEq] at e
              subst e
              have h3:=zhd h2
              rw [ih h2 (show n≤m by omega),List.take_append_of_le_length (by omega)]
            · cases e
          · cases e
     have:=key hr (n:=dg9 x) (by omega)
     unfold bcells at this
     rw [List.map_take]; exact this
   · show (bs.take (dg9 x)).toArray.size=_
     simp; omega
end
end Den
end

section
namespace Den
open Go Iv
section
variable {h : Hp} {l : Sl} {B : Nat} {xs : List TRat} {vs : List Rat} {v0 : Rat} {KV : TInterval → Hp → Prop} {Ks : Sl → Hp → Prop}
end
end Den
end

section
namespace Iv
open Den
def hi4 (a b c d:Rat):Rat:=[b,c,d].foldl hiS a
end Iv
namespace Den
open Go Iv
section
variable {h : Hp} {a b : TInterval} {x : TRat} {p al au bl bu : Rat} {j k : Nat} {Ki : Int → Hp → Prop} {Kb : Bool → Hp → Prop} {KR : TRat → Hp → Prop} {KV : TInterval → Hp → Prop} {KVE : (TInterval × Int) → Hp → Prop} {KIB : (Int × Bool) → Hp → Prop} {KVB : (TInterval × Bool) → Hp → Prop}
end
end Den
end

section
namespace Iv
open Den
end Iv
end

section
namespace Den
open Go Iv
section
variable {h : Hp} {a b : TInterval} {x : TRat} {y : TInt} {p al au bl bu : Rat} {N : Int} {j k : Nat} {Ki : Int → Hp → Prop} {Kb : Bool → Hp → Prop} {KI : TInt → Hp → Prop} {KR : TRat → Hp → Prop} {KV : TInterval → Hp → Prop} {KVE : (TInterval × Int) → Hp → Prop} {KIB : (Int × Bool) → Hp → Prop} {KVB : (TInterval × Bool) → Hp → Prop}
end
end Den
end

section
namespace Iv
end Iv
namespace Den
open Go Iv
section
variable {h : Hp} {a b : TInterval} {x : TRat} {y : TInt} {p al au bl bu : Rat} {j k : Nat} {KVE : (TInterval × Int) → Hp → Prop}
end
end Den
end

section
namespace Den
open Go Iv
def AI (h:Hp) (a:TInt):Prop:=∃l,RdW h a.mag l∧okW l
def AR (h:Hp) (x:TRat):Prop:=AI h x.num∧AI h x.den
theorem AI.le {h h':Hp} {a:TInt} (ha:AI h a) (hl:h.le h'):AI h' a:=by obtain ⟨l,h1,h2⟩:=ha; exact ⟨l,h1.le hl,h2⟩
theorem AR.le {h h':Hp} {x:TRat} (hx:AR h x) (hl:h.le h'):AR h' x:=⟨hx.1.le hl,hx.2.le hl⟩
theorem za9k:∀{l m:List Nat},wc l=wc m→l=m
 | [],[],_=>rfl
 | [],_ :: _,h=>by simp [wc] at h
 | _ :: _,[],h=>by simp [wc] at h
 | x :: r,y :: t,h=>by
   simp only [wc,List.map_cons,List.cons.injEq,Value.int.injEq,true_and] at h
   rw [za9k (l:=r) (m:=t) h.2,show x=y by omega]
theorem RdW.uniq {h:Hp} {x:Sl} {l m:List Nat} (h1:RdW h x l) (h2:RdW h x m):l=m:=by
 have a1:=h1.1
 have a2:=h2.1
 have e:(wc l).length=(wc m).length:=by rw [←a1.1,←a2.1]
 have b1:=a1.2
 have b2:=a2.2
 rw [e,b2] at b1
 exact (za9k (Option.some.inj b1)).symm
theorem NI.inj {h:Hp} {a:TInt} {m n:Int} (h1:NI h a m) (h2:NI h a n):m=n:=by
 have e:=zaco (h1.1.uniq h2.1)
 have e2:decide (m<0)=decide (n<0):=by rw [←h1.2,←h2.2]
 have e3:m<0↔n<0:=by simpa using e2
 omega
theorem za3z {h:Hp} {a:TInt} {l:List Nat} (hr:RdW h a.mag l) (ok:okW l):(∃n,NI h a n)↔trimL l=l∧(a.neg=true→l≠[]):=by
 constructor
 · rintro ⟨n,hn⟩
   have e:=hr.uniq hn.1
   subst e
   refine ⟨zur _,fun hneg he=>?_⟩
   rw [hn.2] at hneg
   have h1:n<0:=by simpa using hneg
   have:=zef.1 he
   omega
 · rintro ⟨h1,h2⟩
   have e:=za4d ok h1
   refine ⟨sg a.neg (vl l),?_,?_⟩
   · rw [zkg,←e]; exact hr
   · cases hb:a.neg with
     | false=>simp [sg]
     | true=>
       have h3:=h2 hb
       have h4:vl l≠0:=fun h0=>h3 (by rw [e,h0,zbz])
       simp [sg]; omega
theorem za40 {h:Hp} {x:TRat} {m n:Int} (h1:NI h x.num m) (h2:NI h x.den n):(∃q,NR h x q)↔0<n∧Nat.gcd m.natAbs n.natAbs=1:=by
 constructor
 · rintro ⟨q,hq⟩
   have e1:=h1.inj hq.1
   have e2:=h2.inj hq.2
   subst e1 e2
   exact ⟨dpos q,by rw [zm9]; exact q.reduced⟩
 · rintro ⟨h3,h4⟩
   have hnn:n.toNat=n.natAbs:=by omega
   refine ⟨⟨m,n.toNat,by omega,by rw [hnn]; exact h4⟩,h1,?_⟩
   show NI h x.den ((n.toNat:Nat):Int)
   rw [Int.toNat_of_nonneg (by omega)]; exact h2
section
variable {h : Hp} {a : TInt} {x : TRat} {v : TInterval} {Kb : Bool → Hp → Prop}
theorem zrv (ha:AI h a) (hl:a.mag.len≤35184372087808) (H1:∀n,NI h a n→Kb true h) (H0:(¬∃n,NI h a n)→Kb false h):callP (F.zj1 a) Kb h:=by
 obtain ⟨l,hr,ok⟩:=ha
 have ll:=hr.len
 have hiff:=za3z hr ok
 refine za1 (fun b h'=>h'=h∧(b=true∧(∃n,NI h a n)∨b=false∧¬∃n,NI h a n)) (fun K' hk=>?_) fun b h' _ ⟨e,hv⟩=>by
  subst e
  rcases hv with ⟨rfl,n,hn⟩ | ⟨rfl,hn⟩
  · exact H1 n hn
  · exact H0 hn
 unfold F.zj1
 refine zdl hr (by omega) fun y hy=>?_
 have ly:=hy.len
 refine za7 (fun h1=>?_) (fun h1=>?_)
 · have hlen:(trimL l).length=l.length:=by omega
   have ht:trimL l=l:=by
    have:=za97 l
    rw [hlen,List.take_of_length_le (Nat.le_refl _)] at this
    exact this
   refine za2 (fun h2=>?_) (fun h2=>?_)
   · refine hk _ _ (Hp.le_refl _) ⟨rfl,.inl ⟨rfl,hiff.2 ⟨ht,fun hn=>?_⟩⟩⟩
     rw [hn] at h2; cases h2
   · refine hk _ _ (Hp.le_refl _) ⟨rfl,?_⟩
     have hneg:a.neg=true:=by simpa using h2
     by_cases h3:(a.mag.len:Int)>0
     · exact .inl ⟨decide_eq_true h3,hiff.2 ⟨ht,fun _ he=>by rw [he] at ll; simp at ll; omega⟩⟩
     · refine .inr ⟨decide_eq_false h3,fun hn=>(hiff.1 hn).2 hneg (List.length_eq_zero_iff.1 (by omega))⟩
 · refine hk _ _ (Hp.le_refl _) ⟨rfl,.inr ⟨rfl,fun hn=>h1 ?_⟩⟩
   have:=(hiff.1 hn).1
   rw [this] at ly
   omega
theorem zab2 {l:List Nat} {n:Nat} (hn:l.length=n+1):trimL l=l↔l[n]≠0:=by
 have e:l=l.take n++[l[n]]:=by
  have:=List.take_succ_eq_append_getElem (l:=l) (i:=n) (by omega)
  rw [List.take_of_length_le (by omega)] at this
  exact this
 constructor
 · intro h1 h0
   have h2:trimL l=trimL (l.take n):=by
    conv=>lhs; rw [e,h0]
    exact zl5 _
   have h3:=zab3 (l.take n)
   rw [←h2,h1,List.length_take] at h3
   omega
 · intro h0
   conv=>lhs; rw [e]
   rw [zm5 _ h0]
   exact e.symm
theorem zsp (ha:AI h a) (hl:a.mag.len≤35184372087808) (H1:∀n,NI h a n→Kb true h) (H0:(¬∃n,NI h a n)→Kb false h):callP (F.zh6 a) Kb h:=by
 obtain ⟨l,hr,ok⟩:=ha
 have ll:=hr.len
 have hiff:=za3z hr ok
 refine za1 (fun b h'=>h'=h∧(b=true∧(∃n,NI h a n)∨b=false∧¬∃n,NI h a n)) (fun K' hk=>?_) fun b h' _ ⟨e,hv⟩=>by
  subst e
  rcases hv with ⟨rfl,n,hn⟩ | ⟨rfl,hn⟩
  · exact H1 n hn
  · exact H0 hn
 unfold F.zh6
 refine za7 (fun h1=>?_) (fun h1=>?_)
 · have hnil:l=[]:=List.length_eq_zero_iff.1 (by omega)
   refine za2 (fun h2=>?_) (fun h2=>?_)
   · refine hk _ _ (Hp.le_refl _) ⟨rfl,.inl ⟨rfl,hiff.2 ⟨by rw [hnil]; rfl,fun hn=>?_⟩⟩⟩
     rw [hn] at h2; cases h2
   · have hneg:a.neg=true:=by simpa using h2
     refine za0 (fun h3=>by omega) (fun h3=>hk _ _ (Hp.le_refl _) ⟨rfl,.inr ⟨rfl,fun hn=>(hiff.1 hn).2 hneg hnil⟩⟩)
 · obtain ⟨n,hn⟩:∃n,l.length=n+1:=⟨l.length-1,by omega⟩
   refine za0 (fun h3=>?_) (fun h3=>by omega)
   refine zan n hr (by rw [ll,hn,w64 (by omega)]; omega) (by omega) fun u hu=>⟨_,hu,hk _ _ (Hp.le_refl _) ⟨rfl,?_⟩⟩
   have htt:=zab2 hn
   by_cases h4:l[n]=0
   · refine .inr ⟨by rw [h4]; rfl,fun hh=>(htt.1 (hiff.1 hh).1) h4⟩
   · refine .inl ⟨by simp; omega,hiff.2 ⟨htt.2 h4,fun _ he=>by rw [he] at hn; simp at hn⟩⟩
theorem zls {n:Int} (ha:NI h a n) (hl:a.mag.len≤35184372087808):(dg n.natAbs).length≤35184372087808:=by have:=ha.len; omega
theorem zyt (hx:AR h x) (hl1:x.num.mag.len≤35184372087808) (hl2:x.den.mag.len≤35184372087808) (H1:∀q h',h.le h'→NR h x q→Kb true h') (H0:∀h',h.le h'→(¬∃q,NR h x q)→Kb false h'):callP (F.ze8 x) Kb h:=by
 refine za1 (fun b h'=>b=true∧(∃q,NR h x q)∨b=false∧¬∃q,NR h x q) (fun K' hk=>?_) fun b h' hl hv=>by
  rcases hv with ⟨rfl,n,hn⟩ | ⟨rfl,hn⟩
  · exact H1 n h' hl hn
  · exact H0 h' hl hn
 unfold F.ze8
 refine zrv hx.1 hl1 (fun m hm=>zbt rfl (zrv hx.2 hl2 (fun n hn=>zbt rfl ?_) (fun hn=>zah rfl (hk _ _ (Hp.le_refl _) (.inr ⟨rfl,fun ⟨q,hq⟩=>hn ⟨_,hq.2⟩⟩))))) (fun hn=>zah rfl (hk _ _ (Hp.le_refl _) (.inr ⟨rfl,fun ⟨q,hq⟩=>hn ⟨_,hq.1⟩⟩)))
 have hiff:=za40 hm hn
 have s:=zd5 n
 refine zo8 hn (zls hn hl2) (za0 (fun h1=>?_) (fun h1=>hk _ _ (Hp.le_refl _) (.inr ⟨rfl,fun hh=>by have:=(hiff.1 hh).1; omega⟩)))
 refine zts hm hn (zls hm hl1) (zls hn hl2) fun z h2 hl hz=>zqs hz (hk _ _ hl ?_)
 by_cases h3:Nat.gcd m.natAbs n.natAbs=1
 · exact .inl ⟨decide_eq_true (by rw [h3]; rfl),hiff.2 ⟨by omega,h3⟩⟩
 · exact .inr ⟨decide_eq_false (fun hh=>h3 (by omega)),fun hh=>h3 (hiff.1 hh).2⟩
theorem za0o (hx:AR h x) (hl1:x.num.mag.len≤35184372087808) (hl2:x.den.mag.len≤35184372087808) (H1:∀q h',h.le h'→NR h x q→Kb true h') (H0:∀h',h.le h'→(¬∃q,NR h x q)→Kb false h'):callP (F.zda x) Kb h:=by
 refine za1 (fun b h'=>b=true∧(∃q,NR h x q)∨b=false∧¬∃q,NR h x q) (fun K' hk=>?_) fun b h' hl hv=>by
  rcases hv with ⟨rfl,n,hn⟩ | ⟨rfl,hn⟩
  · exact H1 n h' hl hn
  · exact H0 h' hl hn
 unfold F.zda
 refine zsp hx.1 hl1 (fun m hm=>zbt rfl (zsp hx.2 hl2 (fun n hn=>zbt rfl ?_) (fun hn=>zah rfl (hk _ _ (Hp.le_refl _) (.inr ⟨rfl,fun ⟨q,hq⟩=>hn ⟨_,hq.2⟩⟩))))) (fun hn=>zah rfl (hk _ _ (Hp.le_refl _) (.inr ⟨rfl,fun ⟨q,hq⟩=>hn ⟨_,hq.1⟩⟩)))
 have hiff:=za40 hm hn
 have s:=zd5 n
 refine zp7 hn (zls hn hl2) (za0 (fun h1=>?_) (fun h1=>hk _ _ (Hp.le_refl _) (.inr ⟨rfl,fun hh=>by have:=(hiff.1 hh).1; omega⟩)))
 refine zuu hm hn (zls hm hl1) (zls hn hl2) fun z h2 hl hz=>zm7 hz (hk _ _ hl ?_)
 by_cases h3:Nat.gcd m.natAbs n.natAbs=1
 · exact .inl ⟨decide_eq_true (by rw [h3]; rfl),hiff.2 ⟨by omega,h3⟩⟩
 · exact .inr ⟨decide_eq_false (fun hh=>h3 (by omega)),fun hh=>h3 (hiff.1 hh).2⟩
theorem NR_BR {q:Rat} {k:Nat} (hq:NR h x q) (h1:x.num.mag.len≤k) (h2:x.den.mag.len≤k):BR k q:=by
 have e1:=hq.1.len
 have e2:=hq.2.len
 exact ⟨zb9.1 (by omega),zb9.1 (by omega)⟩
end
end Den
end
