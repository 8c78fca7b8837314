/-
  Part 2 of the tools and contracts from which the statement is proved.
-/
import Derived.Test.YthifcokendanpaaGreatDoorParta1
import Derived.RangeFuncRecord
import Derived.RangeFuncLeaves
import Derived.Laws.Strings
import Derived.Lib.Bytealg
import Derived.ProofKit
import Derived.ChangeSlices
import Derived.ChangeStays
import Derived.ChangeArms
import Derived.OpenShut
set_option linter.all false
section
namespace Den
open Go
variable {ro : Option Nat} {nn : Nat}
section
variable {C : Cfg} {B : Base}
theorem zzj {ops:Array Oper} {o:Oper} {e:Env} {h:Hp} {a:Act} {w:World} (hR:Rel C B e h a w) {b:Bool} (hw:wantE C ops o e=some b) :
 Region.wanted o (yielded ops a.tmps)=b:=by
 unfold wantE at hw
 cases hg:o.guard with
 | none=>rw [hg] at hw; cases hw; exact zrz hg
 | some g=>
   obtain ⟨j,want⟩:=g
   rw [hg] at hw
   simp only at hw
   cases hd:(ops[j]?).bind (·.dst) with
   | none=>rw [hd] at hw; cases hw
   | some d=>
     rw [hd] at hw
     simp only at hw
     split at hw
     · rename_i t hl hv
       cases hw
       exact zry hg hd (hR.vals d _ hv)
     · rename_i vs hl hv
       cases hw
       exact zr2 hg hd (hR.vals d _ hv)
     · cases hw
theorem za3p (hC:CfgOK C) {ops:Array Oper} {i:Nat} {o:Oper} {e:Env} {h:Hp} {a:Act} {w:World} {K:Up→Hp→Prop} {Q:Exit→Act→World→Prop}
 (hi:ops[i]?=some o) (hR:Rel C B e h a w) (hk:stepT C ops o e h K):wpOpIn (wideR ro) nn C.P ops Q i (After C B o e K) a w:=by
 unfold wpOpIn
 rw [hi]
 simp only
 unfold stepT at hk
 cases hw:wantE C ops o e with
 | none=>rw [hw] at hk; exact hk.elim
 | some b=>
   rw [hw] at hk
   rw [zzj hR hw]
   cases b with
   | true=>simp only [if_true]; exact zl7 hC.tab hR hk
   | false=>simp only [Bool.false_eq_true,if_false]; exact ⟨fun _ _=>trivial,zll hR hk⟩
theorem zqr {ops:Array Oper} {listed:Array Bool} {x:Nat}
 (hdc:∀(i:Nat) (o:Oper),ops[i]?=some o→listed.getD i false=true→∀e∈o.after.toList,Region.binds .any e=true→listed.getD e.on false=true) :
 ∀{d i:Nat} {o:Oper},ops[i]?=some o→(∀e∈o.after.toList,Region.binds .any e=true→listed.getD e.on false=true)→reachB ops d x i=true→listed.getD x false=true
 | 0,i,o,_,_,hx=>by simp [reachB] at hx
 | d+1,i,o,hi,ho,hx=>by
   unfold reachB at hx
   rw [hi] at hx
   simp only [Bool.or_eq_true,List.any_eq_true,Bool.and_eq_true] at hx
   rcases hx with ⟨e,he,hb,hxe⟩ | ⟨e,he,hb,_,hr⟩
   · rw [←Nat.eq_of_beq_eq_true hxe]; exact ho e he hb
   · cases he':ops[e.on]? with
     | none=>
       cases d with
       | zero=>simp [reachB] at hr
       | succ d=>unfold reachB at hr; rw [he'] at hr; cases hr
     | some oe=>exact zqr hdc he' (fun e2 he2 hb2=>hdc e.on oe he' (ho e he hb) e2 he2 hb2) hr
theorem zyc {ops:Array Oper}:∀{p r:List Nat} {y:Nat},pairsOk C ops (p++y :: r)=true→(∀x∈p,reachB ops ops.size x y=true∨swapOk C ops x y=true)∧pairsOk C ops (p++r)=true
 | [],r,y,hp=>by
   simp only [List.nil_append,pairsOk,Bool.and_eq_true] at hp
   exact ⟨(fun x hx=>by cases hx),hp.2⟩
 | z :: p,r,y,hp=>by
   simp only [List.cons_append,pairsOk,Bool.and_eq_true,List.all_eq_true] at hp
   obtain ⟨h1,h2⟩:=hp
   obtain ⟨h3,h4⟩:=zyc h2
   refine ⟨fun x hx=>?_,?_⟩
   · rcases List.mem_cons.1 hx with rfl | hx
     · have:=h1 y (by simp); rw [Bool.or_eq_true] at this; exact this
     · exact h3 x hx
   · simp only [List.cons_append,pairsOk,Bool.and_eq_true,List.all_eq_true]
     exact ⟨fun q hq=>h1 q (by rcases List.mem_append.1 hq with h | h<;>simp [h]),h4⟩
theorem za2y (hC:CfgOK C) {ops:Array Oper} {K:Env→Hp→Prop} {ms:List Nat} {e0:Env} {Q:Exit→Act→World→Prop}
 (hms:∀(i:Nat) (o:Oper),ops[i]?=some o→∀d∈modsO C o,d∈ms) (hQ:∀x a w,Behind C B ms e0 K x a w→Q x a w)
 (hback:∀(i:Nat) (o:Oper),ops[i]?=some o→∀e∈o.after.toList,Region.binds .any e=true→e.on<i) :
 ∀(fuel:Nat) (c:List Nat) (listed:Array Bool) (e:Env) (h:Hp) (a:Act) (w:World),c.length≤fuel→listed.size=ops.size→c.Nodup →
  (∀i,i<ops.size→(listed.getD i false=false↔i∈c))→(∀i∈c,i<ops.size) →
  (∀(i:Nat) (o:Oper),ops[i]?=some o→listed.getD i false=true→∀e∈o.after.toList,Region.binds .any e=true→listed.getD e.on false=true) →
  pairsOk C ops c=true→(∀t,t∉ms→keep (e0 t) (e t))→dops C ops K c e h→Rel C B e h a w→wpAnyIn (wideR ro) nn C.P .any ops Q fuel listed a w:=by
 have least:∀(c:List Nat) (listed:Array Bool),listed.size=ops.size→(∀i,i<ops.size→(listed.getD i false=false↔i∈c))→(∀i∈c,i<ops.size)→c≠[] →
  Region.ready .any ops listed≠[]:=by
  intro c listed hsz hiff hlt hne
  have:∀n,∀i∈c,i≤n→∃j∈c,∀k∈c,j≤k:=by
   intro n
   induction n with
   | zero=>intro i hi hn; exact ⟨i,hi,fun k _=>by omega⟩
   | succ n ih=>
     intro i hi hn
     by_cases hex:∃k∈c,k≤n
     · obtain ⟨k,hk,hkn⟩:=hex; exact ih k hk hkn
     · exact ⟨i,hi,fun k hk=>by
        by_cases hkn:k≤n
        · exact absurd ⟨k,hk,hkn⟩ hex
        · omega⟩
  obtain ⟨i0,r0,hc⟩:∃i r,c=i :: r:=by cases c with | nil=>exact absurd rfl hne | cons i r=>exact ⟨i,r,rfl⟩
  obtain ⟨j,hj,hmin⟩:=this i0 i0 (by rw [hc]; simp) (Nat.le_refl _)
  have hjs:=hlt j hj
  have hready:j∈Region.ready .any ops listed:=by
   unfold Region.ready
   rw [List.mem_filter]
   refine ⟨List.mem_range.2 hjs,?_⟩
   have hl:=(hiff j hjs).2 hj
   have h1:listed.getD j true=false:=by
    rw [Array.getD_eq_getD_getElem?] at hl ⊢
    rw [Array.getElem?_eq_getElem (by omega)] at hl ⊢
    exact hl
   rw [h1]
   simp only [Bool.not_false,Bool.true_and]
   rw [Array.getElem?_eq_getElem hjs]
   simp only [Option.map_some,Option.getD_some]
   rw [Array.all_eq_true']
   intro e he
   rw [Bool.or_eq_true]
   cases hbe:Region.binds .any e with
   | false=>left; rfl
   | true=>
   right
   have hlt':=hback j _ (Array.getElem?_eq_getElem hjs) e (by simpa using he) hbe
   cases hg:listed.getD e.on false with
   | true=>rfl
   | false=>have:=hmin _ ((hiff e.on (by omega)).1 hg); omega
  intro hnil; rw [hnil] at hready; cases hready
 intro fuel
 induction fuel with
 | zero=>
   intro c listed e h a w hf hsz hnd hiff hlt hdc hp hkeep hk hR
   have hcn:c=[]:=List.eq_nil_of_length_eq_zero (by omega)
   subst hcn
   refine ⟨?_,hQ _ _ _ ⟨rfl,e,h,hk,hR,hkeep⟩⟩
   unfold Region.ready
   rw [List.filter_eq_nil_iff]
   intro i hi
   have his:=List.mem_range.1 hi
   have hl:listed.getD i false=true:=by
    cases hg:listed.getD i false with
    | true=>rfl
    | false=>exact absurd ((hiff i his).1 hg) (by simp)
   have h1:listed.getD i true=true:=by
    rw [Array.getD_eq_getD_getElem?] at hl ⊢
    rw [Array.getElem?_eq_getElem (by omega)] at hl ⊢
    exact hl
   rw [h1]; simp
 | succ fuel ih=>
   intro c listed e h a w hf hsz hnd hiff hlt hdc hp hkeep hk hR
   refine ⟨fun hnil=>?_,fun i hi=>?_⟩
   · by_cases hcn:c=[]
     · subst hcn; exact hQ _ _ _ ⟨rfl,e,h,hk,hR,hkeep⟩
     · exact absurd hnil (least c listed hsz hiff hlt hcn)
   · unfold Region.ready at hi
     rw [List.mem_filter] at hi
     obtain ⟨hi1,hi2⟩:=hi
     have his:=List.mem_range.1 hi1
     rw [Bool.and_eq_true] at hi2
     obtain ⟨hi3,hi4⟩:=hi2
     have hl:listed.getD i false=false:=by
      rw [Array.getD_eq_getD_getElem?] at hi3 ⊢
      rw [Array.getElem?_eq_getElem (by omega)] at hi3 ⊢
      simpa using hi3
     have hic:=(hiff i his).1 hl
     obtain ⟨p,r,rfl⟩:=List.append_of_mem hic
     obtain ⟨o,ho⟩:∃o,ops[i]?=some o:=⟨_,Array.getElem?_eq_getElem his⟩
     rw [ho] at hi4
     simp only [Option.map_some,Option.getD_some] at hi4
     have hedges:∀e∈o.after.toList,Region.binds .any e=true→listed.getD e.on false=true:=fun e he hb=>by
      have:=(Array.all_eq_true'.1 hi4) e (by simpa using he)
      rw [hb] at this; simpa using this
     obtain ⟨hpo,hpr⟩:=zyc hp
     have hswap:∀x∈p,swapOk C ops x i=true:=fun x hx=>by
      rcases hpo x hx with h1 | h1
      · have h2:=zqr hdc ho hedges h1
        have hxs:=hlt x (by simp [hx])
        have h3:=(hiff x hxs).2 (by simp [hx])
        rw [h2] at h3; cases h3
      · exact h1
     have hb:=zrn hC hR.sub.fin hswap hk
     rw [zhy ho] at hb
     refine wpOpIn_mono ?_ (za3p hC ho hR hb)
     rintro a' w' ⟨u,h',hk',hR',hd'⟩
     have hnd':(p++r).Nodup∧i∉p++r:=by
      rw [List.nodup_append] at hnd
      obtain ⟨n1,n2,n3⟩:=hnd
      rw [List.nodup_cons] at n2
      refine ⟨List.nodup_append.2 ⟨n1,n2.2,fun a ha b hb=>n3 a ha b (by simp [hb])⟩,fun hm=>?_⟩
      rcases List.mem_append.1 hm with hm | hm
      · exact n3 i hm i (by simp) rfl
      · exact n2.1 hm
     have hset:∀j,j<ops.size→(listed.setIfInBounds i true).getD j false=if j=i then true else listed.getD j false:=fun j hj=>by
      simp only [Array.getD_eq_getD_getElem?,Array.getElem?_setIfInBounds]
      by_cases hji:j=i
      · subst hji; simp [show j<listed.size by omega]
      · simp [Ne.symm hji,hji]
     refine ih (p++r) (listed.setIfInBounds i true) (e.upd C.rt u) h' a' w' ?_ (by simpa using hsz) hnd'.1 ?_ ?_ ?_ hpr ?_ hk' hR'
     · simp at hf ⊢; omega
     · intro j hj
       rw [hset j hj]
       by_cases hji:j=i
       · subst hji; simp only [if_true]; exact ⟨(fun hh=>by cases hh),fun hh=>absurd hh hnd'.2⟩
       · rw [if_neg hji,hiff j hj]
         simp only [List.mem_append,List.mem_cons]
         constructor
         · rintro (h1 | h1 | h1)
           · exact .inl h1
           · exact absurd h1 hji
           · exact .inr h1
         · rintro (h1 | h1)
           · exact .inl h1
           · exact .inr (.inr h1)
     · intro j hj
       exact hlt j (by rcases List.mem_append.1 hj with h1 | h1<;>simp [h1])
     · intro j oj hoj hlj ed hed hbd
       have hjs:j<ops.size:=by
        rcases Nat.lt_or_ge j ops.size with h1 | h1
        · exact h1
        · rw [Array.getElem?_eq_none h1] at hoj; cases hoj
       have hes:ed.on<ops.size:=by have:=hback j oj hoj ed hed hbd; omega
       rw [hset _ hes]
       by_cases hei:ed.on=i
       · simp [hei]
       · rw [if_neg hei]
         rw [hset j hjs] at hlj
         by_cases hji:j=i
         · subst hji
           rw [ho] at hoj; cases hoj
           exact hedges ed hed hbd
         · rw [if_neg hji] at hlj
           exact hdc j oj hoj hlj ed hed hbd
     · intro t ht
       exact (hkeep t ht).trans (zxu fun d hd hh=>ht (by rw [hh]; exact hms i o ho d (hd' d hd)))
end
end Den
end

section
namespace Den
open Go
variable {F : Fence} {n : Nat} {P : Program} {ops : Array Oper} {Q : Exit → Act → World → Prop}
def keepQ (ts:List Nat) (a0:Act) (Q:Exit→Act→World→Prop):Exit→Act→World→Prop:=fun e a' w'=>
 Q e a' w'∧(e=.normal→∀t,t∉ts→a'.tmps[t]?=a0.tmps[t]?)
theorem zn5 {a:Act} {dst:Option Nat} {v:Value} {ts:List Nat} (hd:∀d,dst=some d→d∈ts):∀t,t∉ts→(a.put dst v).tmps[t]?=a.tmps[t]?:=fun t ht=>by
 cases dst with
 | none=>rfl
 | some d=>exact zb6 (fun hh=>ht (by rw [hh]; exact hd d rfl))
theorem za7q {o:Oper} {a a0:Act} {w:World} {K:Act→World→Prop} {ts:List Nat} (hd:∀d,o.dst=some d→d∈ts)
 (hh:o.wpIn F n P a w K Q):o.wpIn F n P a w (fun a' w'=>K a' w'∧∀t,t∉ts→a'.tmps[t]?=a.tmps[t]?) (keepQ ts a0 Q):=by
 unfold Oper.wpIn at *
 refine ⟨hh.1,?_⟩
 have hh:=hh.2
 have hlet:LetsOut Q→LetsOut (keepQ ts a0 Q):=fun ⟨x,y,hxy⟩=>⟨x,y,hxy,fun he=>by cases he⟩
 generalize (o.semAt F.round a.eval).run P w=r at *
 cases r with
 | ok x w'=>
   cases x<;>simp only [Oper.uponIn] at hh ⊢ <;>
    first
     | exact ⟨hh,zn5 hd⟩
     | exact ⟨hh.1,CallsIn.mono hh.2 (fun e w'' he=>by cases e<;>first | exact ⟨he,zn5 hd⟩ | exact ⟨he,fun hx=>by cases hx⟩ | exact hlet he)⟩
     | exact ⟨hh.1,RowsIn.mono hh.2 (fun _ _ he=>⟨he,zn5 hd⟩)⟩
     | exact ⟨hh.1,RoundIn.mono hh.2 (fun e w'' he=>by cases e<;>first | exact ⟨he,zn5 hd⟩ | exact ⟨he,fun hx=>by cases hx⟩ | exact hlet he)⟩
 | halt x w'=>cases x<;>simp only [Oper.uponIn] at hh ⊢<;>first | exact hh | exact ⟨hh,fun hx=>by cases hx⟩
theorem zs0 {i:Nat} {a a0:Act} {w:World} {K:Act→World→Prop} {ts:List Nat} (hd:∀(i:Nat) (o:Oper),ops[i]?=some o→∀d,o.dst=some d→d∈ts)
 (hh:wpOpIn F n P ops Q i K a w):wpOpIn F n P ops (keepQ ts a0 Q) i (fun a' w'=>K a' w'∧∀t,t∉ts→a'.tmps[t]?=a.tmps[t]?) a w:=by
 unfold wpOpIn at *
 cases ho:ops[i]? with
 | none=>rw [ho] at hh; exact ⟨hh,fun _ _=>rfl⟩
 | some o=>
   rw [ho] at hh
   simp only at hh ⊢
   split
   · rename_i hw; rw [if_pos hw] at hh; exact za7q (hd i o ho) hh
   · rename_i hw; rw [if_neg hw] at hh; exact ⟨hh.1,hh.2,zn5 (hd i o ho)⟩
theorem zr4 {ts:List Nat} (hd:∀(i:Nat) (o:Oper),ops[i]?=some o→∀d,o.dst=some d→d∈ts) :
 ∀{l:List Nat} {a a0:Act} {w:World},(∀t,t∉ts→a.tmps[t]?=a0.tmps[t]?)→wpOpsIn F n P ops Q l a w→wpOpsIn F n P ops (keepQ ts a0 Q) l a w
 | [],a,a0,w,ha,hh=>⟨hh,fun _=>ha⟩
 | i :: r,a,a0,w,ha,hh=>by
   rw [wpOpsIn_cons] at hh ⊢
   refine wpOpIn_mono ?_ (zs0 (a0:=a0) hd hh)
   rintro a' w' ⟨h1,h2⟩
   exact zr4 hd (fun t ht=>(h2 t ht).trans (ha t ht)) h1
theorem zr3 {ts:List Nat} {md:Region.Mode} (hd:∀(i:Nat) (o:Oper),ops[i]?=some o→∀d,o.dst=some d→d∈ts) :
 ∀{fuel:Nat} {listed:Array Bool} {a a0:Act} {w:World},(∀t,t∉ts→a.tmps[t]?=a0.tmps[t]?)→wpAnyIn F n P md ops Q fuel listed a w→wpAnyIn F n P md ops (keepQ ts a0 Q) fuel listed a w
 | 0,listed,a,a0,w,ha,hh=>⟨hh.1,hh.2,fun _=>ha⟩
 | fuel+1,listed,a,a0,w,ha,hh=>by
   refine ⟨fun hr=>⟨hh.1 hr,fun _=>ha⟩,fun i hi=>?_⟩
   refine wpOpIn_mono ?_ (zs0 (a0:=a0) hd (hh.2 i hi))
   rintro a' w' ⟨h1,h2⟩
   exact zr3 hd (fun t ht=>(h2 t ht).trans (ha t ht)) h1
end Den
end

section
namespace Den
open Go
variable {ro : Option Nat} {nn : Nat}
theorem za9m {P:Program} {Q:Exit→Act→World→Prop} {c:Code} {σ:Type} (I:σ→Act→World→Prop) (μ:σ→Nat)
 (round:∀s a w,I s a w→c.wpIn (wideR ro) nn P (Exit.then (fun a' w'=>∃s',I s' a' w'∧μ s'<μ s) Q) a w) {s:σ} {a:Act} {w:World} (h0:I s a w):(Code.loop c).wpIn (wideR ro) nn P Q a w:=by
 intro b k cs hro hb hr
 have key:∀n s a w,μ s=n→I s a w →
  ∃e a' w',Q e a' w'∧ArrivesIn (Machine.fenced P (wideR ro)) P (lone (b.atR a (.code c :: .inLoop c :: k)) cs w) b k cs e a' w':=by
  intro n
  induction n using Nat.strongRecOn with
  | _ n ih=>
    intro s a w hn hI
    obtain ⟨e,a₁,w₁,hq,harr⟩:=round s a w hI b (.inLoop c :: k) cs hro hb hr
    cases e with
    | normal=>
      obtain ⟨s',hI₁,hlt⟩:=hq
      obtain ⟨e₂,a₂,w₂,hq₂,harr₂⟩:=ih (μ s') (hn▸hlt) s' a₁ w₁ rfl hI₁
      exact ⟨e₂,a₂,w₂,hq₂,.of_steps (StepsIn.trans harr (.one (fenced_calm hb hr rfl) stepR_inLoop)) harr₂⟩
    | exit id=>exact ⟨_,a₁,w₁,hq,.pass (x:=.inLoop c) rfl (fun _ _=>.inl (by simp)) harr⟩
    | goto l=>exact ⟨_,a₁,w₁,hq,.pass (x:=.inLoop c) rfl (fun _ _=>.inl (by simp)) harr⟩
    | ret=>exact ⟨_,a₁,w₁,hq,.pass (x:=.inLoop c) rfl (fun _ _=>.inl (by simp)) harr⟩
    | panic ch=>exact ⟨_,a₁,w₁,hq,.pass (x:=.inLoop c) rfl (fun _ _=>.inl (by simp)) harr⟩
    | outgrown=>exact ⟨_,a₁,w₁,hq,.pass (x:=.inLoop c) rfl (fun _ _=>.inl (by simp)) harr⟩
 obtain ⟨e,a',w',hq,harr⟩:=key _ s a w rfl h0
 exact ⟨e,a',w',hq,.of_steps (.one (fenced_calm hb hr rfl) stepR_loop) harr⟩
section
variable {C : Cfg} {B : Base}
def exM:Ex→Exit→Prop
 | .normal,.normal=>True
 | .exit i,.exit j=>i=j
 | .ret,.ret=>True
 | _,_=>False
def Out (C:Cfg) (B:Base) (ms ts:List Nat) (a0:Act) (e:Env) (K:Ex→Env→Hp→Prop):Exit→Act→World→Prop:=fun x a' w'=>
 ∃ex e' h',exM ex x∧K ex e' h'∧Rel C B e' h' a' w'∧(∀t,t∉ms→keep (e t) (e' t))∧∀t,t∉ts→a'.tmps[t]?=a0.tmps[t]?
def BackFn (P:Program) (gf:Nat) (T:STy):Prop:=
 (∀args w,(callFunc gf args).run P w=.ok (.enter gf args) w) ∧
 ∀(l:Nat) (ab:Addr) (x:Sl) (J:Nat→World→Prop) (w:World),x.len≤140737488355328→J x.len w →
  (∀i W,J i W→W.cell? ab=some (.slice x.a x.len x.cap)) →
  (∀i W,i<x.len→J (i+1) W→∃(ad:Addr) (v:T.T),x.a=some ad∧(∀j u,(T.cells v)[j]?=some u→W.cell? (ad.add (i*T.size+j))=some u) ∧
    ∃f tmps asg body,(Instr.yield l #[.int .i64 i,T.val v]).run P W=.ok (.round l f tmps asg body) W∧RoundIn Fence.wide 0 P l f tmps asg body W fun e W'=>e=.returned (.bool true)∧J i W') →
  CallsIn Fence.wide 0 P gf #[.func (.yield l) #[] #[],.pointer (some ab)] w fun e w'=>(∃v,e=.returned v)∧J 0 w'
def BackTab (P:Program):List (Nat×STy)→Prop
 | []=>True
 | (g,T) :: r=>BackFn P g T∧BackTab P r
theorem BackTab.get {P:Program}:∀{l:List (Nat×STy)},BackTab P l→∀g T,lookB g l=some T→BackFn P g T
 | [],_,_,_,h=>by cases h
 | (x,y) :: r,hb,g,T,h=>by
   unfold lookB at h
   by_cases hg:g=x
   · subst hg; rw [beqT] at h; cases h; exact hb.1
   · rw [beqF hg] at h; exact BackTab.get hb.2 g T h
theorem za3g {P:Program} {n m:Nat} {l:Nat} {f:FuncId} {tmps:Array Value} {asg body:Code} {w:World} {R:Ending→World→Prop}
 (h:RoundIn Fence.wide n P l f tmps asg body w R):RoundIn Fence.wide m P l f tmps asg body w R:=⟨h.1,fun c cs _=>h.2 c cs (room_wide _)⟩
theorem LT.dn_iff:∀{ls:List Lf} {vs:List Value} {K:LT ls→Prop},LT.dn ls vs K↔∃x,vs=LT.up ls x∧K x
 | [],[],K=>by
   unfold LT.dn
   exact ⟨fun hk=>⟨(),rfl,hk⟩,fun ⟨x,_,hk⟩=>hk⟩
 | [],v :: vs,K=>by
   simp only [LT.dn,false_iff]
   rintro ⟨x,hx,_⟩; cases hx
 | l :: r,[],K=>by
   simp only [LT.dn,false_iff]
   rintro ⟨x,hx,_⟩; cases hx
 | l :: r,v :: vs,K=>by
   unfold LT.dn
   rw [Lf.dn_iff]
   constructor
   · rintro ⟨x,rfl,hk⟩
     rw [LT.dn_iff] at hk
     obtain ⟨y,rfl,hk⟩:=hk
     exact ⟨(x,y),rfl,hk⟩
   · rintro ⟨⟨x,y⟩,hx,hk⟩
     have hx':v :: vs=l.up x :: LT.up r y:=hx
     cases hx'
     exact ⟨x,rfl,LT.dn_iff.2 ⟨y,rfl,hk⟩⟩
theorem STy.dn_iff {s:STy} {sl:Slot} {K:s.T→Prop}:s.dn sl K↔∃x,sl=s.up x∧K x:=by
 cases s with
 | leaf l=>
   cases sl with
   | val v=>
     exact (Lf.dn_iff (l:=l) (v:=v) (K:=K)).trans ⟨fun ⟨x,h1,h2⟩=>⟨x,by rw [h1]; rfl,h2⟩,fun ⟨x,h1,h2⟩=>⟨x,by cases h1; rfl,h2⟩⟩
   | _=>exact ⟨fun hh=>hh.elim,fun ⟨x,hx,_⟩=>by cases hx⟩
 | agg ls=>
   cases sl with
   | val v=>
     cases v with
     | agg cs=>
       refine (LT.dn_iff (ls:=ls) (vs:=cs.toList) (K:=K)).trans ⟨?_,?_⟩
       · rintro ⟨x,h1,h2⟩
         refine ⟨x,?_,h2⟩
         show Slot.val (.agg cs)=Slot.val (.agg (LT.up ls x).toArray)
         rw [←h1]
       · rintro ⟨x,h1,h2⟩
         have h1':Slot.val (.agg cs)=Slot.val (.agg (LT.up ls x).toArray):=h1
         simp only [Slot.val.injEq,Value.agg.injEq] at h1'
         exact ⟨x,by rw [h1'],h2⟩
     | _=>exact ⟨fun hh=>hh.elim,fun ⟨x,hx,_⟩=>by cases hx⟩
   | _=>exact ⟨fun hh=>hh.elim,fun ⟨x,hx,_⟩=>by cases hx⟩
 | mp=>
   cases sl with
   | mp m=>exact ⟨fun hh=>⟨m,rfl,hh⟩,fun ⟨x,hx,hk⟩=>by cases hx; exact hk⟩
   | _=>exact ⟨fun hh=>hh.elim,fun ⟨x,hx,_⟩=>by cases hx⟩
 | box ls=>
   cases sl with
   | box cs=>
     exact (LT.dn_iff (ls:=ls) (vs:=cs) (K:=K)).trans ⟨fun ⟨x,h1,h2⟩=>⟨x,by rw [h1]; rfl,h2⟩,fun ⟨x,h1,h2⟩=>⟨x,by cases h1; rfl,h2⟩⟩
   | _=>exact ⟨fun hh=>hh.elim,fun ⟨x,hx,_⟩=>by cases hx⟩
theorem zjn:∀{L:List (Nat×STy)} {e:Env} {K:STup L→Prop},packS L e K→∃s,(∀t x,unpack L s t=some x→e t=x)∧K s
 | [],e,K,hk=>⟨(),(fun t x hx=>by cases hx),hk⟩
 | (t,s) :: r,e,K,hk=>by
   unfold packS at hk
   obtain ⟨x,hx,hk⟩:=STy.dn_iff.1 hk
   obtain ⟨xs,h1,h2⟩:=zjn hk
   refine ⟨(x,xs),fun t' y hy=>?_,h2⟩
   have hy':(bif Nat.beq t' t then some (s.up x) else unpack r xs t')=some y:=hy
   by_cases ht:t'=t
   · subst ht; rw [beqT] at hy'; simp only [cond_true,Option.some.injEq] at hy'; rw [←hy']; exact hx
   · rw [beqF ht] at hy'; simp only [cond_false] at hy'; exact h1 t' y hy'
theorem zox {e e':Env} {ms:List Nat} {L:List (Nat×STy)} {s:STup L} (hs:∀t x,unpack L s t=some x→e' t=x) (hk:∀t,t∉ms→keep (e t) (e' t)) (t:Nat) :
 mkEnv e ms L s t=.junk∨(mkEnv e ms L s t=e' t):=by
 unfold mkEnv
 cases hu:unpack L s t with
 | some x=>exact .inr (hs t x hu).symm
 | none=>
   simp only
   cases hm:memN t ms with
   | true=>exact .inl rfl
   | false=>
     simp only [cond_false]
     have hkt:=hk t (fun hh=>by rw [zdh.2 hh] at hm; cases hm)
     cases he:e t with
     | val v=>right; exact (hkt.2 v he).symm
     | box cs=>right; have:=hkt.1 (.inl ⟨cs,he⟩); rw [this,he]
     | mp m=>right; have:=hkt.1 (.inr (.inl ⟨m,he⟩)); rw [this,he]
     | mr=>right; have:=hkt.1 (.inr (.inr he)); rw [this,he]
     | _=>exact .inl rfl
theorem zxz {e e':Env} {ms:List Nat} {L:List (Nat×STy)} {s:STup L} (t off:Nat):mkEnv e ms L s t≠.ref off:=by
 unfold mkEnv
 cases hu:unpack L s t with
 | some x=>
   simp only
   intro hx
   subst hx
   revert hu s
   induction L with
   | nil=>intro s hu; cases hu
   | cons p r ih=>
     intro s hu
     obtain ⟨t',sy⟩:=p
     unfold unpack at hu
     by_cases ht:t=t'
     · subst ht; rw [beqT] at hu
       simp only [cond_true,Option.some.injEq] at hu
       cases sy<;>cases hu
     · rw [beqF ht] at hu; exact ih hu
 | none=>
   simp only
   cases hm:memN t ms with
   | true=>intro hh; cases hh
   | false=>
     simp only [cond_false]
     cases he:e t<;>intro hh<;>cases hh
theorem Rel.atMk {e e':Env} {h:Hp} {a:Act} {w:World} (hR:Rel C B e' h a w) {ms:List Nat} {L:List (Nat×STy)} {s:STup L}
 (hs:∀t x,unpack L s t=some x→e' t=x) (hk:∀t,t∉ms→keep (e t) (e' t)):Rel C B (mkEnv e ms L s) h a w where
 sub:=hR.sub
 sz:=hR.sz
 defers:=hR.defers
 fr:=hR.fr
 dom:=hR.dom
 vals:=fun t v ht=>by
  rcases zox hs hk t with h1 | h1
  · rw [h1] at ht; cases ht
  · rw [h1] at ht; exact hR.vals t v ht
 hid:=fun t ht=>by
  rcases zox hs hk t with h1 | h1
  · rw [h1] at ht; cases ht
  · rw [h1] at ht ⊢; exact hR.hid t ht
 inj:=fun t t' b i1 i2 i3 i4=>by
  rcases zox hs hk t with h1 | h1
  · rw [h1] at i1; cases i1
  · rcases zox hs hk t' with h2 | h2
    · rw [h2] at i2; cases i2
    · rw [h1] at i1 i3; rw [h2] at i2 i4; exact hR.inj t t' b i1 i2 i3 i4
 refs:=fun t off ht=>absurd ht (zxz (e':=e') t off)
 mrs:=fun t ht=>by
  rcases zox hs hk t with h1 | h1
  · rw [h1] at ht; cases ht
  · rw [h1] at ht; exact hR.mrs t ht
theorem zr8 {e e':Env} {ms:List Nat} {L:List (Nat×STy)} {s:STup L} (hs:∀t x,unpack L s t=some x→e' t=x) (hk:∀t,t∉ms→keep (e t) (e' t)) {t:Nat}
 (ht:t∉ms):keep (e t) (mkEnv e ms L s t):=by
 unfold mkEnv
 cases hu:unpack L s t with
 | some x=>simp only; rw [←hs t x hu]; exact hk t ht
 | none=>
   simp only
   have hm:memN t ms=false:=by
    cases hm:memN t ms with
    | false=>rfl
    | true=>exact absurd (zdh.1 hm) ht
   rw [hm]
   simp only [cond_false]
   cases he:e t with
   | val v=>exact keep.refl _
   | box cs=>exact keep.refl _
   | lit cs n=>exact ⟨(fun hh=>by rcases hh with ⟨_,hh⟩ | ⟨_,hh⟩ | hh<;>cases hh),(fun v hv=>by cases hv)⟩
   | mp m=>exact keep.refl _
   | mr=>exact keep.refl _
   | ref off=>exact ⟨(fun hh=>by rcases hh with ⟨_,hh⟩ | ⟨_,hh⟩ | hh<;>cases hh),(fun v hv=>by cases hv)⟩
   | junk=>exact keep.refl _
open Classical in
noncomputable def rebD (e:Env) (h:Hp) (a:Act):Hp:=fun k=>
 if h k≠none∨∃t,isHid (e t)=true∧a.tmps[t]?=some (hidV k (e t)) then some ⟨[],0,(0,0)⟩ else none
theorem za80 {e:Env} {h:Hp} {a:Act} {k:Nat} (hk:rebD e h a k=none):h k=none∧∀t,isHid (e t)=true→a.tmps[t]?=some (hidV k (e t))→False:=by
 unfold rebD at hk
 split at hk
 · cases hk
 · rename_i hh
   refine ⟨Classical.byContradiction fun hx=>hh (.inl hx),fun t h1 h2=>hh (.inr ⟨t,h1,h2⟩)⟩
theorem za81 {e:Env} {h:Hp} {a:Act} {k:Nat} (hk:h k≠none∨∃t,isHid (e t)=true∧a.tmps[t]?=some (hidV k (e t))):rebD e h a k≠none:=by
 unfold rebD
 rw [if_pos hk]; simp
theorem Rel.rebase {e:Env} {h:Hp} {a:Act} {w:World} (hR:Rel C B e h a w):Rel C ⟨rebD e h a,w,0⟩ e h a w where
 sub:=hR.sub
 sz:=hR.sz
 defers:=hR.defers.mono (Nat.zero_le _) fun _ hr=>hr
 fr:=Fr.refl _ _
 dom:=fun k h1 h2=>absurd (za80 h2).1 h1
 vals:=hR.vals
 hid:=fun t ht=>by
  obtain ⟨h1,b,el,h2,h3,h4,_⟩:=hR.hid t ht
  exact ⟨h1,b,el,h2,h3,h4,.inr (za81 (.inr ⟨t,ht,h2⟩))⟩
 inj:=hR.inj
 refs:=hR.refs
 mrs:=hR.mrs
section
variable {e0 e1 : Env} {h0 h1 : Hp} {a0 a1 : Act} {w0 w1 : World}
theorem zum (hR:Rel C B e0 h0 a0 w0) {k:Nat} (hk:B.D k=none) (hlt:k<B.w.heap.size):rebD e0 h0 a0 k=none:=by
 cases hh:rebD e0 h0 a0 k with
 | none=>rfl
 | some b=>
   exfalso
   unfold rebD at hh
   split at hh
   · rename_i hx
     rcases hx with hx | ⟨t,h1,h2⟩
     · have:=hR.dom k hx hk; omega
     · obtain ⟨_,b',_,h3,_,_,h5⟩:=hR.hid t h1
       rw [h2] at h3
       have:=zn2 (Option.some.inj h3)
       subst this
       rcases h5 with h5 | h5
       · omega
       · exact h5 hk
   · cases hh
theorem Rel.unrebase (hR:Rel C B e0 h0 a0 w0) (hR1:Rel C ⟨rebD e0 h0 a0,w0,0⟩ e1 h1 a1 w1) {ds:List Deferred} (hd:Marks B.nb w1 ds):Rel C B e1 h1 { a1 with defers:=ds } w1 where
 sub:=hR1.sub
 sz:=hR1.sz
 defers:=hd
 fr:=by
  obtain ⟨x1,x2,x3,x4,x5,x6⟩:=hR.fr
  obtain ⟨y1,y2,y3,y4,y5,y6⟩:=hR1.fr
  refine ⟨Nat.le_trans x1 y1,fun k hk hD=>?_,y3.trans x3,y4.trans x4,y5.trans x5,Nat.le_trans x6 y6⟩
  have h3:k<w0.heap.size:=Nat.lt_of_lt_of_le hk x1
  rw [y2 k h3 (zum hR hD hk),x2 k hk hD]
 dom:=fun k hk hD=>by
  rcases Nat.lt_or_ge k B.w.heap.size with hlt | hge
  · have h2:=hR1.dom k hk (zum hR hD hlt)
    have h2':w0.heap.size≤k:=h2
    have:=hR.fr.1; omega
  · exact hge
 vals:=hR1.vals
 hid:=fun t ht=>by
  obtain ⟨g1,b,el,g2,g3,g4,g5⟩:=hR1.hid t ht
  refine ⟨g1,b,el,g2,g3,g4,?_⟩
  rcases g5 with g5 | g5
  · exact .inl (Nat.le_trans hR.fr.1 g5)
  · rcases Nat.lt_or_ge b B.w.heap.size with hlt | hge
    · exact .inr fun hD=>g5 (zum hR hD hlt)
    · exact .inl hge
 inj:=hR1.inj
 refs:=hR1.refs
 mrs:=hR1.mrs
theorem zmt (hR:Rel C B e0 h0 a0 w0) (hR1:Rel C ⟨rebD e0 h0 a0,w0,0⟩ e1 h1 a1 w1) {k:Nat} {o:Obj} (hk:w0.heap[k]?=some o) (ho:¬plainO o):w1.heap[k]?=some o:=by
 have hlt:k<w0.heap.size:=zcu hk
 have hn:rebD e0 h0 a0 k=none:=by
  cases hh:rebD e0 h0 a0 k with
  | none=>rfl
  | some b=>
    exfalso
    unfold rebD at hh
    split at hh
    · rename_i hx
      rcases hx with hx | ⟨t,h1,h2⟩
      · cases hb:h0 k with
        | none=>exact hx hb
        | some b=>rw [hR.sub k b hb] at hk; cases hk; exact ho trivial
      · obtain ⟨_,b',_,h3,h4,_,_⟩:=hR.hid t h1
        rw [h2] at h3
        have:=zn2 (Option.some.inj h3)
        subst this
        obtain ⟨o',q1,q2⟩:=h4.obj
        rw [q2] at hk; cases hk; exact ho q1
    · cases hh
 rw [hR1.fr.2.1 k hlt hn]; exact hk
theorem Rel.putObj (hR:Rel C B e0 h0 a0 w0) {l:Nat} {r r':Loop} (hl:B.w.heap.size≤l) (hw:w0.heap[l]?=some (.loop r)):Rel C B e0 h0 a0 (w0.putObj l (Obj.loop r')):=by
 have hne:∀(k:Nat) (o:Obj),w0.heap[k]?=some o→(∀q,o≠Obj.loop q)→(w0.putObj l (Obj.loop r')).heap[k]?=some o:=fun k o hk ho=>by
  rw [World.putObj_heap_other (fun hh=>by subst hh; rw [hw] at hk; exact ho r (Option.some.inj hk).symm)]; exact hk
 refine ⟨fun k b hb=>hne k _ (hR.sub k b hb) (fun q hq=>by cases hq),hR.sz,hR.defers.mono (Nat.le_refl _) (fun k hk=>hne k _ hk (fun q hq=>by cases hq)),?_,hR.dom,hR.vals,fun t ht=>?_,hR.inj,hR.refs,hR.mrs⟩
 · obtain ⟨x1,x2,x3,x4,x5,x6⟩:=hR.fr
   refine ⟨by rw [World.putObj_size]; exact x1,fun k hk hD=>?_,x3,x4,x5,x6⟩
   rw [World.putObj_heap_other (by omega)]; exact x2 k hk hD
 · obtain ⟨g1,b,el,g2,g3,g4,g5⟩:=hR.hid t ht
   exact ⟨g1,b,el,g2,g3.mono fun o hp hoo=>hne b o hoo (fun q hq=>by subst hq; exact hp),g4,g5⟩
theorem Rel.allocObj (hR:Rel C B e0 h0 a0 w0) (o:Obj):Rel C B e0 h0 a0 (w0.alloc o):=
 hR.step (hR.sub.alloc o) (Fr.alloc h0 w0 o) fun _ h1 h2=>absurd h2 h1
theorem Rel.withDefers (hR:Rel C B e0 h0 a0 w0) {ds:List Deferred} (hd:Marks B.nb w0 ds):Rel C B e0 h0 { a0 with defers:=ds } w0:=
 ⟨hR.sub,hR.sz,hd,hR.fr,hR.dom,hR.vals,hR.hid,hR.inj,hR.refs,hR.mrs⟩
end
theorem Rel.roundEnd {e e2:Env} {h1 h2:Hp} {a a2:Act} {w1 w2:World} {ms:List Nat} {L:List (Nat×STy)} {s s':STup L} (hJ:Rel C B (mkEnv e ms L s) h1 a w1) (hE:Rel C B e2 h2 a2 w2)
 (hL:∀q∈L,isBoxT q.2=true) (hs:∀t x,unpack L s' t=some x→e2 t=x) (hk:∀t,t∉ms→keep (mkEnv e ms L s t) (e2 t))
 (ht:∀t,isHid (mkEnv e ms L s t)=true→a2.tmps[t]?=a.tmps[t]?) (hm:Marks B.nb w2 a.defers):Rel C B (mkEnv e ms L s') h2 a w2:=by
 have hbox:∀(L:List (Nat×STy)) (z:STup L),(∀q∈L,isBoxT q.2=true)→∀t y,unpack L z t=some y→∃cs,y=.box cs:=by
  intro L
  induction L with
  | nil=>intro z _ t y hu; cases hu
  | cons p r ih=>
    intro z hb t y hu
    obtain ⟨t',sy⟩:=p
    unfold unpack at hu
    by_cases htt:t=t'
    · subst htt; rw [beqT] at hu
      simp only [cond_true,Option.some.injEq] at hu
      have:=hb _ (List.mem_cons_self)
      cases sy with
      | box ls=>exact ⟨_,hu.symm⟩
      | _=>cases this
    · rw [beqF htt] at hu; exact ih z.2 (fun q hq=>hb q (List.mem_cons_of_mem _ hq)) t y hu
 have hsome:∀(L:List (Nat×STy)) (z z':STup L) t,(∃y,unpack L z t=some y)→∃y,unpack L z' t=some y:=by
  intro L
  induction L with
  | nil=>intro z z' t ⟨y,hy⟩; cases hy
  | cons p r ih=>
    intro z z' t ⟨y,hy⟩
    obtain ⟨t',sy⟩:=p
    unfold unpack at hy ⊢
    by_cases htt:t=t'
    · subst htt; rw [beqT]; exact ⟨_,rfl⟩
    · rw [beqF htt] at hy ⊢; exact ih z.2 z'.2 t ⟨y,hy⟩
 have back:∀t,isHid (mkEnv e ms L s' t)=true→(∃cs cs',mkEnv e ms L s t=.box cs∧mkEnv e ms L s' t=.box cs'∧e2 t=.box cs')∨∃m,mkEnv e ms L s t=.mp m∧mkEnv e ms L s' t=.mp m∧e2 t=.mp m:=by
  intro t hh
  unfold mkEnv at hh ⊢
  cases hu:unpack L s' t with
  | some y=>
    obtain ⟨cs',rfl⟩:=hbox L s' hL t y hu
    obtain ⟨y0,hy0⟩:=hsome L s' s t ⟨_,hu⟩
    obtain ⟨cs,rfl⟩:=hbox L s hL t y0 hy0
    rw [hy0]
    exact .inl ⟨cs,cs',rfl,rfl,hs t _ hu⟩
  | none=>
    rw [hu] at hh
    have hu0:unpack L s t=none:=by
     cases hx:unpack L s t with
     | none=>rfl
     | some y=>obtain ⟨y',hy'⟩:=hsome L s s' t ⟨y,hx⟩; rw [hu] at hy'; cases hy'
    rw [hu0]
    simp only at hh ⊢
    cases hm:memN t ms with
    | true=>rw [hm] at hh; cases hh
    | false=>
      rw [hm] at hh
      simp only [cond_false] at hh ⊢
      cases he:e t with
      | box cs=>
        simp only
        refine .inl ⟨cs,cs,rfl,rfl,?_⟩
        have h1:mkEnv e ms L s t=.box cs:=by unfold mkEnv; rw [hu0]; simp only [hm,cond_false,he]
        have:=hk t (fun hx=>by rw [zdh.2 hx] at hm; cases hm)
        rw [h1] at this
        exact this.1 (.inl ⟨cs,rfl⟩)
      | mp m=>
        simp only
        refine .inr ⟨m,rfl,rfl,?_⟩
        have h1:mkEnv e ms L s t=.mp m:=by unfold mkEnv; rw [hu0]; simp only [hm,cond_false,he]
        have:=hk t (fun hx=>by rw [zdh.2 hx] at hm; cases hm)
        rw [h1] at this
        exact this.1 (.inr (.inl ⟨m,rfl⟩))
      | _=>rw [he] at hh; cases hh
 refine ⟨hE.sub,hJ.sz,hm,hE.fr,hE.dom,fun t v hv=>?_,fun t hh=>?_,fun t t' b i1 i2 i3 i4=>?_,fun t off hh=>absurd hh (zxz (e':=e2) t off),fun t hh=>?_⟩
 · refine hJ.vals t v ?_
   unfold mkEnv at hv ⊢
   cases hu:unpack L s' t with
   | some y=>rw [hu] at hv; obtain ⟨cs,rfl⟩:=hbox L s' hL t y hu; cases hv
   | none=>
     have hu0:unpack L s t=none:=by
      cases hx:unpack L s t with
      | none=>rfl
      | some y=>obtain ⟨y',hy'⟩:=hsome L s s' t ⟨y,hx⟩; rw [hu] at hy'; cases hy'
     rw [hu] at hv; rw [hu0]; exact hv
 · rcases back t hh with ⟨cs,cs',c1,c2,c3⟩ | ⟨m,c1,c2,c3⟩
   · obtain ⟨g1,b,el,g2,g3,g4,g5⟩:=hE.hid t (by rw [c3]; rfl)
     rw [c3] at g2 g3
     rw [ht t (by rw [c1]; rfl)] at g2
     exact ⟨g1,b,el,by rw [c2]; exact g2,by rw [c2]; exact g3,g4,g5⟩
   · obtain ⟨g1,b,el,g2,g3,g4,g5⟩:=hE.hid t (by rw [c3]; rfl)
     rw [c3] at g2 g3
     rw [ht t (by rw [c1]; rfl)] at g2
     exact ⟨g1,b,el,by rw [c2]; exact g2,by rw [c2]; exact g3,g4,g5⟩
 · have key:∀t c,isHid (mkEnv e ms L s' t)=true→a.tmps[t]?=some (hidV c (mkEnv e ms L s' t))→isHid (mkEnv e ms L s t)=true∧a.tmps[t]?=some (hidV c (mkEnv e ms L s t)):=fun t c j1 j2=>by
    rcases back t j1 with ⟨cs,cs',c1,c2,c3⟩ | ⟨m,c1,c2,c3⟩
    · rw [c2] at j2; rw [c1]; exact ⟨rfl,j2⟩
    · rw [c2] at j2; rw [c1]; exact ⟨rfl,j2⟩
   obtain ⟨k1,k2⟩:=key t b i1 i3
   obtain ⟨k3,k4⟩:=key t' b i2 i4
   exact hJ.inj t t' b k1 k3 k2 k4
 · refine hJ.mrs t ?_
   unfold mkEnv at hh ⊢
   cases hu:unpack L s' t with
   | some y=>rw [hu] at hh; obtain ⟨cs,rfl⟩:=hbox L s' hL t y hu; cases hh
   | none=>
     have hu0:unpack L s t=none:=by
      cases hx:unpack L s t with
      | none=>rfl
      | some y=>obtain ⟨y',hy'⟩:=hsome L s s' t ⟨y,hx⟩; rw [hu] at hy'; cases hy'
     rw [hu] at hh; rw [hu0]; exact hh
theorem za2i {C:Cfg} {L:List (Nat×STy)} {p0 p1:Nat} {x y:Code} (h:backOk C L p0 p1 x y=true) :
 (∀q∈L,isBoxT q.2=true∧q.1∈modsC C x++modsC C y∧q.1∉p0 :: p1 :: (dstC x++dstC y))∧noRange x=true∧noRange y=true∧C.loc p0=false∧C.loc p1=false∧p0<C.n∧p1<C.n∧p0≠p1:=by
 unfold backOk at h
 simp only [Bool.and_eq_true,List.all_eq_true,Bool.not_eq_true'] at h
 obtain ⟨⟨⟨⟨⟨⟨⟨h1,h2⟩,h3⟩,h4⟩,h5⟩,h6⟩,h7⟩,h8⟩:=h
 have lt:∀{a b:Nat},Nat.blt a b=true→a<b:=fun hh=>by unfold Nat.blt at hh; have:=Nat.le_of_ble_eq_true hh; omega
 refine ⟨fun q hq=>?_,h2,h3,h4,h5,lt h6,lt h7,fun hh=>by rw [hh,beqT] at h8; cases h8⟩
 obtain ⟨⟨⟨g1,g2⟩,g3⟩,g4⟩:=h1 q hq
 exact ⟨g1,zdh.1 g2,fun hm=>by rw [zdh.2 hm] at g3; cases g3⟩
theorem zpw:∀{L:List (Nat×STy)} {s:STup L} {t:Nat} {y:Slot},unpack L s t=some y→∃q∈L,q.1=t
 | [],_,_,_,h=>by cases h
 | (t',sy) :: r,s,t,y,h=>by
   unfold unpack at h
   by_cases htt:t=t'
   · exact ⟨_,List.mem_cons_self,htt.symm⟩
   · rw [beqF htt] at h
     obtain ⟨q,h1,h2⟩:=zpw (s:=s.2) h
     exact ⟨q,List.mem_cons_of_mem _ h1,h2⟩
theorem zgz {C:Cfg}:∀(c:Code) (t:Nat),t∈dstC c→t∈modsC C c
 | .region _ ops _,t,h=>by
   unfold dstC at h; unfold modsC
   rw [List.mem_flatMap] at h ⊢
   obtain ⟨o,h1,h2⟩:=h
   refine ⟨o,h1,List.mem_append_left _ ?_⟩
   unfold modsO
   exact List.mem_append_left _ (List.mem_append_left _ h2)
 | .seq a b,t,h=>by
   unfold dstC at h; unfold modsC
   rcases List.mem_append.1 h with h | h
   · exact List.mem_append_left _ (zgz a t h)
   · exact List.mem_append_right _ (zgz b t h)
 | .cond _ a b,t,h=>by
   unfold dstC at h; unfold modsC
   rcases List.mem_append.1 h with h | h
   · exact List.mem_append_left _ (zgz a t h)
   · exact List.mem_append_right _ (zgz b t h)
 | .block _ a,t,h=>zgz a t h
 | .loop a,t,h=>zgz a t h
 | .scope a,t,h=>zgz a t h
 | .rangeFunc _ _ _ _,t,h=>by cases h
 | .skip,t,h=>by cases h
 | .exit _,t,h=>by cases h
 | .ret,t,h=>by cases h
 | .label _,t,h=>by cases h
 | .goto _,t,h=>by cases h
 | .refuse ..,t,h=>by cases h
theorem Marks.lt {N:Nat} {w:World}:∀{ds:List Deferred},Marks N w ds→∀d∈ds,d≠{ target:=.collected w.heap.size,args:=#[] }
 | [],_,_,h=>by cases h
 | d :: ds,⟨⟨r,h1,_,h3,_⟩,hm⟩,d',hd=>by
   rcases List.mem_cons.1 hd with rfl | hd
   · intro hh
     rw [h1] at hh
     have:=zcu h3
     simp only [Deferred.mk.injEq,Target.collected.injEq,and_true] at hh
     omega
   · exact Marks.lt hm d' hd
theorem za2j {nn:Nat} (hBk:BackTab C.P C.backs) (hmk:B.nb≤B.w.heap.size) {x y:Code}
 (hx:noRange x=true→∀(B:Base) (l:Nat) (an:An) (K:Ex→Env→Hp→Prop) (e:Env) (h:Hp) (a:Act) (w:World),B.nb≤B.w.heap.size→den C x an K e h→Rel C B e h a w→x.wpIn (wideR (some l)) nn C.P (Out C B (modsC C x) (dstC x) a e K) a w)
 (hy:noRange y=true→∀(B:Base) (l:Nat) (an:An) (K:Ex→Env→Hp→Prop) (e:Env) (h:Hp) (a:Act) (w:World),B.nb≤B.w.heap.size→den C y an K e h→Rel C B e h a w→y.wpIn (wideR (some l)) nn C.P (Out C B (modsC C y) (dstC y) a e K) a w)
 {g:Operand} {p0 p1:Nat} {L:List (Nat×STy)} {b1 b2:An} {K:Ex→Env→Hp→Prop} {e:Env} {h:Hp} {a:Act} {w:World}
 (hk:den C (.rangeFunc g ⟨[p0,p1]⟩ x y) (.back L b1 b2) K e h) (hR:Rel C B e h a w) :
 (Code.rangeFunc g ⟨[p0,p1]⟩ x y).wpIn (wideR none) nn C.P (Out C B (modsC C (.rangeFunc g ⟨[p0,p1]⟩ x y)) (dstC (.rangeFunc g ⟨[p0,p1]⟩ x y)) a e K) a w:=by
 unfold den at hk
 simp only at hk
 cases hok:backOk C L p0 p1 x y with
 | false=>rw [hok] at hk; exact hk.elim
 | true=>
   rw [hok] at hk
   simp only at hk
   obtain ⟨hL,nx,ny,lp0,lp1,np0,np1,hp01⟩:=za2i hok
   replace hk:=zav hR hk
   split at hk
   case h_2=>exact hk.elim
   rename_i gf ad hg
   split at hk
   case h_2=>exact hk.elim
   rename_i T hT
   have hB:=hBk.get gf T hT
   obtain ⟨s0,hs0,hbk⟩:=zjn hk
   obtain ⟨xs,I,hxl,hI0,hIbox,hIround,hIend⟩:=hbk
   obtain ⟨ms,hms⟩:∃ms,ms=[p0,p1]++modsC C x++modsC C y:=⟨_,rfl⟩
   rw [←hms] at hIround hIend
   have hmsC:modsC C (.rangeFunc g ⟨[p0,p1]⟩ x y)=ms:=by rw [hms]; rfl
   rw [hmsC]
   have hk0:Rel C B (mkEnv e ms L s0) h a w:=hR.atMk hs0 (fun _ _=>keep.refl _)
   have hwB:B.w.heap.size≤w.heap.size:=hR.fr.1
   refine wpIn_rangeFunc fun fn hfn=>?_
   obtain ⟨rec,hrec⟩:∃rec:LoopState→Option Code→Loop,rec=fun st pe=>{ state:=st,pending:=pe,fn,tmps:=a.tmps,params:=⟨[p0,p1]⟩,assign:=x,body:=y,defers:=w.heap.size }:=⟨_,rfl⟩
   obtain ⟨W1,hW1⟩:∃W1,(w.alloc (.deferred (some []))).alloc (.loop (rec .ready none))=W1:=⟨_,rfl⟩
   have hL1:W1.heap[w.heap.size+1]?=some (.loop (rec .ready none)):=by
    rw [←hW1]
    have:=zlo (w:=w.alloc (.deferred (some []))) (o:=.loop (rec .ready none))
    simpa using this
   have hK1:W1.heap[w.heap.size]?=some (.deferred (some [])):=by
    rw [←hW1,zlp (by simp)]; exact zlo
   have hR1:Rel C B (mkEnv e ms L s0) h a W1:=by rw [←hW1]; exact (hk0.allocObj _).allocObj _
   refine ⟨w.heap.size+1,[{ target:=.collected w.heap.size,args:=#[] }],W1,{ target:=.fn (.func gf) #[.pointer (some ad)],args:=#[.func (.yield (w.heap.size+1)) #[] #[]] },W1,gf,
    #[.func (.yield (w.heap.size + 1)) #[] #[], .pointer (some ad)], W1, ?_, ?_, ?_, ?_, (fun hh => by cases hh), ?_⟩
   · rw [←hW1,hrec]; exact run_enterLoop_outer _ _ _ _ _
   · have:a.eval g=.func (.func gf) #[] #[.pointer (some ad)]:=hg
     simp only [resolve,this]
     simp [go_sem]
   · intro f' hf'; trivial
   · simp [invoke,go_sem,hB.1]
   · refine (callsIn_wide (n:=nn-1)).2 ((callsIn_wide (n:=0)).1 ((hB.2 (w.heap.size+1) ad xs (fun i W=>∃s h',I i s h'∧Rel C B (mkEnv e ms L s) h' a W∧W.heap[w.heap.size+1]?=some (.loop (rec .ready none))∧W.heap[w.heap.size]?=some (.deferred (some [])))
      W1 hxl ⟨s0,h,hI0,hR1,hL1,hK1⟩ ?_ ?_).mono ?_))
     · rintro i W ⟨s,h',hI,hR',_,_⟩
       exact hR'.sub.cell (hIbox i s h' hI)
     · rintro i W hi ⟨s,h',hI,hR',hl1,hD1⟩
       obtain ⟨ad',v,hxa,hcells,hbody⟩:=hIround i s h' hi hI
       refine ⟨ad',v,hxa,fun j u hj=>hR'.sub.cell (hcells j u hj),fn,(a.tmps.setIfInBounds p0 (.int .i64 i)).setIfInBounds p1 (T.val v),x,y,?_,?_⟩
       · have:=run_yield (P:=C.P) (args:=#[.int .i64 i,T.val v]) hl1 (by rw [hrec]; rfl)
         rw [hrec] at this
         rw [this]
         simp
       · refine za3g (n:=nn) (roundIn_of_wpIn (F:=Fence.wide) trivial ?_)
         have hS:Rel C ⟨rebD (mkEnv e ms L s) h' a,W,0⟩ (((mkEnv e ms L s).set p0 (.val (.int .i64 i))).set p1 (.val (T.val v))) h'
          { tmps:=(a.tmps.setIfInBounds p0 (.int .i64 i)).setIfInBounds p1 (T.val v),defers:=[] } W:=
          ((hR'.rebase.withDefers (ds:=[]) trivial).setVal lp0 np0).setVal lp1 np1
         refine zc7 (ro:=some (w.heap.size+1)) ?_ (hx nx _ _ b1 _ _ h' _ W (Nat.zero_le _) hbody hS)
         rintro xx a1 w1 ⟨ex,e1,h1,hm,hK,hRx,hkp1,htk1⟩
         cases xx with
         | normal=>
           cases ex<;>first | (exact hm.elim) | skip
           have notC:∀(q:Loop),¬plainO (Obj.loop q):=fun q hh=>hh
           have notD:∀q,¬plainO (Obj.deferred q):=fun q hh=>hh
           have hm1:Marks B.nb w1 a.defers:=hR'.defers.mono (Nat.le_refl _) fun r hr=>zmt hR' hRx hr (notD _)
           have hl2:=zmt hR' hRx hl1 (notC _)
           have hD2:=zmt hR' hRx hD1 (notD _)
           have hB1:Rel C B e1 h1 { a1 with defers:=a.defers } w1:=hR'.unrebase hRx hm1
           refine ⟨_,run_beginRound hl2 (by rw [hrec]),?_⟩
           have hB2:=hB1.putObj (r':={ rec .ready none with state:=.busy }) (show B.w.heap.size≤w.heap.size+1 by omega) hl2
           have hS2:=hB2.rebase
           have hma1:Marks 0 (w1.putObj (w.heap.size+1) (Obj.loop { rec .ready none with state:=.busy })) a1.defers:=hRx.defers.mono (Nat.le_refl _) fun r hr=>by
            rw [World.putObj_heap_other (fun hh=>by rw [hh,hl2] at hr; cases hr)]; exact hr
           have hS3:=hS2.withDefers hma1
           refine zc7 (ro:=some (w.heap.size+1)) ?_ (hy ny _ _ b2 _ _ h1 a1 _ (Nat.zero_le _) hK hS3)
           rintro xx a2 w2 ⟨ex,e2,h2,hm,hK,hRy,hkp2,htk2⟩
           have hl3:=zmt hB2 hRy (World.putObj_heap_same (zcu hl2)) (notC _)
           have hD3:=zmt hB2 hRy ((World.putObj_heap_other (by omega)).trans hD2) (notD _)
           cases xx with
           | normal=>
             cases ex<;>first | (exact hm.elim) | skip
             obtain ⟨s',hs',hI'⟩:=zjn hK
             have hm2:Marks B.nb w2 a.defers:=hB2.defers.mono (Nat.le_refl _) fun r hr=>zmt hB2 hRy hr (notD _)
             have hE:=hB2.unrebase hRy hm2
             refine ⟨_,_,run_endRound none hl3,rfl,s',h2,hI',?_,?_,?_⟩
             · refine (hR'.roundEnd hE (fun q hq=>(hL q hq).1) hs' (fun t ht=>?_) (fun t ht=>?_) hm2).putObj (by omega) hl3
               · have t0:t≠p0:=fun hh=>ht (by rw [hms,hh]; simp)
                 have t1:t≠p1:=fun hh=>ht (by rw [hms,hh]; simp)
                 have tx:t∉modsC C x:=fun hh=>ht (by rw [hms]; simp [hh])
                 have ty:t∉modsC C y:=fun hh=>ht (by rw [hms]; simp [hh])
                 have:=(hkp1 t tx).trans (hkp2 t ty)
                 rw [Env.set_ne t1,Env.set_ne t0] at this
                 exact this
               · have hnot:t∉p0 :: p1 :: (dstC x++dstC y):=by
                  intro hmem
                  cases hu:unpack L s t with
                  | some z=>
                    obtain ⟨q,hq,hqt⟩:=zpw hu
                    exact (hL q hq).2.2 (by rw [hqt]; exact hmem)
                  | none=>
                    have hmem2:t∈ms:=by
                     rw [hms]
                     simp only [List.mem_cons,List.mem_append] at hmem
                     rcases hmem with rfl | rfl | hmem | hmem
                     · simp
                     · simp
                     · simp [zgz x t hmem]
                     · simp [zgz y t hmem]
                    unfold mkEnv at ht
                    rw [hu] at ht
                    simp only [zdh.2 hmem2,cond_true] at ht
                    cases ht
                 simp only [List.mem_cons,List.mem_append,not_or] at hnot
                 obtain ⟨n0,n1,n2,n3⟩:=hnot
                 rw [htk2 t n3,htk1 t n2]
                 simp only
                 rw [Array.getElem?_setIfInBounds_ne (Ne.symm n1),Array.getElem?_setIfInBounds_ne (Ne.symm n0)]
             · rw [World.putObj_heap_same (zcu hl3),hrec]; rfl
             · exact (World.putObj_heap_other (by omega)).trans hD3
           | _=>
             cases ex<;>first | (exact hm.elim) | (exact hK.elim)
         | _=>
           cases ex<;>first | (exact hm.elim) | (exact hK.elim)
     · rintro e' W2 ⟨⟨v,rfl⟩,s,h',hI,hR',hl,hD⟩
       refine ⟨none,_,by have:=run_endLoop (P:=C.P) hl (by rw [hrec]; simp); rw [hrec] at this; exact this,?_⟩
       have hRp:=hR'.putObj (r':={ rec .ready none with state:=.exhausted }) (show B.w.heap.size≤w.heap.size+1 by omega) hl
       rw [hrec] at hRp
       refine ⟨.normal,mkEnv e ms L s,h',trivial,hIend s h' hI,hRp.withDefers ⟨⟨w.heap.size,rfl,by omega,(World.putObj_heap_other (by omega)).trans hD,fun d' hd'=>hR.defers.lt d' hd'⟩,hRp.defers⟩,fun t ht=>?_,fun t _=>rfl⟩
       exact zr8 (e':=mkEnv e ms L s) (fun t y hu=>by unfold mkEnv; rw [hu]) (fun t ht=>by
        unfold mkEnv
        cases hu:unpack L s t with
        | some z=>
          exfalso
          obtain ⟨q,hq,hqt⟩:=zpw hu
          exact ht (by rw [hms,←hqt]; have:=(hL q hq).2.1; rcases List.mem_append.1 this with h1 | h1<;>simp [h1])
        | none=>
          simp only
          have:memN t ms=false:=by
           cases hm:memN t ms with
           | false=>rfl
           | true=>exact absurd (zdh.1 hm) ht
          rw [this]
          simp only [cond_false]
          cases he:e t with
          | val v=>exact keep.refl _
          | box cs=>exact keep.refl _
          | lit cs n=>exact ⟨(fun hh=>by rcases hh with ⟨_,hh⟩ | ⟨_,hh⟩ | hh<;>cases hh),(fun v hv=>by cases hv)⟩
          | mp m=>exact keep.refl _
          | mr=>exact keep.refl _
          | ref off=>exact ⟨(fun hh=>by rcases hh with ⟨_,hh⟩ | ⟨_,hh⟩ | hh<;>cases hh),(fun v hv=>by cases hv)⟩
          | junk=>exact keep.refl _) ht
theorem Rel.pub {e:Env} {h:Hp} {a:Act} {w:World} (hR:Rel C B e h a w) {d:Nat} {cs:List Value} (hd:e d=.box cs) {K:Addr→Hp→Prop} (hk:newP cs K h) :
 ∃b h',K ⟨b,0,none⟩ h'∧Rel C B (e.alloc C.rt d (.val (.pointer (some ⟨b,0,none⟩)))) h' a w:=by
 obtain ⟨g1,b,el,g2,g3,g4,g5⟩:=hR.hid d (by rw [hd]; rfl)
 rw [hd] at g2 g3
 have hb:∀t,isHid (e.alloc C.rt d (.val (.pointer (some ⟨b,0,none⟩))) t)=true→t≠d∧e.alloc C.rt d (.val (.pointer (some ⟨b,0,none⟩))) t=e t:=fun t ht=>by
  have hn:t≠d:=fun hh=>by subst hh; rw [Env.alloc_same] at ht; cases ht
  refine ⟨hn,Env.alloc_ne hn fun o ho=>?_⟩
  unfold Env.alloc at ht
  rw [beqF hn] at ht
  simp only [cond_false,ho] at ht
  cases hr:Nat.beq (C.rt t) d<;>rw [hr] at ht<;>cases ht
 refine ⟨b,_,hk b el g4,⟨?_,hR.sz,hR.defers,hR.fr,?_,?_,?_,?_,?_,?_⟩⟩
 · intro k c hc
   by_cases hkb:k=b
   · subst hkb
     rw [Hp.ins_same] at hc; cases hc
     exact g3
   · rw [Hp.ins_ne hkb] at hc; exact hR.sub k c hc
 · intro k h1 h2
   by_cases hkb:k=b
   · subst hkb
     rcases g5 with g5 | g5
     · exact g5
     · exact absurd h2 g5
   · rw [Hp.ins_ne hkb] at h1; exact hR.dom k h1 h2
 · intro t v ht
   by_cases hn:t=d
   · subst hn
     rw [Env.alloc_same] at ht; cases ht
     exact g2
   · exact hR.vals t v (Env.alloc_val hn ht (by intro hh; cases hh)).1
 · intro t ht
   obtain ⟨hn,he⟩:=hb t ht
   rw [he] at ht ⊢
   obtain ⟨k1,b',el',k2,k3,k4,k5⟩:=hR.hid t ht
   refine ⟨k1,b',el',k2,k3,?_,k5⟩
   have hbb:b'≠b:=fun hh=>by
    subst hh
    exact hn (hR.inj t d b' ht (by rw [hd]; rfl) k2 (by rw [hd]; exact g2))
   rw [Hp.ins_ne hbb]; exact k4
 · intro t t' b' i1 i2 i3 i4
   obtain ⟨_,e1⟩:=hb t i1
   obtain ⟨_,e2⟩:=hb t' i2
   rw [e1] at i1 i3; rw [e2] at i2 i4
   exact hR.inj t t' b' i1 i2 i3 i4
 · intro t off ht
   have hn:t≠d:=fun hh=>by subst hh; rw [Env.alloc_same] at ht; cases ht
   obtain ⟨h1,h2⟩:=Env.alloc_val hn ht (by intro hh; cases hh)
   obtain ⟨cs',b',k1,k2,k3⟩:=hR.refs t off h1
   refine ⟨cs',b',?_,k2,k3⟩
   rw [Env.alloc_ne (h2 off rfl) (by intro o ho; rw [k1] at ho; cases ho)]; exact k1
 · intro t ht
   have hn:t≠d:=fun hh=>by subst hh; rw [Env.alloc_same] at ht; cases ht
   exact hR.mrs t (Env.alloc_val hn ht (by intro hh; cases hh)).1
theorem zyg:∀{L:List Nat} {K:Env→Hp→Prop} {e:Env} {h:Hp} {a:Act} {w:World},Rel C B e h a w→pubS C L K e h →
 ∃e' h',K e' h'∧Rel C B e' h' a w∧∀t,t∉L→keep (e t) (e' t)
 | [],K,e,h,a,w,hR,hk=>⟨e,h,hk,hR,fun _ _=>keep.refl _⟩
 | d :: r,K,e,h,a,w,hR,hk=>by
   unfold pubS at hk
   split at hk
   · rename_i cs hd
     obtain ⟨b,h',hk2,hR2⟩:=hR.pub hd hk
     obtain ⟨e2,h2,k1,k2,k3⟩:=zyg hR2 hk2
     refine ⟨e2,h2,k1,k2,fun t ht=>?_⟩
     have hn:t≠d:=fun hh=>ht (by rw [hh]; exact List.mem_cons_self)
     refine keep.trans ?_ (k3 t fun hh=>ht (List.mem_cons_of_mem _ hh))
     refine ⟨fun hb=>?_,fun v hv=>?_⟩
     · rcases hb with ⟨cs',hc⟩ | ⟨m,hc⟩ | hc
       · exact Env.alloc_ne hn fun o ho=>by rw [hc] at ho; cases ho
       · exact Env.alloc_ne hn fun o ho=>by rw [hc] at ho; cases ho
       · exact Env.alloc_ne hn fun o ho=>by rw [hc] at ho; cases ho
     · rw [Env.alloc_ne hn fun o ho=>by rw [hv] at ho; cases ho]; exact hv
   · exact hk.elim
theorem za4c (hC:CfgOK C) (hBk:BackTab C.P C.backs):∀(c:Code) (ro:Option Nat) (B:Base) (an:An) (K:Ex→Env→Hp→Prop) (e:Env) (h:Hp) (a:Act) (w:World),(ro=none∨noRange c=true)→B.nb≤B.w.heap.size→den C c an K e h→Rel C B e h a w →
 c.wpIn (wideR ro) nn C.P (Out C B (modsC C c) (dstC c) a e K) a w:=by
 intro c
 induction c with
 | skip=>intro ro B an K e h a w hro hmk hk hR; exact wpIn_skip ⟨.normal,e,h,trivial,(by cases an<;>exact hk),hR,fun _ _=>keep.refl _,fun _ _=>rfl⟩
 | exit j=>intro ro B an K e h a w hro hmk hk hR; exact wpIn_exit ⟨.exit j,e,h,rfl,(by cases an<;>exact hk),hR,fun _ _=>keep.refl _,fun _ _=>rfl⟩
 | ret=>intro ro B an K e h a w hro hmk hk hR; exact wpIn_ret ⟨.ret,e,h,trivial,(by cases an<;>exact hk),hR,fun _ _=>keep.refl _,fun _ _=>rfl⟩
 | region id ops draw=>
   intro ro B an K e h a w hro hmk hk hR
   have hdst:∀(i:Nat) (o:Oper),ops[i]?=some o→∀d,o.dst=some d→d∈dstC (.region id ops draw):=fun i o hi d hd=>by
    unfold dstC
    rw [List.mem_flatMap]
    exact ⟨o,by have:=Array.mem_of_getElem? hi; simpa using this,by rw [hd]; simp⟩
   have hms:∀(i:Nat) (o:Oper),ops[i]?=some o→∀d∈modsO C o,d∈modsC C (.region id ops draw):=fun i o hi d hd=>by
    unfold modsC
    rw [List.mem_flatMap]
    exact ⟨o,by have:=Array.mem_of_getElem? hi; simpa using this,List.mem_append_left _ hd⟩
   have hQ:∀x a' w',keepQ (dstC (.region id ops draw)) a (Behind C B (modsC C (.region id ops draw)) e (K .normal)) x a' w'→Out C B (modsC C (.region id ops draw)) (dstC (.region id ops draw)) a e K x a' w':=by
    rintro x a' w' ⟨⟨rfl,e',h',h1,h2,h3⟩,h4⟩
    exact ⟨.normal,e',h',trivial,h1,h2,h3,h4 rfl⟩
   cases draw with
   | false=>
     have hk':dops C ops (K .normal) (List.range ops.size) e h:=by cases an<;>exact hk
     exact zc7 hQ (wpIn_region (zr4 hdst (fun _ _=>rfl) (zsx hC.tab hms (fun _ _ _ hh=>hh) hR hk')))
   | true=>
     have drawn:∀(order:List Nat) (K0:Env→Hp→Prop),checkDraw C ops order=true→dops C ops K0 order e h →
      (Code.region id ops true).wpIn (wideR ro) nn C.P (keepQ (dstC (.region id ops true)) a (Behind C B (modsC C (.region id ops true)) e K0)) a w:=by
      intro order K0 hck hk
      unfold checkDraw at hck
      simp only [Bool.and_eq_true] at hck
      obtain ⟨⟨⟨⟨⟨⟨hm,hb⟩,hlen⟩,hnd⟩,hlt⟩,hall⟩,hp⟩:=hck
      have hback:∀(i:Nat) (o:Oper),ops[i]?=some o→∀e∈o.after.toList,Region.binds .any e=true→e.on<i:=fun i o hi ed hed hbd=>by
       unfold edgesBack at hb
       rw [List.all_eq_true] at hb
       have his:i<ops.size:=by
        rcases Nat.lt_or_ge i ops.size with h1 | h1
        · exact h1
        · rw [Array.getElem?_eq_none h1] at hi; cases hi
       have:=hb i (List.mem_range.2 his)
       rw [hi] at this
       simp only [List.all_eq_true] at this
       have:=this ed hed
       rw [hbd] at this
       simp only [Bool.not_true,Bool.false_or] at this
       unfold Nat.blt at this
       have:=Nat.le_of_ble_eq_true this
       omega
      have nd:∀{l:List Nat},nodupN l=true→l.Nodup:=by
       intro l
       induction l with
       | nil=>intro _; exact List.nodup_nil
       | cons x r ih=>
         intro hh
         simp only [nodupN,Bool.and_eq_true] at hh
         refine List.nodup_cons.2 ⟨fun hm=>?_,ih hh.2⟩
         rw [zdh.2 hm] at hh; simp at hh
      have hltN:∀i∈order,i<ops.size:=fun i hi=>by
       have:=(List.all_eq_true.1 hlt) i hi
       unfold Nat.blt at this
       have:=Nat.le_of_ble_eq_true this
       omega
      replace hlen:order.length≤ops.size:=Nat.le_of_ble_eq_true hlen
      refine (wpIn_region_any hm (zr3 hdst (fun _ _=>rfl) (za2y hC hms (fun _ _ _ hh=>hh) hback ops.size order (Array.replicate ops.size false) e h a _ hlen (by simp) (nd hnd) (fun i hi=>?_) hltN (fun i o hi hl=>?_) hp
       (fun _ _=>keep.refl _) hk hR.drew)))
      · have h1:(Array.replicate ops.size false).getD i false=false:=by
         rw [Array.getD_eq_getD_getElem?]; simp [hi]
        have h2:=zdh.1 ((List.all_eq_true.1 hall) i (List.mem_range.2 hi))
        exact ⟨fun _=>h2,fun _=>h1⟩
      · have h1:(Array.replicate ops.size false).getD i false=false:=by
         rw [Array.getD_eq_getD_getElem?]
         by_cases hi':i<ops.size<;>simp [hi']
        rw [h1] at hl; cases hl
     cases an with
     | draw order=>
       unfold den at hk
       split at hk
       · rename_i hck
         exact zc7 hQ (drawn order _ hck hk)
       · exact hk.elim
     | drawP order pubs=>
       unfold den at hk
       split at hk
       · rename_i hck
         obtain ⟨hc1,hc2⟩:=Bool.and_eq_true_iff.1 hck
         refine zc7 ?_ (drawn order _ hc1 hk)
         rintro x a' w' ⟨⟨rfl,e',h',h1,h2,h3⟩,h4⟩
         obtain ⟨e2,h5,k1,k2,k3⟩:=zyg h2 h1
         refine ⟨.normal,e2,h5,trivial,k1,k2,fun t ht=>(h3 t ht).trans (k3 t fun hm=>ht ?_),h4 rfl⟩
         exact zdh.1 ((List.all_eq_true.1 hc2) t hm)
       · exact hk.elim
     | _=>exact hk.elim
 | seq x y ihx ihy=>
   intro ro B an K e h a w hro hmk hk hR
   have rx:ro=none∨noRange x=true:=hro.imp id fun hh=>by unfold noRange at hh; exact (Bool.and_eq_true_iff.1 hh).1
   have ry:ro=none∨noRange y=true:=hro.imp id fun hh=>by unfold noRange at hh; exact (Bool.and_eq_true_iff.1 hh).2
   have tail:∀(Kx:Ex→Env→Hp→Prop),x.wpIn (wideR ro) nn C.P (Out C B (modsC C x) (dstC x) a e Kx) a w →
    (∀e' h' a' w',Kx .normal e' h'→Rel C B e' h' a' w'→(∀t,t∉modsC C x→keep (e t) (e' t))→(∀t,t∉dstC x→a'.tmps[t]?=a.tmps[t]?)→y.wpIn (wideR ro) nn C.P (Out C B (modsC C (.seq x y)) (dstC (.seq x y)) a e K) a' w') →
    (∀ex e' h',ex≠.normal→Kx ex e' h'→K ex e' h')→(Code.seq x y).wpIn (wideR ro) nn C.P (Out C B (modsC C (.seq x y)) (dstC (.seq x y)) a e K) a w:=by
    intro Kx hx hn ho
    refine wpIn_seq (zc7 ?_ hx)
    rintro xx a' w' ⟨ex,e',h',hm,hK,hR',hkp,htk⟩
    cases xx with
    | normal=>
      cases ex<;>first | (exact hm.elim) | skip
      exact hn e' h' a' w' hK hR' hkp htk
    | _=>
      cases ex<;>first | (exact hm.elim) | skip
      all_goals exact ⟨_,e',h',hm,ho _ _ _ (by simp) hK,hR',(fun t ht=>hkp t fun hh=>ht (List.mem_append_left _ hh)),fun t ht=>htk t fun hh=>ht (List.mem_append_left _ hh)⟩
   cases an with
   | seq a1 a2=>
     unfold den at hk
     refine tail _ (ihx ro B a1 _ e h a w rx hmk hk hR) ?_ ?_
     · intro e' h' a' w' hK hR' hkp htk
       refine zc7 ?_ (ihy ro B a2 K e' h' a' w' ry hmk hK hR')
       rintro xx a'' w'' ⟨ex,e'',h'',hm,hK,hR'',hkp',htk'⟩
       exact ⟨ex,e'',h'',hm,hK,hR'',(fun t ht=>(hkp t fun hh=>ht (List.mem_append_left _ hh)).trans (hkp' t fun hh=>ht (List.mem_append_right _ hh))),
        fun t ht=>(htk' t fun hh=>ht (List.mem_append_right _ hh)).trans (htk t fun hh=>ht (List.mem_append_left _ hh))⟩
     · intro ex e' h' hne hK
       cases ex<;>first | (exact absurd rfl hne) | exact hK
   | join L a1 a2=>
     unfold den at hk
     obtain ⟨J,hJ,hx⟩:=hk
     refine tail _ (ihx ro B a1 _ e h a w rx hmk hx hR) ?_ ?_
     · intro e' h' a' w' hK hR' hkp htk
       obtain ⟨s,hs,hJs⟩:=zjn hK
       refine zc7 ?_ (ihy ro B a2 K _ h' a' w' ry hmk (hJ s h' hJs) (hR'.atMk hs hkp))
       rintro xx a'' w'' ⟨ex,e'',h'',hm,hK,hR'',hkp',htk'⟩
       exact ⟨ex,e'',h'',hm,hK,hR'',(fun t ht=>(zr8 hs hkp fun hh=>ht (List.mem_append_left _ hh)).trans (hkp' t fun hh=>ht (List.mem_append_right _ hh))),
        fun t ht=>(htk' t fun hh=>ht (List.mem_append_right _ hh)).trans (htk t fun hh=>ht (List.mem_append_left _ hh))⟩
     · intro ex e' h' hne hK
       cases ex<;>first | (exact absurd rfl hne) | exact hK
   | _=>exact hk.elim
 | cond c x y ihx ihy=>
   intro ro B an K e h a w hro hmk hk hR
   cases an with
   | cond a1 a2=>
     unfold den at hk
     replace hk:=zav hR hk
     split at hk
     · rename_i t ht
       refine wpIn_cond ht ?_
       cases t with
       | true=>
         refine zc7 ?_ (ihx ro B a1 K e h a w (hro.imp id fun hh=>by unfold noRange at hh; exact (Bool.and_eq_true_iff.1 hh).1) hmk hk hR)
         rintro xx a' w' ⟨ex,e',h',hm,hK,hR',hkp,htk⟩
         exact ⟨ex,e',h',hm,hK,hR',(fun t ht=>hkp t fun hh=>ht (List.mem_append_left _ hh)),fun t ht=>htk t fun hh=>ht (List.mem_append_left _ hh)⟩
       | false=>
         refine zc7 ?_ (ihy ro B a2 K e h a w (hro.imp id fun hh=>by unfold noRange at hh; exact (Bool.and_eq_true_iff.1 hh).2) hmk hk hR)
         rintro xx a' w' ⟨ex,e',h',hm,hK,hR',hkp,htk⟩
         exact ⟨ex,e',h',hm,hK,hR',(fun t ht=>hkp t fun hh=>ht (List.mem_append_right _ hh)),fun t ht=>htk t fun hh=>ht (List.mem_append_right _ hh)⟩
     · exact hk.elim
   | _=>exact hk.elim
 | block id x ih=>
   intro ro B an K e h a w hro hmk hk hR
   cases an with
   | block a1=>
     unfold den at hk
     refine wpIn_block (zc7 ?_ (ih ro B a1 _ e h a w (hro.imp (fun hh=>hh) fun hh=>hh) hmk hk hR))
     rintro xx a' w' ⟨ex,e',h',hm,hK,hR',hkp,htk⟩
     cases xx with
     | exit j=>
       cases ex<;>first | (exact hm.elim) | skip
       rename_i i
       have hij:i=j:=hm
       subst hij
       simp only [Exit.inBlock]
       by_cases hi:i=id
       · subst hi
         simp only [beqT] at hK
         rw [if_pos rfl]
         exact ⟨.normal,e',h',trivial,hK,hR',hkp,htk⟩
       · simp only [beqF hi] at hK
         rw [if_neg hi]
         exact ⟨.exit i,e',h',rfl,hK,hR',hkp,htk⟩
     | _=>
       cases ex<;>first | (exact hm.elim) | skip
       all_goals exact ⟨_,e',h',hm,hK,hR',hkp,htk⟩
   | _=>exact hk.elim
 | loop x ih=>
   intro ro B an K e h a w hro hmk hk hR
   cases an with
   | loop L a1=>
     unfold den at hk
     obtain ⟨s0,hs0,hl⟩:=zjn hk
     obtain ⟨I,μ,hI0,hround⟩:=hl
     refine za9m (σ:=STup L×Hp) (fun p a' w=>I p.1 p.2∧Rel C B (mkEnv e (modsC C x) L p.1) p.2 a' w∧(∀t,t∉modsC C x→keep (e t) (mkEnv e (modsC C x) L p.1 t))∧∀t,t∉dstC x→a'.tmps[t]?=a.tmps[t]?) (fun p=>μ p.1 p.2)
      ?_ (s:=(s0,h)) ⟨hI0,hR.atMk hs0 (fun _ _=>keep.refl _),(fun t ht=>zr8 hs0 (fun _ _=>keep.refl _) ht),fun _ _=>rfl⟩
     rintro ⟨s,h1⟩ a' w' ⟨hI,hR',hkp0,htk0⟩
     refine zc7 ?_ (ih ro B a1 _ _ h1 a' w' (hro.imp id fun hh=>hh) hmk (hround s h1 hI) hR')
     rintro xx a'' w'' ⟨ex,e'',h'',hm,hK,hR'',hkp,htk⟩
     have htk2:∀t,t∉dstC x→a''.tmps[t]?=a.tmps[t]?:=fun t ht=>(htk t ht).trans (htk0 t ht)
     have hkp2:∀t,t∉modsC C x→keep (e t) (e'' t):=fun t ht=>(hkp0 t ht).trans (hkp t ht)
     cases xx with
     | normal=>
       cases ex<;>first | (exact hm.elim) | skip
       obtain ⟨s',hs',hI',hlt⟩:=zjn hK
       exact ⟨(s',h''),⟨hI',hR''.atMk hs' hkp2,(fun t ht=>zr8 hs' hkp2 ht),htk2⟩,hlt⟩
     | _=>
       cases ex<;>first | (exact hm.elim) | skip
       all_goals exact ⟨_,e'',h'',hm,hK,hR'',hkp2,htk2⟩
   | _=>exact hk.elim
 | rangeFunc g ps x y ihx ihy=>
   intro ro B an K e h a w hro hmk hk hR
   have hro':ro=none:=hro.resolve_right (by unfold noRange; decide)
   subst hro'
   obtain ⟨pl⟩:=ps
   match pl,an,hk with
   | [p0,p1],.back L b1 b2,hk=>
     exact za2j hBk hmk (fun nx B l an K e h a w hm hk hR=>ihx (some l) B an K e h a w (.inr nx) hm hk hR) (fun ny B l an K e h a w hm hk hR=>ihy (some l) B an K e h a w (.inr ny) hm hk hR) hk hR
 | _=>intro ro B an K e h a w hro hmk hk hR; cases an<;>exact hk.elim
def resOne (tmps:Array Value):ResultVar→Sem Value
 | .tmp t=>Pure.pure (tmps.getD t undef)
 | .cell ad t=>do loadVar t (←asAddr (tmps.getD ad undef))
theorem zaaj {rs:List ResultVar} {e:Env} {h:Hp} {a:Act} {w:World} (hR:Rel C B e h a w):∀{K:List Value→Prop},resP C rs e K →
 ∃vs,K vs∧(rs.mapM (resOne a.tmps)).run C.P w=.ok vs w:=by
 induction rs with
 | nil=>intro K hk; exact ⟨[],hk,by simp⟩
 | cons r rs ih=>
   intro K hk
   cases r with
   | tmp t=>
     unfold resP at hk
     split at hk
     · rename_i v hv
       obtain ⟨vs,h1,h2⟩:=ih hk
       refine ⟨v :: vs,h1,?_⟩
       have:a.tmps.getD t undef=v:=by rw [Array.getD_eq_getD_getElem?,hR.vals t v hv]; rfl
       simp only [List.mapM_cons,Sem.run_bind,resOne,this,Sem.run_pure,Result.andThen_ok,h2]
     · exact hk.elim
   | cell t ty=>
     unfold resP at hk
     split at hk
     · rename_i cs hb
       obtain ⟨b,el,h3,h4⟩:∃b el,a.tmps[t]?=some (.pointer (some ⟨b,0,none⟩))∧w.heap[b]?=some (.cells cs.toArray el (0,0)):=by
        obtain ⟨_,b,el,h1,h2,_,_⟩:=hR.hid t (by rw [hb]; rfl)
        rw [hb] at h1 h2
        exact ⟨b,el,h1,h2⟩
       obtain ⟨v,hv,hrun⟩:=zpm (P:=C.P) h4 hk
       obtain ⟨vs,h1,h2⟩:=ih hv
       refine ⟨v :: vs,h1,?_⟩
       have:a.tmps.getD t undef=.pointer (some ⟨b,0,none⟩):=by rw [Array.getD_eq_getD_getElem?,h3]; rfl
       simp only [List.mapM_cons,Sem.run_bind,resOne,this,asAddr,Sem.run_pure,Result.andThen_ok,hrun,h2]
     · exact hk.elim
theorem zaa5 (hC:CfgOK C) (hBk:BackTab C.P C.backs) {g:FuncId} {fn:Func} {c:Code} {an:An} (hf:C.P.funcs[g]?=some fn) (hb:fn.body=some c) (hn:fn.ntmps=C.n)
 {args:List Value} (ha:args.length≤C.n) {K:Value→Hp→Prop} {D:Hp} {w:World} (hs:Sub D w) (hk:denF C fn c an args K D):Calls C.P g args.toArray w (Post K D w):=by
 refine (callsIn_wide (n:=0)).1 (callsIn_of_wp_marks hf hb trivial ?_)
 have hR:Rel C ⟨D,w,w.heap.size⟩ (env0 args) D { tmps:=args.toArray++Array.replicate (fn.ntmps-args.toArray.size) undef,defers:=[] } w:=by
  have hb:∀t,isHid (env0 args t)=true→False:=fun t ht=>by unfold env0 at ht; split at ht<;>cases ht
  refine ⟨hs,by simp [hn]; omega,trivial,Fr.refl D w,fun k h1 h2=>absurd h2 h1,fun t v hv=>?_,fun t ht=>(hb t ht).elim,fun t t' b ht=>(hb t ht).elim,fun t off ht=>?_,fun t ht=>?_⟩
  · unfold env0 at hv
    split at hv
    · rename_i u hu
      cases hv
      have hlt:t<args.length:=by
       rcases Nat.lt_or_ge t args.length with h1 | h1
       · exact h1
       · rw [List.getElem?_eq_none h1] at hu; cases hu
      simp only
      rw [Array.getElem?_append_left (by simpa using hlt)]
      simpa using hu
    · cases hv
  · unfold env0 at ht; split at ht<;>cases ht
  · unfold env0 at ht; split at ht<;>cases ht
 unfold denF at hk
 refine zc7 (ro:=none) ?_ (za4c hC hBk c none _ an _ _ D _ w (.inl rfl) (Nat.le_refl _) hk hR)
 rintro x a' w' ⟨ex,e',h',hm,hK,hR',_,_⟩
 have fin:∀(ds:List Deferred) (w1:World),Rel C ⟨D,w,w.heap.size⟩ e' h' { a' with defers:=ds } w1→resP C fn.results.toList e' (fun vs=>K (resV vs) h')→LeavesInM Fence.wide 0 C.P fn a'.tmps (Post K D w) ds .returning w1:=by
  intro ds
  induction ds with
  | nil=>
    intro w1 hR1 hh
    obtain ⟨vs,h1,h2⟩:=zaaj hR1 hh
    refine ⟨resV vs,?_,resV vs,h',rfl,h1,hR1.sub,hR1.fr,hR1.dom⟩
    have hres:results fn a'.tmps=(do
     let vs ←fn.results.mapM (resOne a'.tmps)
     Pure.pure (if h:vs.size=1 then vs[0] else .tuple vs)):=rfl
    rw [hres,Sem.run_bind,Array.mapM_eq_mapM_toList,Sem.run_map,h2]
    simp only [Result.andThen_ok,Sem.run_pure]
    congr 1
    match vs with
    | []=>rfl
    | [v]=>rfl
    | u :: v :: r=>simp [resV]
  | cons d ds ih=>
    intro w1 hR1 hh
    obtain ⟨⟨r,hd,hr1,hr2,hr3⟩,hms⟩:=hR1.defers
    refine ⟨by simp,.inl ⟨r,_,by rw [hd],run_takeDeferred hr2,ih _ ?_ hh⟩⟩
    have hne:∀(k:Nat) (o:Obj),w1.heap[k]?=some o→k≠r→(w1.putObj r (.deferred none)).heap[k]?=some o:=fun k o hk hkr=>by
     rw [World.putObj_heap_other hkr]; exact hk
    have hmarks:∀ds:List Deferred,(∀d'∈ds,d'≠d)→Marks w.heap.size w1 ds→Marks w.heap.size (w1.putObj r (.deferred none)) ds:=by
     intro ds
     induction ds with
     | nil=>intro _ _; trivial
     | cons d2 ds ih2=>
       rintro hnd ⟨⟨r2,g1,g2,g3,g4⟩,g5⟩
       refine ⟨⟨r2,g1,g2,hne r2 _ g3 (fun hx=>?_),g4⟩,ih2 (fun d' hd'=>hnd d' (List.mem_cons_of_mem _ hd')) g5⟩
       exact hnd d2 List.mem_cons_self (by rw [g1,hd,hx])
    have hcell:∀(k:Nat) (c:Array Value) (el:TypeId) (f:Nat×Nat),w1.heap[k]?=some (.cells c el f)→(w1.putObj r (.deferred none)).heap[k]?=some (.cells c el f):=fun k c el f hk=>
     hne k _ hk (fun hx=>by rw [hx,hr2] at hk; cases hk)
    refine ⟨fun k b hb=>hcell k _ _ _ (hR1.sub k b hb),hR1.sz,hmarks ds hr3 hms,?_,hR1.dom,hR1.vals,fun t ht=>?_,hR1.inj,hR1.refs,hR1.mrs⟩
    · obtain ⟨x1,x2,x3,x4,x5,x6⟩:=hR1.fr
      refine ⟨by rw [World.putObj_size]; exact x1,fun k hk hD=>?_,x3,x4,x5,x6⟩
      have hr1':w.heap.size≤r:=hr1
      have hk':k<w.heap.size:=hk
      rw [World.putObj_heap_other (by omega)]; exact x2 k hk hD
    · obtain ⟨g1,b,el,g2,g3,g4,g5⟩:=hR1.hid t ht
      exact ⟨g1,b,el,g2,g3.mono fun o hp hoo=>hne b o hoo (fun hx=>by subst hx; rw [hr2] at hoo; cases hoo; exact hp),g4,g5⟩
 have hRd:Rel C ⟨D,w,w.heap.size⟩ e' h' { a' with defers:=a'.defers } w':=hR'
 cases x with
 | normal=>
   cases ex<;>first | (exact hm.elim) | skip
   exact fin a'.defers w' hRd hK
 | ret=>
   cases ex<;>first | (exact hm.elim) | skip
   exact fin a'.defers w' hRd hK
 | exit j=>
   cases ex<;>first | (exact hm.elim) | skip
   exact hK.elim
 | _=>cases ex<;>exact hm.elim
end
end Den
end

section
namespace Den
open Go
structure Ty (α:Type) where
 up:α→Value
 dn:Value→(α→Prop)→Prop
 snd:∀v K,dn v K→∃x,v=up x∧K x
 cmp:∀x K,dn (up x) K↔K x
structure ArgT (α:Type) where
 up:α→List Value
 dn:List Value→(α→Prop)→Prop
 snd:∀v K,dn v K→∃x,v=up x∧K x
 cmp:∀x K,dn (up x) K↔K x
def mkE {α ρ:Type} (A:ArgT α) (R:Ty ρ) (F:α→(ρ→Hp→Prop)→Hp→Prop):FSem:=fun args K h=>
 A.dn args fun a=>callP (F a) (fun r=>K (R.up r)) h
def mkM {α ρ:Type} (A:ArgT α) (R:Ty ρ) (F:α→(ρ→Hp→Prop)→Hp→Prop):FSem:=fun args K h=>
 A.dn args fun a=>callM (F a) (fun r=>K (R.up r)) h
structure Entry (P:Program) (g:Nat) (F:FSem) (m:Bool):Prop where
 fn:FnOK P g F
 like:m=false→∀args,CallLike (F args)
 mono:∀args K K' h,(∀v h,K v h→K' v h)→F args K h→F args K' h
def Tab (C:Cfg):List (Nat×FSem)→Prop
 | []=>True
 | (g,F) :: r=>Entry C.P g F (memN g C.mutL)∧Tab C r
theorem Tab.ok {C:Cfg}:∀{l:List (Nat×FSem)},Tab C l→TabOK C l
 | [],_=>trivial
 | (_,_) :: _,h=>⟨h.1.fn,h.1.like,Tab.ok h.2⟩
theorem Tab.mono {C:Cfg}:∀{l:List (Nat×FSem)},Tab C l→∀g args K K' h,(∀v h,K v h→K' v h)→lookF g l args K h→lookF g l args K' h
 | [],_,_,_,_,_,_,_,hk=>hk
 | (g',F) :: r,ht,g,args,K,K',h,hkk,hk=>by
   unfold lookF at *
   by_cases hg:g=g'
   · subst hg; rw [beqT] at *; exact ht.1.mono args K K' h hkk hk
   · rw [beqF hg] at *; exact Tab.mono ht.2 g args K K' h hkk hk
theorem CfgOK.of {C:Cfg} (h:Tab C C.tab):CfgOK C:=⟨h.ok,h.mono⟩
section
variable {α ρ : Type} {A : ArgT α} {R : Ty ρ} {F : α → (ρ → Hp → Prop) → Hp → Prop} {P : Program} {g : Nat}
theorem ztb {K:Value→Hp→Prop} {D O:Hp} {Q:ρ→Hp→Prop} {w:World} (hdj:D.dj O) (hs:Sub (D.add O) w)
 (hq:∀v D',Q v D'→D'.dj O→(D'.add O).Fin→K (R.up v) (D'.add O)):∀e w',Post (fun v h=>R.dn v fun r=>Q r h) D w e w'→Post K (D.add O) w e w':=by
 rintro e w' ⟨v,D',rfl,hv,hs',hf,hd⟩
 obtain ⟨r,rfl,hr⟩:=R.snd _ _ hv
 have hO:∀k b,O k=some b→D k=none∧w.heap[k]?=some (.cells b.cells.toArray b.elem b.fz)∧k<w.heap.size:=fun k b hb=>by
  have h1:D k=none:=by
   rcases hdj k with h1 | h1
   · exact h1
   · rw [h1] at hb; cases hb
  have h2:(D.add O) k=some b:=by simp [Hp.add,h1,hb]
  exact ⟨h1,hs k b h2,hs.lt h2⟩
 have hdj':D'.dj O:=fun k=>by
  cases hb:O k with
  | none=>exact .inr rfl
  | some b=>
    obtain ⟨h1,_,h3⟩:=hO k b hb
    left
    cases hk:D' k with
    | none=>rfl
    | some x=>have:=hd k (by simp [hk]) h1; omega
 suffices hsub:Sub (D'.add O) w' from by
  refine ⟨R.up r,D'.add O,rfl,hq r D' hr hdj' hsub.fin,hsub,?_,fun k h1 h2=>?_⟩
  · exact ⟨hf.1,fun k h1 h2=>hf.2.1 k h1 (Hp.add_none.1 h2).1,hf.2.2⟩
  · rw [Hp.add_none] at h2
    refine hd k (fun hh=>h1 ?_) h2.1
    rw [Hp.add_none]; exact ⟨hh,h2.2⟩
 intro k b hk
 · cases hk':D' k with
   | some x=>
     have:(D'.add O) k=some x:=by simp [Hp.add,hk']
     rw [this] at hk; cases hk
     exact hs' k _ hk'
   | none=>
     have:(D'.add O) k=O k:=by simp [Hp.add,hk']
     rw [this] at hk
     obtain ⟨h1,h2,h3⟩:=hO k b hk
     rw [hf.2.1 k h3 h1]; exact h2
theorem zd9 (hfn:∃fn,P.funcs[g]?=some fn∧fn.body.isNone=false∧(fn.name == "runtime.NumGoroutine")=false)
 (hb:∀a K D w,Sub D w→F a K D→Calls P g (A.up a).toArray w (Post (fun v h=>R.dn v fun r=>K r h) D w)):Entry P g (mkE A R F) false where
 fn:=by
  refine ⟨hfn,fun args K h w hs hk=>?_⟩
  obtain ⟨a,rfl,D,O,Q,h1,rfl,h3,h4⟩:=A.snd _ _ hk
  exact (hb a Q D w (hs.mono (Hp.le_add D O)) h3).mono (ztb h1 hs fun v D' hq hd hfin=>(h4 v D' hq).2 hd hfin)
 like:=fun _ args=>by
  by_cases hx:∃a,args=A.up a
  · obtain ⟨a,rfl⟩:=hx
    exact .inl ⟨ρ,F a,R.up,fun K h=>A.cmp a _⟩
  · refine .inr fun K h hk=>hx ?_
    obtain ⟨a,ha,_⟩:=A.snd _ _ hk
    exact ⟨a,ha⟩
 mono:=fun args K K' h hkk hk=>by
  obtain ⟨a,rfl,hc⟩:=A.snd _ _ hk
  exact (A.cmp a _).2 (zgo (fun v h' hh _ _=>hkk _ _ hh) hc)
theorem zqk (hfn:∃fn,P.funcs[g]?=some fn∧fn.body.isNone=false∧(fn.name == "runtime.NumGoroutine")=false)
 (hb:∀a K D w,Sub D w→F a K D→Calls P g (A.up a).toArray w (Post (fun v h=>R.dn v fun r=>K r h) D w)):Entry P g (mkM A R F) true where
 fn:=by
  refine ⟨hfn,fun args K h w hs hk=>?_⟩
  obtain ⟨a,rfl,D,O,Q,h1,rfl,h3,h4⟩:=A.snd _ _ hk
  exact (hb a Q D w (hs.mono (Hp.le_add D O)) h3).mono (ztb h1 hs fun v D' hq hd _=>h4 v D' hq hd)
 like:=fun hh=>by cases hh
 mono:=fun args K K' h hkk hk=>by
  obtain ⟨a,rfl,hc⟩:=A.snd _ _ hk
  exact (A.cmp a _).2 (za2m (fun v h' hh=>hkk _ _ hh) hc)
theorem zjk {C:Cfg} (hC:Tab C C.tab) (hBk:BackTab C.P C.backs) {fn:Func} {c:Code} {an:An} (hf:C.P.funcs[g]?=some fn) (hb:fn.body=some c) (hn:fn.ntmps=C.n)
 (ha:∀a,Nat.ble (A.up a).length C.n=true) (hF:∀a K D,denF C fn c an (A.up a) (fun v h=>R.dn v fun r=>K r h) D=F a K D) :
 ∀a K D w,Sub D w→F a K D→Calls C.P g (A.up a).toArray w (Post (fun v h=>R.dn v fun r=>K r h) D w):=fun a K D w hs hk=>
 zaa5 (CfgOK.of hC) hBk hf hb hn (Nat.le_of_ble_eq_true (ha a)) hs (by rw [hF]; exact hk)
theorem zaa4 {C:Cfg} (hC:Tab C C.tab) (hBk:BackTab C.P C.backs) {fn:Func} {c:Code} {an:An} (hf:C.P.funcs[g]?=some fn) (hb:fn.body=some c) (hn:fn.ntmps=C.n)
 (hname:(fn.name == "runtime.NumGoroutine")=false) (ha:∀a,Nat.ble (A.up a).length C.n=true)
 (hF:∀a K D,denF C fn c an (A.up a) (fun v h=>R.dn v fun r=>K r h) D=F a K D):Entry C.P g (mkE A R F) false:=
 zd9 ⟨fn,hf,by rw [hb]; rfl,hname⟩ (zjk hC hBk hf hb hn ha hF)
theorem za6y {C:Cfg} (hC:Tab C C.tab) (hBk:BackTab C.P C.backs) {fn:Func} {c:Code} {an:An} (hf:C.P.funcs[g]?=some fn) (hb:fn.body=some c) (hn:fn.ntmps=C.n)
 (hname:(fn.name == "runtime.NumGoroutine")=false) (ha:∀a,Nat.ble (A.up a).length C.n=true)
 (hF:∀a K D,denF C fn c an (A.up a) (fun v h=>R.dn v fun r=>K r h) D=F a K D):Entry C.P g (mkM A R F) true:=
 zqk ⟨fn,hf,by rw [hb]; rfl,hname⟩ (zjk hC hBk hf hb hn ha hF)
end
end Den
end

section
namespace Den
open Go
def Ty.leaf (l:Lf):Ty l.T where
 up:=l.up
 dn:=l.dn
 snd _ _ h:=Lf.dn_iff.1 h
 cmp x K:=⟨fun h=>by
  obtain ⟨y,h1,h2⟩:=Lf.dn_iff.1 h
  have:x=y:=by
   cases l with
   | int k=>injection h1
   | bool=>injection h1
   | str=>injection h1
   | ptr=>injection h1
   | val=>exact h1
   | sl=>injection h1 with h1 h3 h4; cases x; cases y; simp only at h1 h3 h4; subst h1 h3 h4; rfl
  exact this▸h2,fun h=>Lf.dn_iff.2 ⟨x,rfl,h⟩⟩
theorem Lf.up_inj {l:Lf} {x y:l.T} (h:l.up x=l.up y):x=y:=
 ((Ty.leaf l).cmp x (fun z=>z=y)).1 (Lf.dn_iff.2 ⟨y,h,rfl⟩)
theorem LT.up_inj:∀{ls:List Lf} {x y:LT ls},LT.up ls x=LT.up ls y→x=y
 | [],_,_,_=>rfl
 | _ :: _,x,y,h=>by
   injection h with h1 h2
   exact Prod.ext (Lf.up_inj h1) (LT.up_inj h2)
def Ty.agg {α:Type} (ls:List Lf) (f:α→LT ls) (g:LT ls→α) (h1:∀x,g (f x)=x) (h2:∀y,f (g y)=y):Ty α where
 up x:=.agg (LT.up ls (f x)).toArray
 dn v K:=match v with
  | .agg cs=>LT.dn ls cs.toList fun y=>K (g y)
  | _=>False
 snd v K h:=by
  cases v<;>simp only at h<;>try exact h.elim
  obtain ⟨y,h3,h4⟩:=LT.dn_iff.1 h
  exact ⟨g y,by rw [h2,←h3],h4⟩
 cmp x K:=⟨fun h=>by
  obtain ⟨y,h3,h4⟩:=LT.dn_iff.1 h
  rw [←LT.up_inj h3,h1] at h4; exact h4,fun h=>LT.dn_iff.2 ⟨f x,rfl,by rw [h1]; exact h⟩⟩
def ArgT.nil:ArgT Unit where
 up _:=[]
 dn vs K:=match vs with | []=>K () | _=>False
 snd vs K h:=by cases vs<;>simp only at h; exact ⟨(),rfl,h⟩
 cmp _ _:=Iff.rfl
def ArgT.cons {α β:Type} (T:Ty α) (A:ArgT β):ArgT (α×β) where
 up x:=T.up x.1 :: A.up x.2
 dn vs K:=match vs with | v :: r=>T.dn v fun x=>A.dn r fun y=>K (x,y) | _=>False
 snd vs K h:=by
  cases vs<;>simp only at h
  obtain ⟨x,rfl,h1⟩:=T.snd _ _ h
  obtain ⟨y,rfl,h2⟩:=A.snd _ _ h1
  exact ⟨(x,y),rfl,h2⟩
 cmp x K:=by
  show T.dn (T.up x.1) _↔_
  rw [T.cmp,A.cmp]
def ArgT.fn {α:Type} (g:Nat) (A:ArgT α):ArgT α where
 up x:=.func (.func g) #[] #[] :: A.up x
 dn vs K:=match vs with
  | .func (.func g') ⟨[]⟩ ⟨[]⟩ :: r=>(match decide (g'=g) with | true=>A.dn r K | false=>False)
  | _=>False
 snd vs K h:=by
  split at h
  · split at h
    · rename_i hg
      obtain ⟨y,rfl,h2⟩:=A.snd _ _ h
      rw [of_decide_eq_true hg]
      exact ⟨y,rfl,h2⟩
    · exact h.elim
  · exact h.elim
 cmp x K:=by
  show (match decide (g=g) with | true=>A.dn (A.up x) K | false=>False)↔_
  rw [decide_eq_true (rfl:g=g)]
  exact A.cmp x K
def Ty.tup {α β:Type} (A:ArgT α) (f:β→α) (g:α→β) (h1:∀x,g (f x)=x) (h2:∀y,f (g y)=y):Ty β where
 up x:=.tuple (A.up (f x)).toArray
 dn v K:=match v with
  | .tuple vs=>A.dn vs.toList fun y=>K (g y)
  | _=>False
 snd v K h:=by
  cases v<;>simp only at h<;>try exact h.elim
  obtain ⟨y,h3,h4⟩:=A.snd _ _ h
  exact ⟨g y,by rw [h2,←h3],h4⟩
 cmp x K:=by
  show A.dn (A.up (f x)) _↔_
  rw [A.cmp,h1]
def capT:Nat→Type
 | 0=>Unit
 | n+1=>Option Addr×capT n
def capUp:(n:Nat)→capT n→List Value
 | 0,_=>[]
 | n+1,x=>.pointer x.1 :: capUp n x.2
def capDn:(n:Nat)→List Value→(capT n→Prop)→Prop
 | 0,[],K=>K ()
 | n+1,.pointer c :: r,K=>capDn n r fun x=>K (c,x)
 | _,_,_=>False
theorem za1e:∀{n:Nat} {l:List Value} {K:capT n→Prop},capDn n l K→∃x,l=capUp n x∧K x
 | 0,[],K,h=>⟨(),rfl,h⟩
 | n+1,.pointer c :: r,K,h=>by
   obtain ⟨x,h1,h2⟩:=za1e (n:=n) (l:=r) h
   exact ⟨(c,x),by rw [h1]; rfl,h2⟩
 | 0,_ :: _,_,h=>by simp [capDn] at h
 | n+1,[],_,h=>by simp [capDn] at h
theorem za1d:∀{n:Nat} {x:capT n} {K:capT n→Prop},capDn n (capUp n x) K↔K x
 | 0,_,_=>Iff.rfl
 | n+1,x,K=>by
   show capDn n (capUp n x.2) (fun y=>K (x.1,y))↔_
   rw [za1d]
   exact Iff.rfl
def ArgT.fnc {α:Type} (g n:Nat) (A:ArgT α):ArgT (capT n×α) where
 up x:=.func (.func g) #[] (capUp n x.1).toArray :: A.up x.2
 dn vs K:=match vs with
  | .func (.func g') ⟨[]⟩ cs :: r=>(match decide (g'=g) with | true=>capDn n cs.toList fun c=>A.dn r fun y=>K (c,y) | false=>False)
  | _=>False
 snd vs K h:=by
  split at h
  · split at h
    · rename_i hg
      obtain ⟨c,h1,h2⟩:=za1e h
      obtain ⟨y,rfl,h3⟩:=A.snd _ _ h2
      rw [of_decide_eq_true hg]
      exact ⟨(c,y),by rw [←h1],h3⟩
    · exact h.elim
  · exact h.elim
 cmp x K:=by
  show (match decide (g=g) with | true=>capDn n (capUp n x.1).toArray.toList (fun c=>A.dn (A.up x.2) fun y=>K (c,y)) | false=>False)↔_
  rw [decide_eq_true (rfl:g=g)]
  simp only
  rw [za1d,A.cmp]
def selE (i g1:Nat) (e1 e2:FSem):FSem:=fun args=>
 match args[i]? with
 | some (.func (.func g) _ _)=>bif Nat.beq g g1 then e1 args else e2 args
 | _=>e2 args
def Ty.clo (g:Nat):Ty Addr where
 up a:=.func (.func g) #[] #[.pointer (some a)]
 dn v K:=match v with
  | .func (.func g') ⟨[]⟩ ⟨[.pointer (some a)]⟩=>(match decide (g'=g) with | true=>K a | false=>False)
  | _=>False
 snd v K h:=by
  split at h
  · split at h
    · rename_i hg
      rw [of_decide_eq_true hg]
      exact ⟨_,rfl,h⟩
    · exact h.elim
  · exact h.elim
 cmp x K:=by
  show (match decide (g=g) with | true=>K x | false=>False)↔_
  rw [decide_eq_true (rfl:g=g)]
def Ty.unit:Ty Unit where
 up _:=.tuple #[]
 dn v K:=match v with | .tuple ⟨[]⟩=>K () | _=>False
 snd v K h:=by split at h; exact ⟨(),rfl,h⟩; exact h.elim
 cmp _ _:=Iff.rfl
end Den
end

section
namespace Den
open Go
def nilS:Sl:=⟨none,0,0⟩
def emptyS:ByteArray:=.empty
section
variable {α : Type} {G : (α → Hp → Prop) → Hp → Prop} {K : α → Hp → Prop} {h : Hp}
theorem za1 (R:α→Hp→Prop) (H:∀K':α→Hp→Prop,(∀v h',h.le h'→R v h'→K' v h')→G K' h) (k:∀v h',h.le h'→R v h'→K v h'):callP G K h:=
 ⟨h,Hp.emp,fun v h'=>h.le h'∧R v h',h.dj_emp,h.add_emp.symm,H _ (fun v h' h1 h2=>⟨h1,h2⟩),
  fun v D' hq=>⟨hq.1,fun _ _=>by rw [Hp.add_emp]; exact k v D' hq.1 hq.2⟩⟩
theorem zae (v:α) (H:∀K':α→Hp→Prop,K' v h→G K' h) (k:K v h):callP G K h:=
 ⟨h,Hp.emp,fun v' h'=>v'=v∧h'=h,h.dj_emp,h.add_emp.symm,H _ ⟨rfl,rfl⟩,fun v' D' hq=>by
  obtain ⟨rfl,rfl⟩:=hq
  exact ⟨Hp.le_refl _,fun _ _=>by rw [Hp.add_emp]; exact k⟩⟩
theorem zhx (H:G K h):callM G K h:=
 ⟨h,Hp.emp,K,h.dj_emp,h.add_emp.symm,H,fun v D' hq _=>by rw [Hp.add_emp]; exact hq⟩
end
theorem zxt {S:Type} {k:S→Hp→Prop} {body:(S→Hp→Prop)→Prop} (H:body k):joinP k body:=⟨k,fun _ _ h=>h,H⟩
theorem za3 {S:Type} {k:S→Hp→Prop} {body:(S→Hp→Prop)→Prop} (J:S→Hp→Prop) (h1:∀s h,J s h→k s h) (h2:body J):joinP k body:=⟨J,h1,h2⟩
theorem zal {S:Type} {body:S→(S→Hp→Prop)→Hp→Prop} {s0:S} {h0:Hp} (I:S→Hp→Prop) (μ:S→Nat)
 (h1:I s0 h0) (h2:∀s h,I s h→body s (fun s' h'=>I s' h'∧μ s'<μ s) h):loopP body s0 h0:=⟨I,fun s _=>μ s,h1,h2⟩
theorem zbt {A B:Prop} {t:Bool} (ht:t=true) (ha:A):ifP t A B:=by subst ht; exact ha
theorem zah {A B:Prop} {t:Bool} (ht:t=false) (hb:B):ifP t A B:=by subst ht; exact hb
theorem za0 {A B p:Prop} [Decidable p] (ha:p→A) (hb:¬p→B):ifP (decide p) A B:=
 za2 (fun h=>ha (of_decide_eq_true h)) (fun h=>hb (of_decide_eq_false h))
theorem za7 {A B:Prop} {a b:Int} (ha:a=b→A) (hb:a≠b→B):ifP (a==b) A B:=
 za2 (fun h=>ha (by simpa using h)) (fun h=>hb (by simpa using h))
theorem zax {A B:Prop} {a b:Int} (ha:a≠b→A) (hb:a=b→B):ifP (a != b) A B:=
 za2 (fun h=>ha (by simpa using h)) (fun h=>hb (by simpa using h))
theorem w64 {n:Int} (h:-9223372036854775808≤n∧n≤9223372036854775807):IntKind.i64.wrap n=n:=by
 simp [IntKind.wrap,IntKind.signed,IntKind.bits]
 omega
theorem wu64 {n:Int} (h:0≤n∧n≤18446744073709551615):IntKind.u64.wrap n=n:=by
 simp [IntKind.wrap,IntKind.signed,IntKind.bits]
 omega
theorem wu32 {n:Int} (h:0≤n∧n≤4294967295):IntKind.u32.wrap n=n:=by
 simp [IntKind.wrap,IntKind.signed,IntKind.bits]
 omega
abbrev BS (s:ByteArray):List UInt8:=s.data.toList
theorem zcz (s:ByteArray):(BS s).length=s.size:=by simp [BS]
theorem zhv (s:ByteArray):s.toList=BS s:=ByteArray.toList_eq s
theorem zga {s:ByteArray} {i:Int} {K:Int→Prop} {k:Nat} {c:UInt8} {r:List UInt8} (hd:(BS s).drop k=c :: r) (hi:i=k) (H:K (c.toNat:Int)):strIdx s i K:=by
 subst hi
 refine ⟨by omega,c,?_,H⟩
 have h1:(BS s)[k]?=some c:=by
  have:((BS s).drop k)[0]?=some c:=by rw [hd]; rfl
  simpa using this
 have hk:k<s.size:=by
  rw [←zcz]
  rcases Nat.lt_or_ge k (BS s).length with h2 | h2
  · exact h2
  · rw [List.getElem?_eq_none h2] at h1; cases h1
 have:((k:Int).toNat)=k:=rfl
 rw [this,getElem?_pos s k hk]
 rw [List.getElem?_eq_getElem (by rw [zcz]; exact hk)] at h1
 simp only [Option.some.injEq] at h1 ⊢
 rw [←h1]
 rfl
theorem za2b {s:ByteArray} {a b:Nat}:BS (s.extract a b)=((BS s).drop a).take (b-a):=by
 simp [BS,ByteArray.data_extract,Array.toList_extract,List.extract_eq_take_drop]
theorem zb3 (a:Addr):a.add 0=a:=by cases a; rfl
theorem zce (a:Addr) (i j:Nat):(a.add i).add j=a.add (i+j):=by
 unfold Addr.add
 by_cases hi:i=0
 · subst hi; simp
 · by_cases hj:j=0
   · subst hj; simp [hi]
   · have:i+j≠0:=by omega
     simp [hi,hj,Nat.add_assoc]
theorem zbg (a:Addr) (i:Nat):(a.add i).block=a.block:=by unfold Addr.add; split<;>rfl
theorem zcs (a:Addr) (i:Nat):(a.add i).off=a.off+i:=by
 unfold Addr.add; split
 · rename_i h; subst h; rfl
 · rfl
theorem zdw {a:Addr} (hs:a.spot=none) (i:Nat):(a.add i).spot=none:=by unfold Addr.add; split<;>simp [hs]
def Rd (h:Hp) (size:Nat) (x:Sl) (cs:List Value):Prop:=x.len*size=cs.length∧cellsAtO h x.a cs.length=some cs
theorem Rd.le {h h':Hp} {size:Nat} {x:Sl} {cs:List Value} (hr:Rd h size x cs) (hl:h.le h'):Rd h' size x cs:=⟨hr.1,zrj hl hr.2⟩
theorem Rd.nil {h:Hp} {size:Nat}:Rd h size nilS []:=⟨by simp [nilS],rfl⟩
theorem zhd {h:Hp} {a:Addr}:∀{n:Nat} {l:List Value},cellsAt h a n=some l→l.length=n
 | 0,l,e=>by simp only [cellsAt,Option.some.injEq] at e; subst e; rfl
 | n+1,l,e=>by
   unfold cellsAt at e
   split at e
   · rename_i l1 h1
     split at e
     · simp only [Option.some.injEq] at e; subst e; simp [zhd h1]
     · cases e
   · cases e
theorem zhc {h:Hp} {a:Addr}:∀{n:Nat} {l:List Value},cellsAt h a n=some l→∀i v,l[i]?=some v→h.cell (a.add i)=some v
 | 0,l,e,i,v,hi=>by simp only [cellsAt,Option.some.injEq] at e; subst e; simp at hi
 | n+1,l,e,i,v,hi=>by
   unfold cellsAt at e
   split at e
   · rename_i l1 h1
     split at e
     · rename_i u hu
       simp only [Option.some.injEq] at e; subst e
       have hl:=zhd h1
       rcases Nat.lt_or_ge i n with h2 | h2
       · rw [List.getElem?_append_left (by omega)] at hi
         exact zhc h1 i v hi
       · rw [List.getElem?_append_right (by omega)] at hi
         have:i-l1.length=0:=by
          rcases Nat.eq_zero_or_pos (i-l1.length) with h3 | h3
          · exact h3
          · rw [List.getElem?_eq_none (by simp; omega)] at hi; cases hi
         rw [this] at hi
         simp only [List.getElem?_cons_zero,Option.some.injEq] at hi
         subst hi
         have:i=n:=by omega
         subst this; exact hu
     · cases e
   · cases e
theorem zm1 {h:Hp} {a:Addr} {b:Blk} (hb:h a.block=some b) (hs:a.spot=none):∀{n:Nat},a.off+n≤b.cells.length→cellsAt h a n=some ((b.cells.drop a.off).take n)
 | 0,_=>by simp [cellsAt]
 | n+1,hn=>by
   unfold cellsAt
   rw [zm1 hb hs (by omega)]
   have h1:h.cell (a.add n)=some (b.cells[a.off+n]'(by omega)):=by
    unfold Hp.cell
    simp only [zbg,zcs,zdw hs,hb]
    exact List.getElem?_eq_getElem (by omega)
   simp only [h1]
   rw [List.take_succ_eq_append_getElem (by simp; omega)]
   simp
theorem za1m {h:Hp} {size:Nat} {x:Sl} {cs:List Value} {i:Int} {K:Addr→Prop} (k:Nat) (hr:Rd h size x cs) (hi:i=k) (hk:k<x.len) (hsz:0<size)
 (H:∀a,(∀j v,cs[k*size+j]?=some v→h.cell (a.add j)=some v)→K a):idxP x i size K:=by
 subst hi
 refine ⟨by omega,by omega,?_⟩
 have hpos:0<cs.length:=by
  rw [←hr.1]
  exact Nat.mul_pos (by omega) hsz
 cases ha:x.a with
 | none=>
   have:=hr.2
   rw [ha] at this
   simp only [cellsAtO] at this
   split at this
   · omega
   · cases this
 | some a=>
   have h2:=hr.2
   rw [ha] at h2
   simp only [cellsAtO] at h2
   refine H _ fun j v hv=>?_
   rw [zce]
   exact zhc h2 _ v hv
def Own (h0 h:Hp) (size:Nat) (x:Sl) (cs:List Value):Prop:=
 h0.le h∧x.len*size=cs.length∧x.len≤x.cap ∧
 match x.a with
 | none=>x.cap=0
 | some a=>a.off=0∧a.spot=none∧h0 a.block=none∧∃b,h a.block=some b∧b.fz=(0,0)∧b.cells.length=x.cap*size∧b.cells.take cs.length=cs
theorem Own.nil {h0 h:Hp} {size:Nat} (hl:h0.le h):Own h0 h size nilS []:=⟨hl,by simp [nilS],Nat.le_refl _,rfl⟩
theorem Own.rd {h0 h:Hp} {size:Nat} {x:Sl} {cs:List Value} (ho:Own h0 h size x cs):Rd h size x cs:=by
 obtain ⟨h1,h2,h3,h4⟩:=ho
 refine ⟨h2,?_⟩
 cases ha:x.a with
 | none=>
   rw [ha] at h4
   simp only at h4
   have:cs=[]:=by
    have:x.len=0:=by omega
    rw [this] at h2
    cases cs with
    | nil=>rfl
    | cons a b=>simp at h2
   subst this; rfl
 | some a=>
   rw [ha] at h4
   obtain ⟨g1,g2,g3,b,g4,g5,g6,g7⟩:=h4
   have hle:cs.length≤b.cells.length:=by rw [g6,←h2]; exact Nat.mul_le_mul_right _ h3
   simp only [cellsAtO]
   rw [zm1 g4 g2 (by omega),g1]
   simp [g7]
theorem Own.le {h0 h h':Hp} {size:Nat} {x:Sl} {cs:List Value} (ho:Own h0 h size x cs) (hl:h.le h'):Own h0 h' size x cs:=by
 obtain ⟨h1,h2,h3,h4⟩:=ho
 refine ⟨Hp.le_trans h1 hl,h2,h3,?_⟩
 cases ha:x.a with
 | none=>rw [ha] at h4; exact h4
 | some a=>
   rw [ha] at h4
   obtain ⟨g1,g2,g3,b,g4,g5⟩:=h4
   exact ⟨g1,g2,g3,b,hl _ _ g4,g5⟩
theorem Own.base {h0 h1 h:Hp} {size:Nat} {x:Sl} {cs:List Value} (ho:Own h1 h size x cs) (hl:h0.le h1):Own h0 h size x cs:=by
 obtain ⟨g0,h2,h3,h4⟩:=ho
 refine ⟨Hp.le_trans hl g0,h2,h3,?_⟩
 cases ha:x.a with
 | none=>rw [ha] at h4; exact h4
 | some a=>
   rw [ha] at h4
   obtain ⟨g1,g2,g3,g4⟩:=h4
   refine ⟨g1,g2,?_,g4⟩
   cases hk:h0 a.block with
   | none=>rfl
   | some b=>rw [hl _ _ hk] at g3; cases g3
theorem zik {h0 h:Hp} {size bytes n:Nat} {zero new cs:List Value} {x:Sl} {K:Sl→Hp→Prop} (ho:Own h0 h size x cs) (hn:new.length=n*size) (hz:zero.length=size)
 (hleaf:new.all Value.leaf=true) (hb:(x.len+n)*bytes≤140737488355328) (hb2:x.len+n≤140737488355328)
 (H:∀y h',Own h0 h' size y (cs++new)→y.len=x.len+n→K y h'):appP size bytes zero x n new K h:=by
 have hrd:=ho.rd
 obtain ⟨h1,h2,h3,h4⟩:=ho
 refine ⟨hb,hb2,fun hfit=>?_,fun hgrow=>?_⟩
 · cases ha:x.a with
   | none=>
     rw [ha] at h4
     simp only at h4
     have hn0:n=0:=by omega
     have hnew:new=[]:=by
      cases new with
      | nil=>rfl
      | cons a b=>rw [hn0] at hn; simp at hn
     subst hnew hn0
     simp only [stO]
     refine H _ _ ⟨h1,?_,?_,?_⟩ rfl
     · simpa using h2
     · show x.len+0≤x.cap; omega
     · show x.cap=0; exact h4
   | some a=>
     rw [ha] at h4
     obtain ⟨g1,g2,g3,b,g4,g5,g6,g7⟩:=h4
     have e1:(x.len+n)*size=cs.length+new.length:=by rw [Nat.add_mul,h2,hn]
     have e2:cs.length+new.length≤b.cells.length:=by rw [g6,←e1]; exact Nat.mul_le_mul_right _ hfit
     simp only [stO]
     refine ⟨b,by rw [zbg]; exact g4,zdw g2 _,g5,?_,hleaf,?_⟩
     · rw [zcs]; omega
     · rw [zbg,zcs]
       refine H _ _ ⟨?_,?_,hfit,?_⟩ rfl
       · intro k bk hk
         rw [Hp.ins_ne (fun hh=>by subst hh; rw [g3] at hk; cases hk)]
         exact h1 k bk hk
       · show (x.len+n)*size=_; rw [List.length_append]; exact e1
       · refine ⟨g1,g2,g3,_,Hp.ins_same _ _ _,g5,?_,?_⟩
         · show (splice b.cells (a.off+x.len*size) new).length=_
           unfold splice
           simp only [List.length_append,List.length_take,List.length_drop]
           show _=x.cap*size
           rw [←g6,g1,h2]; omega
         · show (splice b.cells (a.off+x.len*size) new).take _=_
           have hoff:a.off+x.len*size=cs.length:=by rw [g1,h2]; omega
           unfold splice
           rw [hoff,g7,List.append_assoc,List.length_append,List.take_append]
           simp only [Nat.add_sub_cancel_left]
           rw [List.take_of_length_le (by omega),List.take_append,List.take_of_length_le (Nat.le_refl _)]
           simp
 · refine ⟨cs,?_,fun bk e c hc hfr=>?_⟩
   · rw [h2]; exact hrd.2
   · refine H _ _ ⟨Hp.le_trans h1 (Hp.le_ins hfr),?_,hc,?_⟩ rfl
     · show (x.len+n)*size=_; rw [List.length_append,Nat.add_mul,h2,hn]
     · refine ⟨rfl,rfl,?_,_,Hp.ins_same _ _ _,rfl,?_,?_⟩
       · cases hk:h0 bk with
         | none=>rfl
         | some b=>have:=h1 _ _ hk; rw [hfr] at this; cases this
       · show (cs++new++repl (c-(x.len+n)) zero).length=c*size
         have hr:(repl (c-(x.len+n)) zero).length=(c-(x.len+n))*size:=by
          unfold repl
          simp [hz]
         rw [List.length_append,List.length_append,hr,hn,←h2,←Nat.add_mul,←Nat.add_mul]
         congr 1; omega
       · show (cs++new++repl (c-(x.len+n)) zero).take _=cs++new
         rw [List.take_append_of_le_length (by simp)]
         exact List.take_of_length_le (Nat.le_refl _)
theorem zhg {h:Hp} {size n:Nat} {cells:List Value} {K:Addr→Hp→Prop} (hn:cells.length=n*size)
 (H:∀b h',h b=none→Own h h' size ⟨some ⟨b,0,none⟩,n,n⟩ cells→K ⟨b,0,none⟩ h'):newP cells K h:=by
 intro b e hb
 refine H b _ hb ⟨Hp.le_ins hb,hn.symm,Nat.le_refl _,rfl,rfl,hb,_,Hp.ins_same _ _ _,rfl,hn,List.take_of_length_le (Nat.le_refl _)⟩
theorem zpt {n:Nat} {zero:List Value}:(repl n zero).length=n*zero.length:=by
 unfold repl; simp
theorem zadi {h:Hp} {size bytes:Nat} {len cap:Int} {zero:List Value} {K:Sl→Hp→Prop} (l c:Nat) (hl:len=l) (hc:cap=c) (hlc:l≤c) (hb:bytes*c≤140737488355328) (hb2:c≤140737488355328) (hz:zero.length=size)
 (H:∀x h',x.len=l→x.cap=c→Own h h' size x (repl l zero)→K x h'):mkP len cap bytes zero K h:=by
 subst hl hc
 refine ⟨by omega,by omega,(Int.natCast_mul bytes c)▸(Int.ofNat_le.2 hb),by omega,fun b e hb=>?_⟩
 have e1:((c:Int).toNat)=c:=rfl
 have e2:((l:Int).toNat)=l:=rfl
 rw [e1,e2]
 refine H _ _ rfl rfl ⟨Hp.le_ins hb,by rw [zpt,hz],hlc,rfl,rfl,hb,_,Hp.ins_same _ _ _,rfl,by rw [zpt,hz],?_⟩
 show (repl c zero).take (repl l zero).length=repl l zero
 have:repl c zero=repl l zero++repl (c-l) zero:=by
  unfold repl
  rw [←List.flatten_append,List.replicate_append_replicate]
  congr 2; omega
 rw [this,List.take_append_of_le_length (Nat.le_refl _),List.take_of_length_le (Nat.le_refl _)]
theorem zea {cs vs:List Value} {off:Nat} (h:off+vs.length≤cs.length):(splice cs off vs).length=cs.length:=by
 unfold splice; simp; omega
theorem zrx {cs vs bs:List Value} {off:Nat} (h:off+vs.length≤cs.length) (hb:bs.take cs.length=cs):(splice bs off vs).take cs.length=splice cs off vs:=by
 have e:bs=cs++bs.drop cs.length:=by conv=>lhs; rw [←List.take_append_drop cs.length bs,hb]
 have e2:splice bs off vs=splice cs off vs++bs.drop cs.length:=by
  rw [e]
  unfold splice
  rw [List.take_append_of_le_length (by omega),List.drop_append_of_le_length h]
  simp [List.append_assoc]
 rw [e2,List.take_append_of_le_length (by rw [zea h]; exact Nat.le_refl _),List.take_of_length_le (by rw [zea h]; exact Nat.le_refl _)]
theorem zyz {h0 h:Hp} {size:Nat} {x:Sl} {cs vs:List Value} {i:Int} {K:Hp→Prop} (k:Nat) (ho:Own h0 h size x cs) (hi:i=k) (hk:k<x.len) (hv:vs.length=size) (hsz:0<size) (hleaf:vs.all Value.leaf=true)
 (H:∀h',Own h0 h' size x (splice cs (k*size) vs)→K h'):idxP x i size fun a=>stP a vs K h:=by
 subst hi
 obtain ⟨h1,h2,h3,h4⟩:=ho
 refine ⟨by omega,by omega,?_⟩
 cases ha:x.a with
 | none=>rw [ha] at h4; simp only at h4; omega
 | some a=>
   rw [ha] at h4
   obtain ⟨g1,g2,g3,b,g4,g5,g6,g7⟩:=h4
   have e0:((k:Int).toNat)=k:=rfl
   have e1:k*size+size≤cs.length:=by
    rw [←h2]
    have:=Nat.mul_le_mul_right size (show k+1≤x.len by omega)
    rw [Nat.add_mul] at this; omega
   have e2:cs.length≤b.cells.length:=by rw [g6,←h2]; exact Nat.mul_le_mul_right _ h3
   show ptrK (some a) _
   simp only [ptrK,e0]
   refine ⟨b,by rw [zbg]; exact g4,zdw g2 _,g5,by rw [zcs]; omega,hleaf,?_⟩
   rw [zbg,zcs,g1,Nat.zero_add]
   refine H _ ⟨?_,?_,h3,?_⟩
   · intro kk bk hkk
     rw [Hp.ins_ne (fun hh=>by subst hh; rw [g3] at hkk; cases hkk)]
     exact h1 kk bk hkk
   · rw [zea (by omega)]; exact h2
   · rw [ha]
     refine ⟨g1,g2,g3,_,Hp.ins_same _ _ _,g5,?_,?_⟩
     · show (splice b.cells (k*size) vs).length=_
       rw [zea (by omega)]; exact g6
     · show (splice b.cells (k*size) vs).take _=_
       rw [zea (by omega)]
       exact zrx (by omega) g7
theorem zki {cs:List Value} {k:Nat} {v:Value}:splice cs k [v]=cs.take k++v :: cs.drop (k+1):=by
 unfold splice; simp
theorem ztv {h:Hp} {x:Sl} {cs:List Value} {v:Value} {i:Int} {Ka:Addr→Prop} (k:Nat) (hr:Rd h 1 x cs) (hi:i=k) (hv:cs[k]?=some v)
 (H:∀a,h.cell a=some v→Ka a):idxP x i 1 Ka:=by
 have hk:k<x.len:=by
  have h1:=hr.1
  rcases Nat.lt_or_ge k cs.length with h2 | h2
  · omega
  · rw [List.getElem?_eq_none h2] at hv; cases hv
 refine za1m k hr hi hk (by decide) fun a ha=>H a ?_
 have:=ha 0 v (by rw [Nat.mul_one]; exact hv)
 rwa [zb3] at this
end Den
end

section
namespace Den
open Go
open Go.ChangeShapes Go.WideShapes Go.ChangeAt Go.RowKit
theorem zaaf {D h':Hp} {w w':World} (hs:Sub D w) (hf:Fr D w w') (hs':Sub h' w') (hl:D.le h'):∀k,k<w.heap.size→w'.heap[k]?=w.heap[k]?:=fun k hk=>by
 cases hD:D k with
 | none=>exact hf.2.1 k hk hD
 | some b=>rw [hs' k b (hl k b hD),hs k b hD]
theorem zadf {w w':World} (h1:w'.os=w.os) (h2:w'.output=w.output) (h3:∀k,k<w.heap.size→w'.heap[k]?=w.heap[k]?) (may:MemPlace→Prop):w.keptBut w' may:=by
 refine ⟨h1,h2,fun i hi=>?_⟩
 rw [h3 i hi]
 exact (World.keptBut_refl w may).2.2 i hi
theorem zabn {w w':World} (h3:∀k,k<w.heap.size→w'.heap[k]?=w.heap[k]?) {a:Addr} (ha:a.block<w.heap.size):w'.frozen? a=w.frozen? a:=by
 unfold World.frozen?; rw [h3 _ ha]
theorem zwi {w w':World} (h3:∀k,k<w.heap.size→w'.heap[k]?=w.heap[k]?) {a:Addr} (ha:a.block<w.heap.size):w'.cell? a=w.cell? a:=by
 unfold World.cell?; rw [h3 _ ha]
section
variable {H : Type} {enc : TypeId × Value → H} {P : Program}
theorem zacd {f:Func} {s:ChangeSpec} {apart fresh handsOn again:Bool} {W W':World} {args:Array Value} {v:Value} {ds gs:List (DataW H)} {before pa pv:List MemPlace}
 (hW:DataW.Whole enc P f.params.toList s.vars apart W args.toList ds gs before)
 (hres:∀(b:Nat) (sp:Nat→Bool) (hd:Bool),DataW.TrodAll enc P W' b sp hd f.resultTypes.toList (v.resultList f.resultTypes.size) (s.fn H (ds++gs)).results [])
 (hargs:∀sp:Nat→Bool,(∀p∈before,sp p.block=true)→DataW.TrodAll enc P W' 0 sp true f.params.toList args.toList (s.fn H (ds++gs)).args pa)
 (hvars:∀sp:Nat→Bool,(∀p∈before,sp p.block=true)→DataW.TrodVars enc P W' sp s.vars (s.fn H (ds++gs)).vars pv)
 (hps:before=pa++pv) (hk:W.keptBut W' (·∈before)) (hfz:∀a,a.block<W.heap.size→W'.frozen? a=W.frozen? a)
 (hok:∀(j:Nat) (t:TypeId) (r:Value),f.resultTypes[j]?=some t→(v.resultList f.resultTypes.size)[j]?=some r→Value.okWide P W' .any 0 t r) :
 s.post enc P f apart fresh handsOn again W args v W':=by
 have hold:∀p∈before,(fun b=>decide (b<W.heap.size)) p.block=true:=fun p hp=>by simpa using hW.lt p hp
 have hlt:=hW.lt
 refine ⟨ds,gs,before,[],pa,pv,hW,hres _ _ _,hargs _ hold,hvars _ hold,World.keptBut_mono (fun p hp=>⟨hp,?_⟩) hk,fun _=>?_⟩
 · rw [hps,List.mem_append] at hp
   exact Or.inr hp
 · obtain ⟨_,_,_,_,_,hz,hn⟩:=hW
   refine ⟨hok,_,_,([]++pa)++pv,⟨[]++pa,pv,trodAll_append (hargs _ (fun _ _=>rfl)) (hres _ _ _),hvars _ (fun _ _=>rfl),rfl,?_,?_⟩,?_⟩
   · intro b off hp
     have hp':MemPlace.cell b off∈before:=by rw [hps]; simpa using hp
     rw [hfz _ (hlt _ hp')]
     exact hz b off hp'
   · intro ha
     have:=hn ha
     rw [hps] at this
     simpa using this
   · intro p hp _
     rw [hps]
     simpa using hp
end
theorem zagf {α:Type} {A:ArgT α} {F:α→(Bool→Hp→Prop)→Hp→Prop} {P:Program} {g:Nat} (hE:Entry P g (mkE A (Ty.leaf .bool) F) false) (a:α) (D:Hp) (w:World) (hs:Sub D w)
 (hF:∀K:Bool→Hp→Prop,(∀h',D.le h'→K true h')→F a K D) :
 Calls P g (A.up a).toArray w fun e w'=>e=.returned (.bool true)∧w'.os=w.os∧w'.output=w.output∧w.heap.size≤w'.heap.size∧∀k,k<w.heap.size→w'.heap[k]?=w.heap[k]?:=by
 refine (hE.fn.2 (A.up a) (fun v h'=>v=.bool true∧D.le h') D w hs ((A.cmp a _).2 ?_)).mono ?_
 · exact za1 (fun v _=>v=true) (fun K' hk=>hF _ fun h' hl=>hk _ _ hl rfl) fun v h' hl hv=>by subst hv; exact ⟨rfl,hl⟩
 · rintro e w' ⟨v,h',rfl,⟨rfl,hl⟩,hs',hf,hd⟩
   exact ⟨rfl,hf.2.2.2.1,hf.2.2.2.2.1,hf.1,zaaf hs hf hs' hl⟩
end Den
end

section
namespace Den
open Go
open Go.ChangeShapes Go.WideShapes Go.ChangeAt Go.RowKit
def hpW (w:World):Hp:=fun k=>match w.heap[k]? with | some (.cells cs e fz)=>some ⟨cs.toList,e,fz⟩ | _=>none
theorem zagg (w:World):Sub (hpW w) w:=fun k b hk=>by
 unfold hpW at hk
 split at hk
 · rename_i cs e fz h
   cases hk
   rw [h]
 · cases hk
theorem zpf (w:World) (a:Addr):(hpW w).cell a=w.cell? a:=by
 unfold Hp.cell hpW World.cell?
 cases hs:a.spot with
 | some x=>cases w.heap[a.block]? with
   | none=>rfl
   | some o=>cases o<;>simp
 | none=>cases w.heap[a.block]? with
   | none=>rfl
   | some o=>cases o<;>simp
theorem zv5 {w:World} {a:Addr}:∀{cs:List Value},(∀i,i<cs.length→w.cell? (a.add i)=cs[i]?)→cellsAt (hpW w) a cs.length=some cs:=by
 suffices H:∀(n:Nat) (cs:List Value),n≤cs.length→(∀i,i<cs.length→w.cell? (a.add i)=cs[i]?)→cellsAt (hpW w) a n=some (cs.take n) from fun {cs} h=>by
  rw [H cs.length cs (Nat.le_refl _) h,List.take_length]
 intro n
 induction n with
 | zero=>intro cs _ _; rfl
 | succ n ih=>
   intro cs hn h
   unfold cellsAt
   rw [ih cs (by omega) h]
   simp only
   rw [zpf,h n (by omega),List.getElem?_eq_getElem (by omega)]
   simp only
   rw [List.take_add_one,List.getElem?_eq_getElem (by omega)]
   rfl
section
variable {H : Type} {enc : TypeId × Value → H} {P : Program} {w w' : World}
def sizedB (P:Program):Bool:=(List.range P.types.size).all fun t=>match P.underlying t with | some (.slice e)=>decide (0<P.cellsOf e) | _=>true
theorem zaav (h:sizedB P=true) {t e:TypeId} (ht:t<P.types.size) (hu:P.underlying t=some (.slice e)):0<P.cellsOf e:=by
 have:=List.all_eq_true.1 h t (List.mem_range.2 ht)
 rw [hu] at this
 simpa using this
theorem zzf (hl:laidOutB P=true) (hm:mapsRowed P=true) (hz:sizedB P=true) (h3:∀k,k<w.heap.size→w'.heap[k]?=w.heap[k]?) {sp:Nat→Bool} :
 ∀{ts:List TypeId} {vs:List Value} {ds:List (DataW H)} {ps:List MemPlace},(∀t∈ts,t<P.types.size)→(∀p∈ps,p.block<w.heap.size)→(∀p∈ps,sp p.block=true) →
  DataW.TrodAll enc P w 0 (fun _=>true) true ts vs ds ps→DataW.TrodAll enc P w' 0 sp true ts vs ds ps
 | [],[],[],_,_,_,_,h=>h
 | t :: ts,v :: vs,d :: ds,_,ht,hp,hs,⟨p,q,⟨n,hn⟩,h2,e⟩=>by
   subst e
   refine ⟨p,q,⟨n,?_⟩,zzf hl hm hz h3 (fun t h=>ht t (List.mem_cons_of_mem _ h)) (fun x hx=>hp x (List.mem_append_right _ hx)) (fun x hx=>hs x (List.mem_append_right _ hx)) h2,rfl⟩
   refine DataW.trod_stays (T:=fun t=>t<P.types.size) (kids_rows hl hm) (fun h h'=>zaav hz h h') (by intro hh; cases hh) (ht t (by simp)) hn (fun x hx=>?_) (fun x hx=>hs x (List.mem_append_left _ hx))
   have hb:=hp x (List.mem_append_left _ hx)
   cases x with
   | cell b off=>exact zwi h3 (a:=⟨b,off,none⟩) hb
   | map b=>exact h3 b hb
def Okt (enc:TypeId×Value→H) (P:Program) (w:World) (t:TypeId) (cs:List Value):Prop:=∃n x,DataW.trod enc P w 0 (fun _=>true) true n t cs=some x∧∀k∈x.1.weights P t,k≤reachBytes
theorem zhr:∀{ts:List TypeId} {ds:List (DataW H)} {i:Nat} {t:TypeId} {d:DataW H},ts[i]?=some t→ds[i]?=some d→∀k∈d.weights P t,k∈DataW.weightsEach P ts ds
 | [],_,_,_,_,h,_,_,_=>by simp at h
 | _ :: _,[],_,_,_,_,h,_,_=>by simp at h
 | t :: ts,d :: ds,0,_,_,h1,h2,k,hk=>by
   simp only [List.getElem?_cons_zero,Option.some.injEq] at h1 h2
   subst h1 h2
   unfold DataW.weightsEach
   exact List.mem_append_left _ hk
 | t :: ts,d :: ds,i+1,_,_,h1,h2,k,hk=>by
   simp only [List.getElem?_cons_succ] at h1 h2
   unfold DataW.weightsEach
   exact List.mem_append_right _ (zhr h1 h2 k hk)
theorem zkq {e:TypeId}:∀{ds:List (DataW H)} {d:DataW H},d∈ds→∀k∈d.weights P e,k∈DataW.weightsAll P e ds
 | [],_,h,_,_=>by simp at h
 | d :: ds,x,h,k,hk=>by
   unfold DataW.weightsAll
   rcases List.mem_cons.1 h with rfl | h
   · exact List.mem_append_left _ hk
   · exact List.mem_append_right _ (zkq h k hk)
theorem Okt.bool {t:TypeId} {cs:List Value} (ht:P.underlying t=some .bool) (h:Okt enc P w t cs):∃b:Bool,cs=[.bool b]:=by
 obtain ⟨n,x,h,_⟩:=h
 obtain ⟨b,hb,_⟩:=DataW.trod_bool ht h
 exact ⟨b,hb⟩
theorem Okt.int {t:TypeId} {k:IntKind} {cs:List Value} (ht:P.underlying t=some (.int k)) (h:Okt enc P w t cs):∃m:Int,cs=[.int k m]∧(Lit.int k m).wf=true:=by
 obtain ⟨n,x,h,_⟩:=h
 obtain ⟨m,hb,_,hw⟩:=DataW.trod_int ht h
 exact ⟨m,hb,hw⟩
theorem Okt.str {t:TypeId} {cs:List Value} (ht:P.underlying t=some .string) (h:Okt enc P w t cs):∃s:ByteArray,cs=[.string s]∧s.size≤reachBytes:=by
 obtain ⟨n,x,h,hw⟩:=h
 obtain ⟨s,hb,e,hs⟩:=DataW.trod_string ht h
 refine ⟨s,hb,?_⟩
 subst e
 have:=hw s.data.toList.length (by simp only [DataW.weights,List.mem_singleton])
 simpa using this
theorem Okt.fields {t:TypeId} {fs:Array Field} {cs:List Value} (ht:P.underlying t=some (.struct fs)) (h:Okt enc P w t cs) :
 cs.length=P.cellsOf t∧∀(i:Nat) (f:Field),fs[i]?=some f→Okt enc P w f.type ((cs.drop f.offset).take (P.cellsOf f.type)):=by
 obtain ⟨n,x,h,hw⟩:=h
 obtain ⟨xs,m,_,e,hl,hx,hf⟩:=DataW.trod_struct ht h
 subst e
 simp only [DataW.weights,ht] at hw
 refine ⟨hl,fun i f hi=>⟨m,?_⟩⟩
 have h1:=hf i f hi
 have h2:i<xs.length:=by rw [hx]; exact (Array.getElem?_eq_some_iff.1 hi).1
 rw [List.getElem?_eq_getElem h2] at h1
 refine ⟨_,h1,fun k hk=>hw k (zhr (i:=i) ?_ ?_ k hk)⟩
 · rw [List.getElem?_map,Array.getElem?_toList,hi]; rfl
 · rw [List.getElem?_map,List.getElem?_eq_getElem h2]; rfl
theorem zno {css:List (List Value)} {k:Nat} (h:∀c∈css,c.length=k):css.flatten.length=css.length*k:=by
 induction css with
 | nil=>simp
 | cons c r ih=>rw [List.flatten_cons,List.length_append,ih (fun x hx=>h x (by simp [hx])),h c (by simp),List.length_cons,Nat.add_mul]; omega
theorem zv2 {css:List (List Value)} {k:Nat} (h:∀c∈css,c.length=k):∀{i j:Nat},j<k→css.flatten[i*k+j]?=css[i]?.bind fun c=>c[j]?:=by
 induction css with
 | nil=>intro i j _; simp
 | cons c r ih=>
   intro i j hj
   have hc:=h c (by simp)
   cases i with
   | zero=>rw [List.flatten_cons,List.getElem?_append_left (by omega)]; simp
   | succ i=>
     rw [List.flatten_cons,List.getElem?_append_right (by rw [hc,Nat.add_mul]; omega),hc,show (i+1)*k+j-k=i*k+j by rw [Nat.add_mul]; omega,ih (fun x hx=>h x (by simp [hx])) hj]
     simp
theorem Okt.slice {t e:TypeId} {cs:List Value} (ht:P.underlying t=some (.slice e)) (h:Okt enc P w t cs) :
 ∃s:Sl,cs=[Lf.sl.up s]∧s.len≤s.cap∧s.len*P.bytesOf e≤reachBytes∧∃css:List (List Value),css.length=s.len∧(∀c∈css,c.length=P.cellsOf e∧Okt enc P w e c)∧Rd (hpW w) (P.cellsOf e) s css.flatten:=by
 obtain ⟨n,x,h,hw⟩:=h
 rcases DataW.trod_slice ht h with ⟨rfl,_⟩ | ⟨a,len,cap,elems,rest,m,_,rfl,ex,_,hl,hm,hlen,hel,_,_⟩
 · exact ⟨⟨none,0,0⟩,rfl,Nat.le_refl _,by simp,[],rfl,by simp,by simp,rfl⟩
 · subst ex
   simp only [DataW.weights,ht] at hw
   have hby:len*P.bytesOf e≤reachBytes:=by
    refine Nat.le_trans (Nat.mul_le_mul_right _ ?_) (hw _ (List.mem_cons_self ..))
    simp only [List.length_map,hlen]
    omega
   have each:∀i,i<len→∃c,w.cells? 0 (a.add (i*P.cellsOf e)) (P.cellsOf e)=some c∧Okt enc P w e c:=fun i hi=>by
    have h1:=hel i hi
    rw [List.getElem?_eq_getElem (by omega),Option.bind_eq_some_iff] at h1
    obtain ⟨c,hc,hd⟩:=h1
    exact ⟨c,hc,m,_,hd,fun k hk=>hw k (List.mem_cons_of_mem _ (List.mem_append_left _ (zkq (List.mem_map.2 ⟨_,List.getElem_mem (by omega),rfl⟩) k hk)))⟩
   have hall:∀k,k≤len→∃css:List (List Value),css.length=k∧∀i (hi:i<css.length),w.cells? 0 (a.add (i*P.cellsOf e)) (P.cellsOf e)=some css[i]∧Okt enc P w e css[i]:=by
    intro k
    induction k with
    | zero=>intro _; exact ⟨[],rfl,fun i hi=>by simp at hi⟩
    | succ k ih=>
      intro hk
      obtain ⟨css,h1,h2⟩:=ih (by omega)
      obtain ⟨c,hc,hd⟩:=each k (by omega)
      refine ⟨css++[c],by simp [h1],fun i hi=>?_⟩
      by_cases hik:i<css.length
      · rw [List.getElem_append_left hik]; exact h2 i hik
      · have:i=k:=by simp at hi; omega
        subst this
        rw [List.getElem_append_right (by omega)]
        simpa [h1] using ⟨hc,hd⟩
   obtain ⟨css,h1,h2⟩:=hall len (Nat.le_refl _)
   have hsz:∀c∈css,c.length=P.cellsOf e:=fun c hc=>by
    obtain ⟨i,hi,rfl⟩:=List.mem_iff_getElem.1 hc
    exact (World.cells?_some (h2 i hi).1).2.1
   refine ⟨⟨some a,len,cap⟩,rfl,hl,hby,css,h1,fun c hc=>⟨hsz c hc,?_⟩,?_,?_⟩
   · obtain ⟨i,hi,rfl⟩:=List.mem_iff_getElem.1 hc
     exact (h2 i hi).2
   · rw [zno hsz,h1]
   · refine zv5 fun i hi=>?_
     rw [zno hsz] at hi
     have hk:0<P.cellsOf e:=by
      rcases Nat.eq_zero_or_pos (P.cellsOf e) with h0 | h0
      · rw [h0,Nat.mul_zero] at hi; omega
      · exact h0
     have hq:i/P.cellsOf e<css.length:=(Nat.div_lt_iff_lt_mul hk).2 hi
     have hr:i % P.cellsOf e<P.cellsOf e:=Nat.mod_lt _ hk
     have hi':i=i/P.cellsOf e*P.cellsOf e+i % P.cellsOf e:=by rw [Nat.mul_comm]; exact (Nat.div_add_mod _ _).symm
     have h3:=(World.cells?_some (h2 _ hq).1).2.2 _ hr
     rw [zce,←hi'] at h3
     have h4:css.flatten[i]?=css.flatten[i/P.cellsOf e*P.cellsOf e+i % P.cellsOf e]?:=congrArg (css.flatten[·]?) hi'
     rw [h3,h4,zv2 hsz hr,List.getElem?_eq_getElem hq]
     rfl
theorem zagk {ts:List TypeId} {ds:List (DataW H)} {t:TypeId} {v:Value} {d:DataW H} {ps:List MemPlace} (i:Nat) (ht:ts[i]?=some t) (hd:ds[i]?=some d) (h:DataW.Trod enc P w 0 (fun _=>true) true t v d ps)
 (hw:(DataW.weightsEach P ts ds).all (·≤reachBytes)=true):Okt enc P w t v.cells.toList:=by
 obtain ⟨n,hn⟩:=h
 exact ⟨n,_,hn,fun k hk=>of_decide_eq_true (List.all_eq_true.1 hw k (zhr ht hd k hk))⟩
theorem sl_of {t e:TypeId} {r:Reach} {b:Nat} {v:Value} (ht:P.underlying t=some (.slice e)) (hv:Value.okWide P w r b t v) (h:Okt enc P w t v.cells.toList) :
 ∃s:Sl,v=Lf.sl.up s∧v.cells.toList=[Lf.sl.up s]:=by
 obtain ⟨s,hs,_⟩:=h.slice ht
 refine ⟨s,?_,hs⟩
 unfold Value.okWide at hv
 rw [ht] at hv
 simp only at hv
 unfold Cell.okWide at hv
 rw [ht] at hv
 cases v<;>simp only [Cell.ok,ht] at hv
 simpa [Value.cells] using hs
end
end Den
end

section
set_option maxRecDepth 10000
namespace Den
open Go
structure TInt where
 neg:Bool
 mag:Sl
def tyTInt:Ty TInt:=Ty.agg [.bool,.sl] (fun x=>(x.neg,x.mag,())) (fun y=>⟨y.1,y.2.1⟩) (fun _=>rfl) (fun _=>rfl)
structure TRat where
 num:TInt
 den:TInt
def tyTRat:Ty TRat:=Ty.agg [.bool,.sl,.bool,.sl] (fun x=>(x.num.neg,x.num.mag,x.den.neg,x.den.mag,())) (fun y=>⟨⟨y.1,y.2.1⟩,⟨y.2.2.1,y.2.2.2.1⟩⟩) (fun _=>rfl) (fun _=>rfl)
structure TInterval where
 low:TRat
 high:TRat
namespace F
def zaf (m:Sl) (K:Sl→Hp→Prop) (h:Hp):Prop:=
 (loopP (S:=Sl×Unit) (fun s1 k2 h1=>
 (joinP (S:=Unit) (fun s3 h2=>
 (slP s1.1 0 (IntKind.i64.wrap ((s1.1.len:Int)-1)) 1 fun c5=>
 (k2 (c5,()) h2)))
 (fun k4=>
 (ifP (decide ((s1.1.len:Int)>0))
 (idxP s1.1 (IntKind.i64.wrap ((s1.1.len:Int)-1)) 1 fun a6=>
 (ldL (.int .u32) a6 (fun x7=>
 (ifP (x7==0)
 (k4 () h1)
 (K s1.1 h1))) h1))
 (K s1.1 h1)))))
 (m,()) h)
def zc9 (n:Int) (K:Sl→Hp→Prop) (h:Hp):Prop:=
 (0≤(32:Int) ∧
 (newP [.int .u32 (IntKind.u32.wrap (n)),.int .u32 (IntKind.u32.wrap ((n:Int).fdiv (2 ^ (min (32:Int).toNat IntKind.u64.bits))))] (fun p1 h1=>
 (callP (zaf (⟨some p1,2,2⟩:Sl)) (fun r2 h2=>
 (K r2 h2)) h1)) h))
def zc4 (neg:Bool) (m:Sl) (K:TInt→Hp→Prop) (h:Hp):Prop:=
 (callP (zaf m) (fun r1 h1=>
 (ifP ((r1.len:Int)==0)
 (K (⟨false,nilS⟩:TInt) h1)
 (K (⟨neg,r1⟩:TInt) h1))) h)
def zen (n:Int) (K:TInt→Hp→Prop) (h:Hp):Prop:=
 (joinP (S:=Int×Unit) (fun s1 h1=>
 (callP (zc9 s1.1) (fun r3 h2=>
 (callP (zc4 (decide (n<0)) r3) (fun r4 h3=>
 (K r4 h3)) h2)) h1))
 (fun k2=>
 (ifP (decide (n<0))
 (k2 ((IntKind.u64.wrap (0-(IntKind.u64.wrap (n)))),()) h)
 (k2 ((IntKind.u64.wrap (n)),()) h))))
def zi6 (K:TInt→Hp→Prop) (h:Hp):Prop:=
 (callP (zen 1) (fun r1 h1=>
 (K r1 h1)) h)
def zh0 (n:Int) (K:TRat→Hp→Prop) (h:Hp):Prop:=
 (callP (zen n) (fun r1 h1=>
 (callP (zi6) (fun r2 h2=>
 (K (⟨r1,r2⟩:TRat) h2)) h1)) h)
def zeh (a:TInt) (K:Int→Hp→Prop) (h:Hp):Prop:=
 (callP (zaf a.mag) (fun r1 h1=>
 (ifP ((r1.len:Int)==0)
 (K 0 h1)
 (ifP a.neg
 (K (-1) h1)
 (K 1 h1)))) h)
def zfn (a:TRat) (K:Int→Hp→Prop) (h:Hp):Prop:=
 (callP (zeh a.num) (fun r1 h1=>
 (K r1 h1)) h)
def zh8 (a:Sl) (b:Sl) (K:Sl→Hp→Prop) (h:Hp):Prop:=
 (joinP (S:=Unit) (fun s1 h1=>
 (mkP (IntKind.i64.wrap ((a.len:Int)+(b.len:Int))) (IntKind.i64.wrap ((a.len:Int)+(b.len:Int))) 4 [.int .u32 0] (fun m3 h2=>
 (loopP (S:=Int×Unit) (fun s4 k5 h3=>
 (ifP (decide (s4.1<(a.len:Int)))
 (idxP a s4.1 1 fun a6=>
 (ldL (.int .u32) a6 (fun x7=>
 (loopP (S:=Int×Int×Unit) (fun s8 k9 h4=>
 (ifP (decide (s8.2.1<(b.len:Int)))
 (idxP b s8.2.1 1 fun a10=>
 (ldL (.int .u32) a10 (fun x11=>
 (idxP m3 (IntKind.i64.wrap (s4.1+s8.2.1)) 1 fun a12=>
 (ldL (.int .u32) a12 (fun x13=>
 (idxP m3 (IntKind.i64.wrap (s4.1+s8.2.1)) 1 fun a14=>
 (stP a14 [.int .u32 (IntKind.u32.wrap ((IntKind.u64.wrap (s8.1+(IntKind.u64.wrap ((IntKind.u64.wrap ((IntKind.u64.wrap (x7))*(IntKind.u64.wrap (x11))))+(IntKind.u64.wrap (x13))))))))] (fun h5=>
 (0≤(32:Int) ∧
 (k9 (((IntKind.u64.wrap (s8.1+(IntKind.u64.wrap ((IntKind.u64.wrap ((IntKind.u64.wrap (x7))*(IntKind.u64.wrap (x11))))+(IntKind.u64.wrap (x13)))))):Int).fdiv (2 ^ (min (32:Int).toNat IntKind.u64.bits)),(IntKind.i64.wrap (s8.2.1+1)),()) h5))) h4))) h4))) h4))
 (idxP m3 (IntKind.i64.wrap (s4.1+(b.len:Int))) 1 fun a15=>
 (stP a15 [.int .u32 (IntKind.u32.wrap (s8.1))] (fun h6=>
 (k5 ((IntKind.i64.wrap (s4.1+1)),()) h6)) h4))))
 (0,0,()) h3)) h3))
 (callP (zaf m3) (fun r16 h7=>
 (K r16 h7)) h3)))
 (0,()) h2)) h1))
 (fun k2=>
 (ifP ((a.len:Int)==0)
 (K nilS h)
 (ifP ((b.len:Int)==0)
 (K nilS h)
 (k2 () h)))))
def zhf (a:TInt) (b:TInt) (K:TInt→Hp→Prop) (h:Hp):Prop:=
 (callP (zaf a.mag) (fun r1 h1=>
 (callP (zaf b.mag) (fun r2 h2=>
 (callP (zh8 r1 r2) (fun r3 h3=>
 (callP (zc4 (!(a.neg==b.neg)) r3) (fun r4 h4=>
 (K r4 h4)) h3)) h2)) h1)) h)
def zh3 (x:Int) (K:Bool→Hp→Prop) (h:Hp):Prop:=
 (K (x != x) h)
def zfr (x:Int) (y:Int) (K:Int→Hp→Prop) (h:Hp):Prop:=
 (callP (zh3 x) (fun r1 h1=>
 (callP (zh3 y) (fun r2 h2=>
 (ifP r1
 (ifP r2
 (K 0 h2)
 (K (-1) h2))
 (ifP r2
 (K 1 h2)
 (ifP (decide (x<y))
 (K (-1) h2)
 (ifP (decide (x>y))
 (K 1 h2)
 (K 0 h2)))))) h1)) h)
def zfd (x:Int) (K:Bool→Hp→Prop) (h:Hp):Prop:=
 (K (x != x) h)
def zfs (x:Int) (y:Int) (K:Int→Hp→Prop) (h:Hp):Prop:=
 (callP (zfd x) (fun r1 h1=>
 (callP (zfd y) (fun r2 h2=>
 (ifP r1
 (ifP r2
 (K 0 h2)
 (K (-1) h2))
 (ifP r2
 (K 1 h2)
 (ifP (decide (x<y))
 (K (-1) h2)
 (ifP (decide (x>y))
 (K 1 h2)
 (K 0 h2)))))) h1)) h)
def zeo (a:Sl) (b:Sl) (K:Int→Hp→Prop) (h:Hp):Prop:=
 (ifP ((a.len:Int) != (b.len:Int))
 (callP (zfr (a.len:Int) (b.len:Int)) (fun r1 h1=>
 (K r1 h1)) h)
 (loopP (S:=Int×Unit) (fun s2 k3 h2=>
 (ifP (decide (s2.1≥0))
 (idxP a s2.1 1 fun a4=>
 (ldL (.int .u32) a4 (fun x5=>
 (idxP b s2.1 1 fun a6=>
 (ldL (.int .u32) a6 (fun x7=>
 (ifP (x5 != x7)
 (idxP a s2.1 1 fun a8=>
 (ldL (.int .u32) a8 (fun x9=>
 (idxP b s2.1 1 fun a10=>
 (ldL (.int .u32) a10 (fun x11=>
 (callP (zfs x9 x11) (fun r12 h3=>
 (K r12 h3)) h2)) h2))) h2))
 (k3 ((IntKind.i64.wrap (s2.1-1)),()) h2))) h2))) h2))
 (K 0 h2)))
 ((IntKind.i64.wrap ((a.len:Int)-1)),()) h))
def zl8 (a:TInt) (b:TInt) (K:Int→Hp→Prop) (h:Hp):Prop:=
 (callP (zeh a) (fun r1 h1=>
 (callP (zeh b) (fun r2 h2=>
 (ifP (r1 != r2)
 (callP (zfr r1 r2) (fun r3 h3=>
 (K r3 h3)) h2)
 (callP (zaf a.mag) (fun r4 h4=>
 (callP (zaf b.mag) (fun r5 h5=>
 (callP (zeo r4 r5) (fun r6 h6=>
 (K (IntKind.i64.wrap (r1*r6)) h6)) h5)) h4)) h2))) h1)) h)
def zb4 (s:Sl) (K:Sl→Hp→Prop) (h:Hp):Prop:=
 (ifP s.a.isNone
 (K nilS h)
 (newP [] (fun p1 h1=>
 (rdO s.a (s.len*1) (fun vs2=>
 (appP 1 4 [.int .u32 0] (⟨some p1,0,0⟩:Sl) s.len vs2 (fun w3 h2=>
 (K w3 h2)) h1)) h1)) h))
def zbs (s:Sl) (K:Addr→Hp→Prop) (h:Hp):Prop:=
 (newP [.slice s.a s.len s.cap] (fun p1 h1=>
 (K p1 h1)) h)
def zd8 (m:Sl) (K:Int→Hp→Prop) (h:Hp):Prop:=
 (callP (zbs m) (fun r1 h1=>
 (backP (S:=(Int×Unit)×Unit) (.leaf (.int .u32)) r1 (fun i2 v3 s4 k5 h2=>
 (0≤(32:Int) ∧
 (k5 ((ibits .or .u64 (IntKind.u64.wrap (s4.1.1*2 ^ (min (32:Int).toNat IntKind.u64.bits))) (IntKind.u64.wrap (v3)),()),()) h2)))
 ((0,()),()) (fun s6 h3=>
 (K s6.1.1 h3)) h1)) h)
def zfv (a:Sl) (b:Int) (K:(Sl×Sl)→Hp→Prop) (h:Hp):Prop:=
 (mkP (a.len:Int) (a.len:Int) 4 [.int .u32 0] (fun m1 h1=>
 (loopP (S:=Int×Int×Unit) (fun s2 k3 h2=>
 (ifP (decide (s2.2.1≥0))
 (0≤(32:Int) ∧
 (idxP a s2.2.1 1 fun a4=>
 (ldL (.int .u32) a4 (fun x5=>
 (((IntKind.u64.wrap (b)):Int)≠0 ∧
 (idxP m1 s2.2.1 1 fun a6=>
 (stP a6 [.int .u32 (IntKind.u32.wrap ((IntKind.u64.wrap (((ibits .or .u64 (IntKind.u64.wrap (s2.1*2 ^ (min (32:Int).toNat IntKind.u64.bits))) (IntKind.u64.wrap (x5))):Int).tdiv (IntKind.u64.wrap (b))))))] (fun h3=>
 (((IntKind.u64.wrap (b)):Int)≠0 ∧
 (k3 (((ibits .or .u64 (IntKind.u64.wrap (s2.1*2 ^ (min (32:Int).toNat IntKind.u64.bits))) (IntKind.u64.wrap (x5))):Int).tmod (IntKind.u64.wrap (b)),(IntKind.i64.wrap (s2.2.1-1)),()) h3))) h2)))) h2)))
 (callP (zaf m1) (fun r7 h4=>
 (callP (zc9 s2.1) (fun r8 h5=>
 (K (r7,r8) h5)) h4)) h2)))
 (0,(IntKind.i64.wrap ((a.len:Int)-1)),()) h1)) h)
def zhp (x:Int) (K:Int→Hp→Prop) (h:Hp):Prop:=
 (joinP (S:=Int×Int×Unit) (fun s1 h1=>
 (joinP (S:=Int×Int×Unit) (fun s3 h2=>
 (strIdx ⟨#[0,1,2,2,3,3,3,3,4,4,4,4,4,4,4,4,5,5,5,5,5,5,5,5,5,5,5,5,5,5,5,5,6,6,6,6,6,6,6,6,6,6,6,6,6,6,6,6,6,6,6,6,6,6,6,6,6,6,6,6,6,6,6,6,7,7,7,7,7,7,7,7,7,7,7,7,7,7,7,7,7,7,7,7,7,7,7,7,7,7,7,7,7,7,7,7,7,7,7,7,7,7,7,7,7,7,7,7,7,7,7,7,7,7,7,7,7,7,7,7,7,7,7,7,7,7,7,7,8,8,8,8,8,8,8,8,8,8,8,8,8,8,8,8,8,8,8,8,8,8,8,8,8,8,8,8,8,8,8,8,8,8,8,8,8,8,8,8,8,8,8,8,8,8,8,8,8,8,8,8,8,8,8,8,8,8,8,8,8,8,8,8,8,8,8,8,8,8,8,8,8,8,8,8,8,8,8,8,8,8,8,8,8,8,8,8,8,8,8,8,8,8,8,8,8,8,8,8,8,8,8,8,8,8,8,8,8,8,8,8,8,8,8,8,8,8,8,8,8,8,8,8,8,8,8,8]⟩ (IntKind.u8.wrap (s3.1)) fun c5=>
 (K (IntKind.i64.wrap (s3.2.1+(IntKind.i64.wrap (c5)))) h2)))
 (fun k4=>
 (ifP (decide (s1.1≥256))
 (0≤(8:Int) ∧
 (k4 ((s1.1:Int).fdiv (2 ^ (min (8:Int).toNat IntKind.u32.bits)),(IntKind.i64.wrap (s1.2.1+8)),()) h1))
 (k4 (s1.1,s1.2.1,()) h1)))))
 (fun k2=>
 (ifP (decide (x≥65536))
 (0≤(16:Int) ∧
 (k2 ((x:Int).fdiv (2 ^ (min (16:Int).toNat IntKind.u32.bits)),16,()) h))
 (k2 (x,0,()) h))))
def zdg (x:Int) (K:Int→Hp→Prop) (h:Hp):Prop:=
 (callP (zhp x) (fun r1 h1=>
 (K (IntKind.i64.wrap (32-r1)) h1)) h)
def zdp (a:Sl) (n:Int) (K:Sl→Hp→Prop) (h:Hp):Prop:=
 (mkP (IntKind.i64.wrap ((a.len:Int)+1)) (IntKind.i64.wrap ((a.len:Int)+1)) 4 [.int .u32 0] (fun m1 h1=>
 (loopP (S:=Int×Unit) (fun s2 k3 h2=>
 (ifP (decide (s2.1<(a.len:Int)))
 (idxP a s2.1 1 fun a4=>
 (ldL (.int .u32) a4 (fun x5=>
 (0≤(n:Int) ∧
 (idxP m1 s2.1 1 fun a6=>
 (ldL (.int .u32) a6 (fun x7=>
 (idxP m1 s2.1 1 fun a8=>
 (stP a8 [.int .u32 (ibits .or .u32 x7 (IntKind.u32.wrap ((IntKind.u64.wrap ((IntKind.u64.wrap (x5))*2 ^ (min (n:Int).toNat IntKind.u64.bits))))))] (fun h3=>
 (0≤(32:Int) ∧
 (idxP m1 (IntKind.i64.wrap (s2.1+1)) 1 fun a9=>
 (stP a9 [.int .u32 (IntKind.u32.wrap (((IntKind.u64.wrap ((IntKind.u64.wrap (x5))*2 ^ (min (n:Int).toNat IntKind.u64.bits))):Int).fdiv (2 ^ (min (32:Int).toNat IntKind.u64.bits))))] (fun h4=>
 (k3 ((IntKind.i64.wrap (s2.1+1)),()) h4)) h3)))) h2))) h2)))) h2))
 (K m1 h2)))
 (0,()) h1)) h)
def zgx (u:Sl) (v:Sl) (digit:Int) (K:Bool→Hp→Prop) (h:Hp):Prop:=
 (loopP (S:=Int×Int×Unit) (fun s1 k2 h1=>
 (ifP (decide (s1.2.1<(v.len:Int)))
 (idxP v s1.2.1 1 fun a3=>
 (ldL (.int .u32) a3 (fun x4=>
 (idxP u s1.2.1 1 fun a5=>
 (ldL (.int .u32) a5 (fun x6=>
 (idxP u s1.2.1 1 fun a7=>
 (stP a7 [.int .u32 (IntKind.u32.wrap ((IntKind.u64.wrap ((IntKind.u64.wrap (x6))-(IntKind.u64.wrap ((IntKind.u32.wrap ((IntKind.u64.wrap ((IntKind.u64.wrap ((IntKind.u64.wrap (x4))*digit))+s1.1))))))))))] (fun h2=>
 (0≤(32:Int) ∧
 (0≤(63:Int) ∧
 (k2 ((IntKind.u64.wrap ((((IntKind.u64.wrap ((IntKind.u64.wrap ((IntKind.u64.wrap (x4))*digit))+s1.1)):Int).fdiv (2 ^ (min (32:Int).toNat IntKind.u64.bits)))+(((IntKind.u64.wrap ((IntKind.u64.wrap (x6))-(IntKind.u64.wrap ((IntKind.u32.wrap ((IntKind.u64.wrap ((IntKind.u64.wrap ((IntKind.u64.wrap (x4))*digit))+s1.1)))))))):Int).fdiv (2 ^ (min (63:Int).toNat IntKind.u64.bits))))),(IntKind.i64.wrap (s1.2.1+1)),()) h2)))) h1))) h1))) h1))
 (idxP u (v.len:Int) 1 fun a8=>
 (ldL (.int .u32) a8 (fun x9=>
 (idxP u (v.len:Int) 1 fun a10=>
 (stP a10 [.int .u32 (IntKind.u32.wrap ((IntKind.u64.wrap ((IntKind.u64.wrap (x9))-s1.1))))] (fun h3=>
 (0≤(63:Int) ∧
 (K ((((IntKind.u64.wrap ((IntKind.u64.wrap (x9))-s1.1)):Int).fdiv (2 ^ (min (63:Int).toNat IntKind.u64.bits)))==1) h3))) h1))) h1))))
 (0,0,()) h)
def zho (u:Sl) (v:Sl) (K:Unit→Hp→Prop) (h:Hp):Prop:=
 (loopP (S:=Int×Int×Unit) (fun s1 k2 h1=>
 (ifP (decide (s1.2.1<(v.len:Int)))
 (idxP v s1.2.1 1 fun a3=>
 (ldL (.int .u32) a3 (fun x4=>
 (idxP u s1.2.1 1 fun a5=>
 (ldL (.int .u32) a5 (fun x6=>
 (idxP u s1.2.1 1 fun a7=>
 (stP a7 [.int .u32 (IntKind.u32.wrap ((IntKind.u64.wrap (s1.1+(IntKind.u64.wrap ((IntKind.u64.wrap (x6))+(IntKind.u64.wrap (x4))))))))] (fun h2=>
 (0≤(32:Int) ∧
 (k2 (((IntKind.u64.wrap (s1.1+(IntKind.u64.wrap ((IntKind.u64.wrap (x6))+(IntKind.u64.wrap (x4)))))):Int).fdiv (2 ^ (min (32:Int).toNat IntKind.u64.bits)),(IntKind.i64.wrap (s1.2.1+1)),()) h2))) h1))) h1))) h1))
 (idxP u (v.len:Int) 1 fun a8=>
 (ldL (.int .u32) a8 (fun x9=>
 (idxP u (v.len:Int) 1 fun a10=>
 (stP a10 [.int .u32 (IntKind.u32.wrap (x9+(IntKind.u32.wrap (s1.1))))] (fun h3=>
 (K () h3)) h1))) h1))))
 (0,0,()) h)
def zfw (a:Sl) (n:Int) (K:Sl→Hp→Prop) (h:Hp):Prop:=
 (mkP (a.len:Int) (a.len:Int) 4 [.int .u32 0] (fun m1 h1=>
 (loopP (S:=Int×Unit) (fun s2 k3 h2=>
 (ifP (decide (s2.1<(a.len:Int)))
 (joinP (S:=Unit) (fun s4 h3=>
 (k3 ((IntKind.i64.wrap (s2.1+1)),()) h3))
 (fun k5=>
 (idxP a s2.1 1 fun a6=>
 (ldL (.int .u32) a6 (fun x7=>
 (0≤(n:Int) ∧
 (idxP m1 s2.1 1 fun a8=>
 (stP a8 [.int .u32 ((x7:Int).fdiv (2 ^ (min (n:Int).toNat IntKind.u32.bits)))] (fun h4=>
 (ifP (decide ((IntKind.i64.wrap (s2.1+1))<(a.len:Int)))
 (idxP m1 s2.1 1 fun a9=>
 (ldL (.int .u32) a9 (fun x10=>
 (idxP a (IntKind.i64.wrap (s2.1+1)) 1 fun a11=>
 (ldL (.int .u32) a11 (fun x12=>
 (0≤((IntKind.i64.wrap (32-n)):Int) ∧
 (idxP m1 s2.1 1 fun a13=>
 (stP a13 [.int .u32 (ibits .or .u32 x10 (IntKind.u32.wrap ((IntKind.u64.wrap ((IntKind.u64.wrap (x12))*2 ^ (min ((IntKind.i64.wrap (32-n)):Int).toNat IntKind.u64.bits))))))] (fun h5=>
 (k5 () h5)) h4)))) h4))) h4))
 (k5 () h4))) h2)))) h2))))
 (K m1 h2)))
 (0,()) h1)) h)
def zdz (a:Sl) (b:Sl) (K:(Sl×Sl)→Hp→Prop) (h:Hp):Prop:=
 (callP (zeo a b) (fun r1 h1=>
 (ifP (decide (r1<0))
 (callP (zb4 a) (fun r2 h2=>
 (K (nilS,r2) h2)) h1)
 (ifP (decide ((a.len:Int)≤2))
 (callP (zd8 a) (fun r3 h3=>
 (callP (zd8 b) (fun r4 h4=>
 ((r4:Int)≠0 ∧
 ((r4:Int)≠0 ∧
 (callP (zc9 (IntKind.u64.wrap ((r3:Int).tdiv r4))) (fun r5 h5=>
 (callP (zc9 ((r3:Int).tmod r4)) (fun r6 h6=>
 (K (r5,r6) h6)) h5)) h4)))) h3)) h1)
 (ifP ((b.len:Int)==1)
 (idxP b 0 1 fun a7=>
 (ldL (.int .u32) a7 (fun x8=>
 (callP (zfv a x8) (fun r9 h7=>
 (K (r9.1,r9.2) h7)) h1)) h1))
 (idxP b (IntKind.i64.wrap ((b.len:Int)-1)) 1 fun a10=>
 (ldL (.int .u32) a10 (fun x11=>
 (callP (zdg x11) (fun r12 h8=>
 (callP (zdp a r12) (fun r13 h9=>
 (callP (zdp b r12) (fun r14 h10=>
 (callP (zaf r14) (fun r15 h11=>
 (mkP (IntKind.i64.wrap ((r13.len:Int)-(r15.len:Int))) (IntKind.i64.wrap ((r13.len:Int)-(r15.len:Int))) 4 [.int .u32 0] (fun m16 h12=>
 (idxP r15 (IntKind.i64.wrap ((r15.len:Int)-1)) 1 fun a17=>
 (ldL (.int .u32) a17 (fun x18=>
 (idxP r15 (IntKind.i64.wrap ((r15.len:Int)-2)) 1 fun a19=>
 (ldL (.int .u32) a19 (fun x20=>
 (loopP (S:=Int×Unit) (fun s21 k22 h13=>
 (ifP (decide (s21.1≥0))
 (idxP r13 (IntKind.i64.wrap (s21.1+(r15.len:Int))) 1 fun a23=>
 (ldL (.int .u32) a23 (fun x24=>
 (0≤(32:Int) ∧
 (idxP r13 (IntKind.i64.wrap ((IntKind.i64.wrap (s21.1+(r15.len:Int)))-1)) 1 fun a25=>
 (ldL (.int .u32) a25 (fun x26=>
 (((IntKind.u64.wrap (x18)):Int)≠0 ∧
 (((IntKind.u64.wrap (x18)):Int)≠0 ∧
 (joinP (S:=Int×Unit) (fun s27 h14=>
 (joinP (S:=Int×Unit) (fun s29 h15=>
 (idxP m16 s21.1 1 fun a31=>
 (stP a31 [.int .u32 (IntKind.u32.wrap (s29.1))] (fun h16=>
 (k22 ((IntKind.i64.wrap (s21.1-1)),()) h16)) h15)))
 (fun k30=>
 (slP r13 s21.1 (IntKind.i64.wrap ((IntKind.i64.wrap (s21.1+(r15.len:Int)))+1)) 1 fun c32=>
 (callM (zgx c32 r15 s27.1) (fun r33 h17=>
 (ifP r33
 (slP r13 s21.1 (IntKind.i64.wrap ((IntKind.i64.wrap (s21.1+(r15.len:Int)))+1)) 1 fun c34=>
 (callM (zho c34 r15) (fun r35 h18=>
 (k30 ((IntKind.u64.wrap (s27.1-1)),()) h18)) h17))
 (k30 (s27.1,()) h17))) h14)))))
 (fun k28=>
 (loopP (S:=Int×Int×Unit) (fun s36 k37 h19=>
 (joinP (S:=Unit) (fun s38 h20=>
 (ifP (decide ((IntKind.u64.wrap (s36.2.1+(IntKind.u64.wrap (x18))))≥4294967296))
 (k28 ((IntKind.u64.wrap (s36.1-1)),()) h20)
 (k37 ((IntKind.u64.wrap (s36.1-1)),(IntKind.u64.wrap (s36.2.1+(IntKind.u64.wrap (x18)))),()) h20)))
 (fun k39=>
 (ifP (decide (s36.1≥4294967296))
 (k39 () h19)
 (0≤(32:Int) ∧
 (idxP r13 (IntKind.i64.wrap ((IntKind.i64.wrap (s21.1+(r15.len:Int)))-2)) 1 fun a40=>
 (ldL (.int .u32) a40 (fun x41=>
 (ifP (decide ((IntKind.u64.wrap (s36.1*(IntKind.u64.wrap (x20))))>(ibits .or .u64 (IntKind.u64.wrap (s36.2.1*2 ^ (min (32:Int).toNat IntKind.u64.bits))) (IntKind.u64.wrap (x41)))))
 (k39 () h19)
 (k28 (s36.1,()) h19))) h19)))))))
 ((IntKind.u64.wrap (((ibits .or .u64 (IntKind.u64.wrap ((IntKind.u64.wrap (x24))*2 ^ (min (32:Int).toNat IntKind.u64.bits))) (IntKind.u64.wrap (x26))):Int).tdiv (IntKind.u64.wrap (x18)))),((ibits .or .u64 (IntKind.u64.wrap ((IntKind.u64.wrap (x24))*2 ^ (min (32:Int).toNat IntKind.u64.bits))) (IntKind.u64.wrap (x26))):Int).tmod (IntKind.u64.wrap (x18)),()) h13)))))) h13)))) h13))
 (slP r13 0 (r15.len:Int) 1 fun c42=>
 (callP (zaf m16) (fun r43 h21=>
 (callP (zaf c42) (fun r44 h22=>
 (callP (zfw r44 r12) (fun r45 h23=>
 (callP (zaf r45) (fun r46 h24=>
 (K (r43,r46) h24)) h23)) h22)) h21)) h13))))
 ((IntKind.i64.wrap ((m16.len:Int)-1)),()) h12)) h12))) h12))) h11)) h10)) h9)) h8)) h1)) h1)))))) h)
def zhe (a:TInt) (b:TInt) (K:TInt→Hp→Prop) (h:Hp):Prop:=
 (callP (zaf a.mag) (fun r1 h1=>
 (callP (zaf b.mag) (fun r2 h2=>
 (joinP (S:=Sl×Sl×Unit) (fun s3 h3=>
 (ifP ((s3.2.1.len:Int)==0)
 (callP (zb4 s3.1) (fun r5 h4=>
 (callP (zc4 false r5) (fun r6 h5=>
 (K r6 h5)) h4)) h3)
 (callP (zd8 s3.1) (fun r7 h6=>
 (callP (zd8 s3.2.1) (fun r8 h7=>
 (loopP (S:=Int×Int×Unit) (fun s9 k10 h8=>
 (ifP (s9.2.1 != 0)
 ((s9.2.1:Int)≠0 ∧
 (k10 (s9.2.1,(s9.1:Int).tmod s9.2.1,()) h8))
 (callP (zc9 s9.1) (fun r11 h9=>
 (callP (zc4 false r11) (fun r12 h10=>
 (K r12 h10)) h9)) h8)))
 (r7,r8,()) h7)) h6)) h3)))
 (fun k4=>
 (loopP (S:=Sl×Sl×Unit) (fun s13 k14 h11=>
 (joinP (S:=Unit) (fun s15 h12=>
 (callP (zdz s13.1 s13.2.1) (fun r17 h13=>
 (k14 (s13.2.1,r17.2,()) h13)) h12))
 (fun k16=>
 (ifP (decide ((s13.2.1.len:Int)>2))
 (k16 () h11)
 (ifP (decide ((s13.1.len:Int)>2))
 (ifP (decide ((s13.2.1.len:Int)>0))
 (k16 () h11)
 (k4 (s13.1,s13.2.1,()) h11))
 (k4 (s13.1,s13.2.1,()) h11))))))
 (r1,r2,()) h2)))) h1)) h)
def ze1 (a:TInt) (K:Bool→Hp→Prop) (h:Hp):Prop:=
 (ifP (!a.neg)
 (ifP ((a.mag.len:Int)==1)
 (idxP a.mag 0 1 fun a1=>
 (ldL (.int .u32) a1 (fun x2=>
 (K (x2==1) h)) h))
 (K false h))
 (K false h))
def zi3 (a:Sl) (b:Sl) (K:Sl→Hp→Prop) (h:Hp):Prop:=
 (joinP (S:=Sl×Sl×Unit) (fun s1 h1=>
 (mkP 0 (IntKind.i64.wrap ((s1.1.len:Int)+1)) 4 [.int .u32 0] (fun m3 h2=>
 (loopP (S:=Sl×Int×Int×Unit) (fun s4 k5 h3=>
 (ifP (decide (s4.2.2.1<(s1.1.len:Int)))
 (idxP s1.1 s4.2.2.1 1 fun a6=>
 (ldL (.int .u32) a6 (fun x7=>
 (joinP (S:=Int×Unit) (fun s8 h4=>
 (appP 1 4 [.int .u32 0] s4.1 1 [.int .u32 (IntKind.u32.wrap (s8.1))] (fun w10 h5=>
 (0≤(32:Int) ∧
 (k5 (w10,(s8.1:Int).fdiv (2 ^ (min (32:Int).toNat IntKind.u64.bits)),(IntKind.i64.wrap (s4.2.2.1+1)),()) h5))) h4))
 (fun k9=>
 (ifP (decide (s4.2.2.1<(s1.2.1.len:Int)))
 (idxP s1.2.1 s4.2.2.1 1 fun a11=>
 (ldL (.int .u32) a11 (fun x12=>
 (k9 ((IntKind.u64.wrap ((IntKind.u64.wrap (s4.2.1+(IntKind.u64.wrap (x7))))+(IntKind.u64.wrap (x12)))),()) h3)) h3))
 (k9 ((IntKind.u64.wrap (s4.2.1+(IntKind.u64.wrap (x7)))),()) h3))))) h3))
 (ifP (decide (s4.2.1>0))
 (appP 1 4 [.int .u32 0] s4.1 1 [.int .u32 (IntKind.u32.wrap (s4.2.1))] (fun w13 h6=>
 (K w13 h6)) h3)
 (K s4.1 h3))))
 (m3,0,0,()) h2)) h1))
 (fun k2=>
 (ifP (decide ((a.len:Int)<(b.len:Int)))
 (k2 (b,a,()) h)
 (k2 (a,b,()) h))))
def zh7 (a:Sl) (b:Sl) (K:Sl→Hp→Prop) (h:Hp):Prop:=
 (mkP (a.len:Int) (a.len:Int) 4 [.int .u32 0] (fun m1 h1=>
 (loopP (S:=Int×Int×Unit) (fun s2 k3 h2=>
 (ifP (decide (s2.2.1<(a.len:Int)))
 (idxP a s2.2.1 1 fun a4=>
 (ldL (.int .u32) a4 (fun x5=>
 (joinP (S:=Int×Unit) (fun s6 h3=>
 (idxP m1 s2.2.1 1 fun a8=>
 (stP a8 [.int .u32 (IntKind.u32.wrap (s6.1))] (fun h4=>
 (0≤(63:Int) ∧
 (k3 ((s6.1:Int).fdiv (2 ^ (min (63:Int).toNat IntKind.u64.bits)),(IntKind.i64.wrap (s2.2.1+1)),()) h4))) h3)))
 (fun k7=>
 (ifP (decide (s2.2.1<(b.len:Int)))
 (idxP b s2.2.1 1 fun a9=>
 (ldL (.int .u32) a9 (fun x10=>
 (k7 ((IntKind.u64.wrap ((IntKind.u64.wrap ((IntKind.u64.wrap (x5))-s2.1))-(IntKind.u64.wrap (x10)))),()) h2)) h2))
 (k7 ((IntKind.u64.wrap ((IntKind.u64.wrap (x5))-s2.1)),()) h2))))) h2))
 (callP (zaf m1) (fun r11 h5=>
 (K r11 h5)) h2)))
 (0,0,()) h1)) h)
def zin (a:TInt) (b:TInt) (K:(TInt×TInt×Int)→Hp→Prop) (h:Hp):Prop:=
 (callP (zaf b.mag) (fun r1 h1=>
 (ifP ((r1.len:Int)==0)
 (K ((⟨false,nilS⟩:TInt),(⟨false,nilS⟩:TInt),6) h1)
 (callP (zaf a.mag) (fun r2 h2=>
 (callP (zdz r2 r1) (fun r3 h3=>
 (joinP (S:=Sl×Sl×Unit) (fun s4 h4=>
 (callP (zc4 (!(a.neg==b.neg)) s4.1) (fun r6 h5=>
 (callP (zc4 b.neg s4.2.1) (fun r7 h6=>
 (K (r6,r7,0) h6)) h5)) h4))
 (fun k5=>
 (ifP (!(a.neg==b.neg))
 (ifP (decide ((r3.2.len:Int)>0))
 (newP [.int .u32 1] (fun p8 h7=>
 (callP (zi3 r3.1 (⟨some p8,1,1⟩:Sl)) (fun r9 h8=>
 (callP (zh7 r1 r3.2) (fun r10 h9=>
 (k5 (r9,r10,()) h9)) h8)) h7)) h3)
 (k5 (r3.1,r3.2,()) h3))
 (k5 (r3.1,r3.2,()) h3))))) h2)) h1))) h)
def zi7 (a:TInt) (b:TInt) (K:TInt→Hp→Prop) (h:Hp):Prop:=
 (callP (ze1 b) (fun r1 h1=>
 (ifP r1
 (K a h1)
 (callP (zin a b) (fun r2 h2=>
 (K (⟨r2.1.neg,r2.1.mag⟩:TInt) h2)) h1))) h)
def zl9 (a:TInt) (K:TInt→Hp→Prop) (h:Hp):Prop:=
 (callP (zaf a.mag) (fun r1 h1=>
 (callP (zb4 r1) (fun r2 h2=>
 (callP (zc4 (!a.neg) r2) (fun r3 h3=>
 (K r3 h3)) h2)) h1)) h)
def zhs (num:TInt) (den:TInt) (K:TRat→Hp→Prop) (h:Hp):Prop:=
 (callP (zhe num den) (fun r1 h1=>
 (joinP (S:=(Bool×Sl×Unit)×Unit) (fun s2 h2=>
 (callP (zi7 num (⟨s2.1.1,s2.1.2.1⟩:TInt)) (fun r4 h3=>
 (callP (zi7 den (⟨s2.1.1,s2.1.2.1⟩:TInt)) (fun r5 h4=>
 (K (⟨r4,r5⟩:TRat) h4)) h3)) h2))
 (fun k3=>
 (ifP den.neg
 (callP (zl9 r1) (fun r6 h5=>
 (k3 ((r6.neg,r6.mag,()),()) h5)) h1)
 (k3 ((r1.neg,r1.mag,()),()) h1))))) h)
def zk7 (a:TRat) (b:TRat) (K:TRat→Hp→Prop) (h:Hp):Prop:=
 (joinP (S:=(Bool×Sl×Bool×Sl×Unit)×Unit) (fun s1 h1=>
 (callP (zhf a.num b.num) (fun r3 h2=>
 (callP (zhf a.den b.den) (fun r4 h3=>
 (callP (zhs r3 r4) (fun r5 h4=>
 (K r5 h4)) h3)) h2)) h1))
 (fun k2=>
 (callP (ze1 a.den) (fun r6 h5=>
 (ifP r6
 (callP (ze1 b.den) (fun r7 h6=>
 (ifP r7
 (callP (zhf a.num b.num) (fun r8 h7=>
 (callP (zi6) (fun r9 h8=>
 (K (⟨r8,r9⟩:TRat) h8)) h7)) h6)
 (k2 ((false,nilS,false,nilS,()),()) h6))) h5)
 (k2 ((false,nilS,false,nilS,()),()) h5))) h)))
def zbc (m:Sl) (K:Sl→Hp→Prop) (h:Hp):Prop:=
 (loopP (S:=Sl×Unit) (fun s1 k2 h1=>
 (joinP (S:=Unit) (fun s3 h2=>
 (slP s1.1 0 (IntKind.i64.wrap ((s1.1.len:Int)-1)) 1 fun c5=>
 (k2 (c5,()) h2)))
 (fun k4=>
 (ifP (decide ((s1.1.len:Int)>0))
 (idxP s1.1 (IntKind.i64.wrap ((s1.1.len:Int)-1)) 1 fun a6=>
 (ldL (.int .u32) a6 (fun x7=>
 (ifP (x7==0)
 (k4 () h1)
 (K s1.1 h1))) h1))
 (K s1.1 h1)))))
 (m,()) h)
def zby (neg:Bool) (m:Sl) (K:TInt→Hp→Prop) (h:Hp):Prop:=
 (callP (zbc m) (fun r1 h1=>
 (ifP neg
 (K (⟨decide ((r1.len:Int)>0),r1⟩:TInt) h1)
 (K (⟨false,r1⟩:TInt) h1))) h)
def znw (a:TInt) (K:TInt→Hp→Prop) (h:Hp):Prop:=
 (callP (zby (!a.neg) a.mag) (fun r1 h1=>
 (K r1 h1)) h)
def zd3 (a:TInt) (K:TInt→Hp→Prop) (h:Hp):Prop:=
 (callP (zby a.neg a.mag) (fun r1 h1=>
 (K r1 h1)) h)
def zg6 (a:Sl) (b:Sl) (K:Sl→Hp→Prop) (h:Hp):Prop:=
 (mkP (IntKind.i64.wrap ((a.len:Int)+(b.len:Int))) (IntKind.i64.wrap ((a.len:Int)+(b.len:Int))) 4 [.int .u32 0] (fun m1 h1=>
 (loopP (S:=Int×Unit) (fun s2 k3 h2=>
 (ifP (decide (s2.1<(a.len:Int)))
 (loopP (S:=Int×Int×Unit) (fun s4 k5 h3=>
 (ifP (decide (s4.2.1<(b.len:Int)))
 (idxP m1 (IntKind.i64.wrap (s2.1+s4.2.1)) 1 fun a6=>
 (ldL (.int .u32) a6 (fun x7=>
 (idxP a s2.1 1 fun a8=>
 (ldL (.int .u32) a8 (fun x9=>
 (idxP b s4.2.1 1 fun a10=>
 (ldL (.int .u32) a10 (fun x11=>
 (idxP m1 (IntKind.i64.wrap (s2.1+s4.2.1)) 1 fun a12=>
 (stP a12 [.int .u32 (IntKind.u32.wrap ((IntKind.u64.wrap ((IntKind.u64.wrap (s4.1+(IntKind.u64.wrap (x7))))+(IntKind.u64.wrap ((IntKind.u64.wrap (x9))*(IntKind.u64.wrap (x11))))))))] (fun h4=>
 (0≤(32:Int) ∧
 (k5 (((IntKind.u64.wrap ((IntKind.u64.wrap (s4.1+(IntKind.u64.wrap (x7))))+(IntKind.u64.wrap ((IntKind.u64.wrap (x9))*(IntKind.u64.wrap (x11)))))):Int).fdiv (2 ^ (min (32:Int).toNat IntKind.u64.bits)),(IntKind.i64.wrap (s4.2.1+1)),()) h4))) h3))) h3))) h3))) h3))
 (idxP m1 (IntKind.i64.wrap (s2.1+(b.len:Int))) 1 fun a13=>
 (stP a13 [.int .u32 (IntKind.u32.wrap (s4.1))] (fun h5=>
 (k3 ((IntKind.i64.wrap (s2.1+1)),()) h5)) h3))))
 (0,0,()) h2)
 (callP (zbc m1) (fun r14 h6=>
 (K r14 h6)) h2)))
 (0,()) h1)) h)
def zi9 (a:TInt) (b:TInt) (K:TInt→Hp→Prop) (h:Hp):Prop:=
 (callP (zd3 a) (fun r1 h1=>
 (callP (zd3 b) (fun r2 h2=>
 (callP (zg6 r1.mag r2.mag) (fun r3 h3=>
 (callP (zby (!(r1.neg==r2.neg)) r3) (fun r4 h4=>
 (K r4 h4)) h3)) h2)) h1)) h)
def zka (a:Sl) (b:Sl) (K:Sl→Hp→Prop) (h:Hp):Prop:=
 (joinP (S:=Sl×Sl×Unit) (fun s1 h1=>
 (mkP (IntKind.i64.wrap ((s1.1.len:Int)+1)) (IntKind.i64.wrap ((s1.1.len:Int)+1)) 4 [.int .u32 0] (fun m3 h2=>
 (loopP (S:=Int×Int×Unit) (fun s4 k5 h3=>
 (ifP (decide (s4.2.1<(s1.1.len:Int)))
 (idxP s1.1 s4.2.1 1 fun a6=>
 (ldL (.int .u32) a6 (fun x7=>
 (joinP (S:=Int×Unit) (fun s8 h4=>
 (idxP m3 s4.2.1 1 fun a10=>
 (stP a10 [.int .u32 (IntKind.u32.wrap (s8.1))] (fun h5=>
 (0≤(32:Int) ∧
 (k5 ((s8.1:Int).fdiv (2 ^ (min (32:Int).toNat IntKind.u64.bits)),(IntKind.i64.wrap (s4.2.1+1)),()) h5))) h4)))
 (fun k9=>
 (ifP (decide (s4.2.1<(s1.2.1.len:Int)))
 (idxP s1.2.1 s4.2.1 1 fun a11=>
 (ldL (.int .u32) a11 (fun x12=>
 (k9 ((IntKind.u64.wrap ((IntKind.u64.wrap (s4.1+(IntKind.u64.wrap (x7))))+(IntKind.u64.wrap (x12)))),()) h3)) h3))
 (k9 ((IntKind.u64.wrap (s4.1+(IntKind.u64.wrap (x7)))),()) h3))))) h3))
 (idxP m3 (s1.1.len:Int) 1 fun a13=>
 (stP a13 [.int .u32 (IntKind.u32.wrap (s4.1))] (fun h6=>
 (callP (zbc m3) (fun r14 h7=>
 (K r14 h7)) h6)) h3))))
 (0,0,()) h2)) h1))
 (fun k2=>
 (ifP (decide ((a.len:Int)<(b.len:Int)))
 (k2 (b,a,()) h)
 (k2 (a,b,()) h))))
def zds (a:Sl) (b:Sl) (K:Int→Hp→Prop) (h:Hp):Prop:=
 (ifP ((a.len:Int) != (b.len:Int))
 (ifP (decide ((a.len:Int)<(b.len:Int)))
 (K (-1) h)
 (K 1 h))
 (loopP (S:=Int×Unit) (fun s1 k2 h1=>
 (ifP (decide (s1.1≥0))
 (idxP a s1.1 1 fun a3=>
 (ldL (.int .u32) a3 (fun x4=>
 (idxP b s1.1 1 fun a5=>
 (ldL (.int .u32) a5 (fun x6=>
 (ifP (decide (x4<x6))
 (K (-1) h1)
 (idxP a s1.1 1 fun a7=>
 (ldL (.int .u32) a7 (fun x8=>
 (idxP b s1.1 1 fun a9=>
 (ldL (.int .u32) a9 (fun x10=>
 (ifP (decide (x8>x10))
 (K 1 h1)
 (k2 ((IntKind.i64.wrap (s1.1-1)),()) h1))) h1))) h1)))) h1))) h1))
 (K 0 h1)))
 ((IntKind.i64.wrap ((a.len:Int)-1)),()) h))
def ze6 (a:Sl) (b:Sl) (K:Sl→Hp→Prop) (h:Hp):Prop:=
 (mkP (a.len:Int) (a.len:Int) 4 [.int .u32 0] (fun m1 h1=>
 (loopP (S:=Int×Int×Unit) (fun s2 k3 h2=>
 (ifP (decide (s2.2.1<(a.len:Int)))
 (joinP (S:=Int×Unit) (fun s4 h3=>
 (idxP a s2.2.1 1 fun a6=>
 (ldL (.int .u32) a6 (fun x7=>
 (idxP m1 s2.2.1 1 fun a8=>
 (stP a8 [.int .u32 (IntKind.u32.wrap ((IntKind.u64.wrap ((IntKind.u64.wrap ((IntKind.u64.wrap ((IntKind.u64.wrap (x7))+4294967296))-s4.1))-s2.1))))] (fun h4=>
 (0≤(32:Int) ∧
 (k3 ((IntKind.u64.wrap (1-(((IntKind.u64.wrap ((IntKind.u64.wrap ((IntKind.u64.wrap ((IntKind.u64.wrap (x7))+4294967296))-s4.1))-s2.1)):Int).fdiv (2 ^ (min (32:Int).toNat IntKind.u64.bits))))),(IntKind.i64.wrap (s2.2.1+1)),()) h4))) h3))) h3)))
 (fun k5=>
 (ifP (decide (s2.2.1<(b.len:Int)))
 (idxP b s2.2.1 1 fun a9=>
 (ldL (.int .u32) a9 (fun x10=>
 (k5 ((IntKind.u64.wrap (x10)),()) h2)) h2))
 (k5 (0,()) h2))))
 (callP (zbc m1) (fun r11 h5=>
 (K r11 h5)) h2)))
 (0,0,()) h1)) h)
def zlw (a:TInt) (b:TInt) (K:TInt→Hp→Prop) (h:Hp):Prop:=
 (callP (zd3 a) (fun r1 h1=>
 (callP (zd3 b) (fun r2 h2=>
 (ifP (r1.neg==r2.neg)
 (callP (zka r1.mag r2.mag) (fun r3 h3=>
 (callP (zby r1.neg r3) (fun r4 h4=>
 (K r4 h4)) h3)) h2)
 (callP (zds r1.mag r2.mag) (fun r5 h5=>
 (ifP (decide (r5≥0))
 (callP (ze6 r1.mag r2.mag) (fun r6 h6=>
 (callP (zby r1.neg r6) (fun r7 h7=>
 (K r7 h7)) h6)) h5)
 (callP (ze6 r2.mag r1.mag) (fun r8 h8=>
 (callP (zby r2.neg r8) (fun r9 h9=>
 (K r9 h9)) h8)) h5))) h2))) h1)) h)
def zlx (a:TInt) (b:TInt) (K:TInt→Hp→Prop) (h:Hp):Prop:=
 (callP (znw b) (fun r1 h1=>
 (callP (zlw a r1) (fun r2 h2=>
 (K r2 h2)) h1)) h)
def zfy (a:TInt) (K:Int→Hp→Prop) (h:Hp):Prop:=
 (callP (zd3 a) (fun r1 h1=>
 (ifP ((r1.mag.len:Int)==0)
 (K 0 h1)
 (ifP r1.neg
 (K (-1) h1)
 (K 1 h1)))) h)
def zhi (m:Sl) (K:Int→Hp→Prop) (h:Hp):Prop:=
 (loopP (S:=Int×Int×Unit) (fun s1 k2 h1=>
 (ifP (decide (s1.2.1≥0))
 (0≤(32:Int) ∧
 (idxP m s1.2.1 1 fun a3=>
 (ldL (.int .u32) a3 (fun x4=>
 (k2 (ibits .or .u64 (IntKind.u64.wrap (s1.1*2 ^ (min (32:Int).toNat IntKind.u64.bits))) (IntKind.u64.wrap (x4)),(IntKind.i64.wrap (s1.2.1-1)),()) h1)) h1)))
 (K s1.1 h1)))
 (0,(IntKind.i64.wrap ((m.len:Int)-1)),()) h)
def ze7 (n:Int) (K:Sl→Hp→Prop) (h:Hp):Prop:=
 (0≤(32:Int) ∧
 (newP [.int .u32 (IntKind.u32.wrap (n)),.int .u32 (IntKind.u32.wrap ((n:Int).fdiv (2 ^ (min (32:Int).toNat IntKind.u64.bits))))] (fun p1 h1=>
 (callP (zbc (⟨some p1,2,2⟩:Sl)) (fun r2 h2=>
 (K r2 h2)) h1)) h))
def zn6 (a:Sl) (n:Int) (K:(Sl×Int)→Hp→Prop) (h:Hp):Prop:=
 (mkP (a.len:Int) (a.len:Int) 4 [.int .u32 0] (fun m1 h1=>
 (loopP (S:=Int×Int×Unit) (fun s2 k3 h2=>
 (ifP (decide (s2.2.1≥0))
 (0≤(32:Int) ∧
 (idxP a s2.2.1 1 fun a4=>
 (ldL (.int .u32) a4 (fun x5=>
 (((IntKind.u64.wrap (n)):Int)≠0 ∧
 (idxP m1 s2.2.1 1 fun a6=>
 (stP a6 [.int .u32 (IntKind.u32.wrap ((IntKind.u64.wrap (((ibits .or .u64 (IntKind.u64.wrap (s2.1*2 ^ (min (32:Int).toNat IntKind.u64.bits))) (IntKind.u64.wrap (x5))):Int).tdiv (IntKind.u64.wrap (n))))))] (fun h3=>
 (((IntKind.u64.wrap (n)):Int)≠0 ∧
 (k3 (((ibits .or .u64 (IntKind.u64.wrap (s2.1*2 ^ (min (32:Int).toNat IntKind.u64.bits))) (IntKind.u64.wrap (x5))):Int).tmod (IntKind.u64.wrap (n)),(IntKind.i64.wrap (s2.2.1-1)),()) h3))) h2)))) h2)))
 (callP (zbc m1) (fun r7 h4=>
 (K (r7,(IntKind.u32.wrap (s2.1))) h4)) h2)))
 (0,(IntKind.i64.wrap ((a.len:Int)-1)),()) h1)) h)
def zia (a:Sl) (K:Int→Hp→Prop) (h:Hp):Prop:=
 (ifP ((a.len:Int)==0)
 (K 0 h)
 (idxP a (IntKind.i64.wrap ((a.len:Int)-1)) 1 fun a1=>
 (ldL (.int .u32) a1 (fun x2=>
 (loopP (S:=Int×Int×Unit) (fun s3 k4 h1=>
 (ifP (decide (s3.2.1>0))
 ((2:Int)≠0 ∧
 (k4 ((IntKind.i64.wrap (s3.1+1)),(IntKind.u32.wrap ((s3.2.1:Int).tdiv 2)),()) h1))
 (K (IntKind.i64.wrap ((IntKind.i64.wrap (32*(IntKind.i64.wrap ((a.len:Int)-1))))+s3.1)) h1)))
 (0,x2,()) h)) h)))
def zjc (a:Sl) (s:Int) (K:Sl→Hp→Prop) (h:Hp):Prop:=
 (mkP (IntKind.i64.wrap ((a.len:Int)+1)) (IntKind.i64.wrap ((a.len:Int)+1)) 4 [.int .u32 0] (fun m1 h1=>
 (loopP (S:=Int×Unit) (fun s2 k3 h2=>
 (ifP (decide (s2.1<(a.len:Int)))
 (idxP a s2.1 1 fun a4=>
 (ldL (.int .u32) a4 (fun x5=>
 (0≤(s:Int) ∧
 (idxP m1 s2.1 1 fun a6=>
 (ldL (.int .u32) a6 (fun x7=>
 (idxP m1 s2.1 1 fun a8=>
 (stP a8 [.int .u32 (ibits .or .u32 x7 (IntKind.u32.wrap ((IntKind.u64.wrap ((IntKind.u64.wrap (x5))*2 ^ (min (s:Int).toNat IntKind.u64.bits))))))] (fun h3=>
 (0≤(32:Int) ∧
 (idxP m1 (IntKind.i64.wrap (s2.1+1)) 1 fun a9=>
 (stP a9 [.int .u32 (IntKind.u32.wrap (((IntKind.u64.wrap ((IntKind.u64.wrap (x5))*2 ^ (min (s:Int).toNat IntKind.u64.bits))):Int).fdiv (2 ^ (min (32:Int).toNat IntKind.u64.bits))))] (fun h4=>
 (k3 ((IntKind.i64.wrap (s2.1+1)),()) h4)) h3)))) h2))) h2)))) h2))
 (K m1 h2)))
 (0,()) h1)) h)
def zlb (x:Sl) (y:Sl) (K:(Int×Sl)→Hp→Prop) (h:Hp):Prop:=
 (idxP x (y.len:Int) 1 fun a1=>
 (ldL (.int .u32) a1 (fun x2=>
 (0≤(32:Int) ∧
 (idxP x (IntKind.i64.wrap ((y.len:Int)-1)) 1 fun a3=>
 (ldL (.int .u32) a3 (fun x4=>
 (idxP y (IntKind.i64.wrap ((y.len:Int)-1)) 1 fun a5=>
 (ldL (.int .u32) a5 (fun x6=>
 (((IntKind.u64.wrap (x6)):Int)≠0 ∧
 (joinP (S:=Int×Unit) (fun s7 h1=>
 (newP [.int .u32 (IntKind.u32.wrap (s7.1))] (fun p9 h2=>
 (callP (zg6 y (⟨some p9,1,1⟩:Sl)) (fun r10 h3=>
 (loopP (S:=Int×Sl×Unit) (fun s11 k12 h4=>
 (callP (zbc x) (fun r13 h5=>
 (callP (zds r13 s11.2.1) (fun r14 h6=>
 (ifP (decide (r14<0))
 (callP (ze6 s11.2.1 y) (fun r15 h7=>
 (k12 ((IntKind.u64.wrap (s11.1-1)),r15,()) h7)) h6)
 (K ((IntKind.u32.wrap (s11.1)),s11.2.1) h6))) h5)) h4))
 (s7.1,r10,()) h3)) h2)) h1))
 (fun k8=>
 (ifP (decide ((IntKind.u64.wrap (((ibits .or .u64 (IntKind.u64.wrap ((IntKind.u64.wrap (x2))*2 ^ (min (32:Int).toNat IntKind.u64.bits))) (IntKind.u64.wrap (x4))):Int).tdiv (IntKind.u64.wrap (x6))))>4294967295))
 (k8 (4294967295,()) h)
 (k8 ((IntKind.u64.wrap (((ibits .or .u64 (IntKind.u64.wrap ((IntKind.u64.wrap (x2))*2 ^ (min (32:Int).toNat IntKind.u64.bits))) (IntKind.u64.wrap (x4))):Int).tdiv (IntKind.u64.wrap (x6)))),()) h)))))) h))) h)))) h))
def zmf (a:Sl) (s:Int) (K:Sl→Hp→Prop) (h:Hp):Prop:=
 (mkP (a.len:Int) (a.len:Int) 4 [.int .u32 0] (fun m1 h1=>
 (loopP (S:=Int×Unit) (fun s2 k3 h2=>
 (ifP (decide (s2.1<(a.len:Int)))
 (idxP a s2.1 1 fun a4=>
 (ldL (.int .u32) a4 (fun x5=>
 (joinP (S:=Int×Unit) (fun s6 h3=>
 (0≤(s:Int) ∧
 (idxP m1 s2.1 1 fun a8=>
 (stP a8 [.int .u32 (IntKind.u32.wrap ((s6.1:Int).fdiv (2 ^ (min (s:Int).toNat IntKind.u64.bits))))] (fun h4=>
 (k3 ((IntKind.i64.wrap (s2.1+1)),()) h4)) h3))))
 (fun k7=>
 (ifP (decide ((IntKind.i64.wrap (s2.1+1))<(a.len:Int)))
 (idxP a (IntKind.i64.wrap (s2.1+1)) 1 fun a9=>
 (ldL (.int .u32) a9 (fun x10=>
 (0≤(32:Int) ∧
 (k7 (ibits .or .u64 (IntKind.u64.wrap (x5)) (IntKind.u64.wrap ((IntKind.u64.wrap (x10))*2 ^ (min (32:Int).toNat IntKind.u64.bits))),()) h2))) h2))
 (k7 ((IntKind.u64.wrap (x5)),()) h2))))) h2))
 (callP (zbc m1) (fun r11 h5=>
 (K r11 h5)) h2)))
 (0,()) h1)) h)
def zgf (a:Sl) (b:Sl) (K:(Sl×Sl)→Hp→Prop) (h:Hp):Prop:=
 (callP (zds a b) (fun r1 h1=>
 (ifP (decide (r1<0))
 (K (nilS,a) h1)
 (ifP (decide ((a.len:Int)≤2))
 (callP (zhi a) (fun r2 h2=>
 (callP (zhi b) (fun r3 h3=>
 ((r3:Int)≠0 ∧
 ((r3:Int)≠0 ∧
 (callP (ze7 (IntKind.u64.wrap ((r2:Int).tdiv r3))) (fun r4 h4=>
 (callP (ze7 ((r2:Int).tmod r3)) (fun r5 h5=>
 (K (r4,r5) h5)) h4)) h3)))) h2)) h1)
 (ifP ((b.len:Int)==1)
 (idxP b 0 1 fun a6=>
 (ldL (.int .u32) a6 (fun x7=>
 (callP (zn6 a x7) (fun r8 h6=>
 (callP (ze7 (IntKind.u64.wrap (r8.2))) (fun r9 h7=>
 (K (r8.1,r9) h7)) h6)) h1)) h1))
 (callP (zia b) (fun r10 h8=>
 (callP (zjc a (IntKind.i64.wrap ((IntKind.i64.wrap (32*(b.len:Int)))-r10))) (fun r11 h9=>
 (callP (zjc b (IntKind.i64.wrap ((IntKind.i64.wrap (32*(b.len:Int)))-r10))) (fun r12 h10=>
 (callP (zbc r12) (fun r13 h11=>
 (mkP (a.len:Int) (a.len:Int) 4 [.int .u32 0] (fun m14 h12=>
 (loopP (S:=Int×Unit) (fun s15 k16 h13=>
 (ifP (decide (s15.1≥0))
 (slP r11 s15.1 (IntKind.i64.wrap ((IntKind.i64.wrap (s15.1+(r13.len:Int)))+1)) 1 fun c17=>
 (callP (zlb c17 r13) (fun r18 h14=>
 (idxP m14 s15.1 1 fun a19=>
 (stP a19 [.int .u32 r18.1] (fun h15=>
 (callP (zbc c17) (fun r20 h16=>
 (callP (ze6 r20 r18.2) (fun r21 h17=>
 (loopP (S:=Int×Unit) (fun s22 k23 h18=>
 (ifP (decide (s22.1<(c17.len:Int)))
 (joinP (S:=Unit) (fun s24 h19=>
 (k23 ((IntKind.i64.wrap (s22.1+1)),()) h19))
 (fun k25=>
 (idxP c17 s22.1 1 fun a26=>
 (stP a26 [.int .u32 0] (fun h20=>
 (ifP (decide (s22.1<(r21.len:Int)))
 (idxP r21 s22.1 1 fun a27=>
 (ldL (.int .u32) a27 (fun x28=>
 (idxP c17 s22.1 1 fun a29=>
 (stP a29 [.int .u32 x28] (fun h21=>
 (k25 () h21)) h20))) h20))
 (k25 () h20))) h18))))
 (k16 ((IntKind.i64.wrap (s15.1-1)),()) h18)))
 (0,()) h17)) h16)) h15)) h14))) h13))
 (callP (zbc m14) (fun r30 h22=>
 (callP (zbc r11) (fun r31 h23=>
 (callP (zmf r31 (IntKind.i64.wrap ((IntKind.i64.wrap (32*(b.len:Int)))-r10))) (fun r32 h24=>
 (K (r30,r32) h24)) h23)) h22)) h13)))
 ((IntKind.i64.wrap ((a.len:Int)-(r13.len:Int))),()) h12)) h11)) h10)) h9)) h8)) h1))))) h)
def zi8 (a:TInt) (b:TInt) (K:TInt→Hp→Prop) (h:Hp):Prop:=
 (callP (zbc a.mag) (fun r1 h1=>
 (callP (zbc b.mag) (fun r2 h2=>
 (loopP (S:=Sl×Sl×Unit) (fun s3 k4 h3=>
 (ifP (decide ((s3.2.1.len:Int)>0))
 (callP (zgf s3.1 s3.2.1) (fun r5 h4=>
 (k4 (s3.2.1,r5.2,()) h4)) h3)
 (callP (zby false s3.1) (fun r6 h5=>
 (K r6 h5)) h3)))
 (r1,r2,()) h2)) h1)) h)
def zjr (a:TInt) (K:Bool→Hp→Prop) (h:Hp):Prop:=
 (ifP ((a.mag.len:Int)==1)
 (idxP a.mag 0 1 fun a1=>
 (ldL (.int .u32) a1 (fun x2=>
 (ifP (x2==1)
 (K (!a.neg) h)
 (K false h))) h))
 (K false h))
def zey (n:Int) (K:TInt→Hp→Prop) (h:Hp):Prop:=
 (ifP (decide (n<0))
 (callP (ze7 (IntKind.u64.wrap (0-(IntKind.u64.wrap (n))))) (fun r1 h1=>
 (callP (zby true r1) (fun r2 h2=>
 (K r2 h2)) h1)) h)
 (callP (ze7 (IntKind.u64.wrap (n))) (fun r3 h3=>
 (callP (zby false r3) (fun r4 h4=>
 (K r4 h4)) h3)) h))
def zk8 (a:TInt) (b:TInt) (K:(TInt×TInt×Int)→Hp→Prop) (h:Hp):Prop:=
 (callP (zd3 a) (fun r1 h1=>
 (callP (zd3 b) (fun r2 h2=>
 (ifP ((r2.mag.len:Int)==0)
 (K ((⟨false,nilS⟩:TInt),(⟨false,nilS⟩:TInt),6) h2)
 (callP (zgf r1.mag r2.mag) (fun r3 h3=>
 (callP (zby (!(r1.neg==r2.neg)) r3.1) (fun r4 h4=>
 (callP (zi9 r4 r2) (fun r5 h5=>
 (callP (zlx r1 r5) (fun r6 h6=>
 (joinP (S:=(Bool×Sl×Unit)×(Bool×Sl×Unit)×Unit) (fun s7 h7=>
 (K ((⟨s7.1.1,s7.1.2.1⟩:TInt),(⟨s7.2.1.1,s7.2.1.2.1⟩:TInt),0) h7))
 (fun k8=>
 (callP (zfy r6) (fun r9 h8=>
 (callP (zfy r2) (fun r10 h9=>
 (ifP (decide ((IntKind.i64.wrap (r9*r10))<0))
 (callP (zey 1) (fun r11 h10=>
 (callP (zlx r4 r11) (fun r12 h11=>
 (callP (zlw r6 r2) (fun r13 h12=>
 (k8 ((r12.neg,r12.mag,()),(r13.neg,r13.mag,()),()) h12)) h11)) h10)) h9)
 (k8 ((r4.neg,r4.mag,()),(r6.neg,r6.mag,()),()) h9))) h8)) h6)))) h5)) h4)) h3)) h2))) h1)) h)
def zib (a:TInt) (b:TInt) (K:TInt→Hp→Prop) (h:Hp):Prop:=
 (callP (zk8 a b) (fun r1 h1=>
 (K (⟨r1.1.neg,r1.1.mag⟩:TInt) h1)) h)
def zd4 (n:Int) (K:TRat→Hp→Prop) (h:Hp):Prop:=
 (callP (zey n) (fun r1 h1=>
 (callP (zey 1) (fun r2 h2=>
 (K (⟨r1,r2⟩:TRat) h2)) h1)) h)
def znx (a:TRat) (b:TRat) (K:TRat→Hp→Prop) (h:Hp):Prop:=
 (joinP (S:=(Bool×Sl×Bool×Sl×Unit)×Unit) (fun s1 h1=>
 (joinP (S:=(Bool×Sl×Bool×Sl×Unit)×Unit) (fun s3 h2=>
 (callP (zi8 a.num b.den) (fun r5 h3=>
 (callP (zi8 b.num a.den) (fun r6 h4=>
 (callP (zib a.num r5) (fun r7 h5=>
 (callP (zib b.num r6) (fun r8 h6=>
 (callP (zi9 r7 r8) (fun r9 h7=>
 (callP (zib a.den r6) (fun r10 h8=>
 (callP (zib b.den r5) (fun r11 h9=>
 (callP (zi9 r10 r11) (fun r12 h10=>
 (K (⟨r9,r12⟩:TRat) h10)) h9)) h8)) h7)) h6)) h5)) h4)) h3)) h2))
 (fun k4=>
 (callP (zjr a.den) (fun r13 h11=>
 (ifP r13
 (callP (zjr b.den) (fun r14 h12=>
 (ifP r14
 (callP (zi9 a.num b.num) (fun r15 h13=>
 (K (⟨r15,a.den⟩:TRat) h13)) h12)
 (k4 ((s1.1.1,s1.1.2.1,s1.1.2.2.1,s1.1.2.2.2.1,()),()) h12))) h11)
 (k4 ((s1.1.1,s1.1.2.1,s1.1.2.2.1,s1.1.2.2.2.1,()),()) h11))) h1))))
 (fun k2=>
 (ifP ((a.num.mag.len:Int)==0)
 (callP (zd4 0) (fun r16 h14=>
 (K r16 h14)) h)
 (ifP ((b.num.mag.len:Int)==0)
 (callP (zd4 0) (fun r17 h15=>
 (K r17 h15)) h)
 (k2 ((false,nilS,false,nilS,()),()) h)))))
def zir (a:TRat) (K:Int→Hp→Prop) (h:Hp):Prop:=
 (callP (zfy a.num) (fun r1 h1=>
 (K r1 h1)) h)
def zj1 (a:TInt) (K:Bool→Hp→Prop) (h:Hp):Prop:=
 (callP (zbc a.mag) (fun r1 h1=>
 (ifP ((r1.len:Int)==(a.mag.len:Int))
 (ifP (!a.neg)
 (K true h1)
 (K (decide ((a.mag.len:Int)>0)) h1))
 (K false h1))) h)
def ze8 (a:TRat) (K:Bool→Hp→Prop) (h:Hp):Prop:=
 (callP (zj1 a.num) (fun r1 h1=>
 (ifP r1
 (callP (zj1 a.den) (fun r2 h2=>
 (ifP r2
 (callP (zfy a.den) (fun r3 h3=>
 (ifP (decide (r3>0))
 (callP (zi8 a.num a.den) (fun r4 h4=>
 (callP (zjr r4) (fun r5 h5=>
 (K r5 h5)) h4)) h3)
 (K false h3))) h2)
 (K false h2))) h1)
 (K false h1))) h)
def zjq (a:TRat) (limbs:Int) (K:Bool→Hp→Prop) (h:Hp):Prop:=
 (ifP (decide ((a.num.mag.len:Int)≤limbs))
 (ifP (decide ((a.den.mag.len:Int)≤limbs))
 (callP (ze8 a) (fun r1 h1=>
 (K r1 h1)) h)
 (K false h))
 (K false h))
def zh6 (a:TInt) (K:Bool→Hp→Prop) (h:Hp):Prop:=
 (ifP ((a.mag.len:Int)==0)
 (ifP (!a.neg)
 (K true h)
 (ifP (decide ((a.mag.len:Int)>0))
 (idxP a.mag (IntKind.i64.wrap ((a.mag.len:Int)-1)) 1 fun a1=>
 (ldL (.int .u32) a1 (fun x2=>
 (K (x2 != 0) h)) h))
 (K false h)))
 (ifP (decide ((a.mag.len:Int)>0))
 (idxP a.mag (IntKind.i64.wrap ((a.mag.len:Int)-1)) 1 fun a3=>
 (ldL (.int .u32) a3 (fun x4=>
 (K (x4 != 0) h)) h))
 (K false h)))
def zda (a:TRat) (K:Bool→Hp→Prop) (h:Hp):Prop:=
 (callP (zh6 a.num) (fun r1 h1=>
 (ifP r1
 (callP (zh6 a.den) (fun r2 h2=>
 (ifP r2
 (callP (zeh a.den) (fun r3 h3=>
 (ifP (decide (r3>0))
 (callP (zhe a.num a.den) (fun r4 h4=>
 (callP (ze1 r4) (fun r5 h5=>
 (K r5 h5)) h4)) h3)
 (K false h3))) h2)
 (K false h2))) h1)
 (K false h1))) h)
end F
end Den
end

section
set_option maxRecDepth 10000
namespace Den
open Go
namespace F
def zge (c:Int) (K:Bool→Hp→Prop) (h:Hp):Prop:=
 (ifP (decide (c≥97))
 (ifP (decide (c≤122))
 (K true h)
 (ifP (decide (c≥65))
 (K (decide (c≤90)) h)
 (K false h)))
 (ifP (decide (c≥65))
 (K (decide (c≤90)) h)
 (K false h)))
def zh9 (c:Int) (K:Bool→Hp→Prop) (h:Hp):Prop:=
 (ifP (decide (c≥48))
 (K (decide (c≤57)) h)
 (K false h))
def zjx (c:Int) (K:Bool→Hp→Prop) (h:Hp):Prop:=
 (callP (zge c) (fun r1 h1=>
 (ifP r1
 (K true h1)
 (callP (zh9 c) (fun r2 h2=>
 (ifP r2
 (K true h2)
 (K (c==95) h2))) h1))) h)
def zdt (s:ByteArray) (K:Int→Hp→Prop) (h:Hp):Prop:=
 (loopP (S:=Int×Unit) (fun s1 k2 h1=>
 (joinP (S:=Unit) (fun s3 h2=>
 (k2 ((IntKind.i64.wrap (s1.1+1)),()) h2))
 (fun k4=>
 (ifP (decide (s1.1<((s:ByteArray).size:Int)))
 (strIdx s s1.1 fun c5=>
 (callP (zjx c5) (fun r6 h3=>
 (ifP r6
 (k4 () h3)
 (K s1.1 h3))) h1))
 (K s1.1 h1)))))
 (0,()) h)
def zkb (c:Int) (K:Bool→Hp→Prop) (h:Hp):Prop:=
 (ifP (decide (c≥97))
 (ifP (decide (c≤122))
 (K true h)
 (ifP (decide (c≥65))
 (K (decide (c≤90)) h)
 (K false h)))
 (ifP (decide (c≥65))
 (K (decide (c≤90)) h)
 (K false h)))
def zo9 (c:Int) (K:Bool→Hp→Prop) (h:Hp):Prop:=
 (ifP (decide (c≥48))
 (K (decide (c≤57)) h)
 (K false h))
def zmg (s:ByteArray) (at_:Int) (K:Int→Hp→Prop) (h:Hp):Prop:=
 (joinP (S:=Unit) (fun s1 h1=>
 (loopP (S:=Int×Unit) (fun s3 k4 h2=>
 (joinP (S:=Unit) (fun s5 h3=>
 (k4 ((IntKind.i64.wrap (s3.1+1)),()) h3))
 (fun k6=>
 (ifP (decide (s3.1<((s:ByteArray).size:Int)))
 (strIdx s s3.1 fun c7=>
 (callP (zkb c7) (fun r8 h4=>
 (ifP r8
 (k6 () h4)
 (strIdx s s3.1 fun c9=>
 (callP (zo9 c9) (fun r10 h5=>
 (ifP r10
 (k6 () h5)
 (strIdx s s3.1 fun c11=>
 (ifP (c11==95)
 (k6 () h5)
 (K s3.1 h5))))) h4)))) h2))
 (K s3.1 h2)))))
 (at_,()) h1))
 (fun k2=>
 (ifP (at_==((s:ByteArray).size:Int))
 (K at_ h)
 (strIdx s at_ fun c12=>
 (callP (zkb c12) (fun r13 h6=>
 (ifP (!r13)
 (K at_ h6)
 (k2 () h6))) h)))))
def zgd (s:ByteArray) (K:Bool→Hp→Prop) (h:Hp):Prop:=
 (ifP (!((s:ByteArray).toList==(emptyS:ByteArray).toList))
 (ifP (decide (((s:ByteArray).size:Int)≤24))
 (strIdx s 0 fun c1=>
 (callP (zge c1) (fun r2 h1=>
 (ifP r2
 (callP (zdt s) (fun r3 h2=>
 (K (r3==((s:ByteArray).size:Int)) h2)) h1)
 (K false h1))) h))
 (K false h))
 (K false h))
def zgg (s:ByteArray) (K:Bool→Hp→Prop) (h:Hp):Prop:=
 (ifP (!((s:ByteArray).toList==(emptyS:ByteArray).toList))
 (ifP (decide (((s:ByteArray).size:Int)≤24))
 (callP (zmg s 0) (fun r1 h1=>
 (K (r1==((s:ByteArray).size:Int)) h1)) h)
 (K false h))
 (K false h))
def zdb (b:(Option Addr)) (K:Unit→Hp→Prop) (h:Hp):Prop:=
 ∃n bl,b=some ⟨n,0,none⟩∧h n=some bl∧bl.elem=239∧bl.fz=(0,0)∧bl.cells.length=2 ∧
  ((bl.cells[0]?=some (.pointer none)∧K () (h.ins n { bl with cells:=bl.cells.set 0 (.pointer b) }))∨(bl.cells[0]?=some (.pointer b)∧K () h))
def zhu (b:(Option Addr)) (c:Int) (K:Value→Hp→Prop) (h:Hp):Prop:=
 (callM (zdb b) (fun r1 h1=>
 (ptrK b fun p2=>
 (ldL (.sl) (p2.add 1) (fun x3=>
 (appT 5 1 1 [.int .u8 0] x3 1 [.int .u8 c] (fun w4 h2=>
 (ptrK b fun p5=>
 (stP (p5.add 1) [.slice w4.a w4.len w4.cap] (fun h3=>
 (K (.nilIface) h3)) h2))) h1)) h1))) h)
def zeb (b:(Option Addr)) (K:ByteArray→Hp→Prop) (h:Hp):Prop:=
 ∃n bl p,b=some ⟨n,0,none⟩∧h n=some bl∧bl.elem=239∧bl.fz=(0,0) ∧
  ((bl.cells=[p,.slice none 0 0]∧K emptyS h) ∨
   (∃(g c:Nat) (l:List UInt8) (bg:Blk),l≠[]∧bl.cells=[p,.slice (some ⟨g,0,none⟩) l.length c]∧l.length≤c∧h g=some bg∧bg.elem=5∧l.length≤bg.cells.length∧l.length≤140737488355328 ∧
     (∀(j:Nat) (x:UInt8),l[j]?=some x→bg.cells[j]?=some (.int .u8 x.toNat))∧K ⟨l.toArray⟩ (fun k=>if k=g then none else h k)))
def zb1 (b:(Option Addr)) (s:ByteArray) (K:(Int×Value)→Hp→Prop) (h:Hp):Prop:=
 (callM (zdb b) (fun r1 h1=>
 (ptrK b fun p2=>
 (ldL (.sl) (p2.add 1) (fun x3=>
 (appT 5 1 1 [.int .u8 0] x3 ((s:ByteArray).size) (bytesOfS s) (fun w5 h2=>
 (ptrK b fun p6=>
 (stP (p6.add 1) [.slice w5.a w5.len w5.cap] (fun h3=>
 (K (((s:ByteArray).size:Int),.nilIface) h3)) h2))) h1)) h1))) h)
end F
end Den
end
