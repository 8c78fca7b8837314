/-
  Part 2 of the tools and contracts from which the statement is proved.
-/
import Derived.Test.YtnahjnlkpmbhlaaPart1
import Derived.RangeFuncRecord
import Derived.RangeFuncLeaves
import Derived.Laws.Strings
import Derived.ProofKit
import Derived.Lib.Bytealg
import Derived.Test.YtnahjnlkpmbhlaaProg
import Derived.Laws.Externs
import Derived.Lib.Builder
import Derived.Lib.UnsafeStr
import Derived.WalkKit
set_option linter.unusedVariables false
section
namespace Den
open Go
variable {ro : Option Nat} {nn : Nat}

section
variable {C : Cfg} {B : Base}

theorem wantE_wanted {ops : Array Oper} {o : Oper} {e : Env} {h : Hp} {a : Act} {w : World} (hR : Rel C B e h a w) {b : Bool} (hw : wantE C ops o e = some b) :
    Region.wanted o (yielded ops a.tmps) = b := by
  unfold wantE at hw
  cases hg : o.guard with
  | none => rw [hg] at hw; cases hw; exact wanted_true hg
  | some g =>
    obtain ⟨j, want⟩ := g
    rw [hg] at hw
    simp only at hw
    cases hd : (ops[j]?).bind (·.dst) with
    | none => rw [hd] at hw; cases hw
    | some d =>
      rw [hd] at hw
      simp only at hw
      split at hw
      · rename_i t hl hv
        cases hw
        exact wanted_bool hg hd (hR.vals d _ hv)
      · rename_i vs hl hv
        cases hw
        exact wanted_undef hg hd (hR.vals d _ hv)
      · cases hw

theorem step_sound (hC : CfgOK C) {ops : Array Oper} {i : Nat} {o : Oper} {e : Env} {h : Hp} {a : Act} {w : World} {K : Up → Hp → Prop} {Q : Exit → Act → World → Prop}
    (hi : ops[i]? = some o) (hR : Rel C B e h a w) (hk : stepT C ops o e h K) : wpOpIn (wideR ro) nn C.P ops Q i (After C B o e K) a w := by
  unfold wpOpIn
  rw [hi]
  simp only
  unfold stepT at hk
  cases hw : wantE C ops o e with
  | none => rw [hw] at hk; exact hk.elim
  | some b =>
    rw [hw] at hk
    rw [wantE_wanted hR hw]
    cases b with
    | true => simp only [if_true]; exact dcore_sound hC.tab hR hk
    | false => simp only [Bool.false_eq_true, if_false]; exact ⟨fun _ _ => trivial, skipV_after hR hk⟩

theorem reach_listed {ops : Array Oper} {listed : Array Bool} {x : Nat}
    (hdc : ∀ (i : Nat) (o : Oper), ops[i]? = some o → listed.getD i false = true → ∀ e ∈ o.after.toList, Region.binds .any e = true → listed.getD e.on false = true) :
    ∀ {d i : Nat} {o : Oper}, ops[i]? = some o → (∀ e ∈ o.after.toList, Region.binds .any e = true → listed.getD e.on false = true) → reachB ops d x i = true → listed.getD x false = true
  | 0, i, o, _, _, hx => by simp [reachB] at hx
  | d + 1, i, o, hi, ho, hx => by
    unfold reachB at hx
    rw [hi] at hx
    simp only [Bool.or_eq_true, List.any_eq_true, Bool.and_eq_true] at hx
    rcases hx with ⟨e, he, hb, hxe⟩ | ⟨e, he, hb, _, hr⟩
    · rw [← Nat.eq_of_beq_eq_true hxe]; exact ho e he hb
    · cases he' : ops[e.on]? with
      | none =>
        cases d with
        | zero => simp [reachB] at hr
        | succ d => unfold reachB at hr; rw [he'] at hr; cases hr
      | some oe => exact reach_listed hdc he' (fun e2 he2 hb2 => hdc e.on oe he' (ho e he hb) e2 he2 hb2) hr

theorem pairs_of {ops : Array Oper} : ∀ {p r : List Nat} {y : Nat}, pairsOk C ops (p ++ y :: r) = true → (∀ x ∈ p, reachB ops ops.size x y = true ∨ swapOk C ops x y = true) ∧ pairsOk C ops (p ++ r) = true
  | [], r, y, hp => by
    simp only [List.nil_append, pairsOk, Bool.and_eq_true] at hp
    exact ⟨(fun x hx => by cases hx), hp.2⟩
  | z :: p, r, y, hp => by
    simp only [List.cons_append, pairsOk, Bool.and_eq_true, List.all_eq_true] at hp
    obtain ⟨h1, h2⟩ := hp
    obtain ⟨h3, h4⟩ := pairs_of h2
    refine ⟨fun x hx => ?_, ?_⟩
    · rcases List.mem_cons.1 hx with rfl | hx
      · have := h1 y (by simp); rw [Bool.or_eq_true] at this; exact this
      · exact h3 x hx
    · simp only [List.cons_append, pairsOk, Bool.and_eq_true, List.all_eq_true]
      exact ⟨fun q hq => h1 q (by rcases List.mem_append.1 hq with h | h <;> simp [h]), h4⟩

theorem draw_sound (hC : CfgOK C) {ops : Array Oper} {K : Env → Hp → Prop} {ms : List Nat} {e0 : Env} {Q : Exit → Act → World → Prop}
    (hms : ∀ (i : Nat) (o : Oper), ops[i]? = some o → ∀ d ∈ modsO C o, d ∈ ms) (hQ : ∀ x a w, Behind C B ms e0 K x a w → Q x a w)
    (hback : ∀ (i : Nat) (o : Oper), ops[i]? = some o → ∀ e ∈ o.after.toList, Region.binds .any e = true → e.on < i) :
    ∀ (fuel : Nat) (c : List Nat) (listed : Array Bool) (e : Env) (h : Hp) (a : Act) (w : World), c.length ≤ fuel → listed.size = ops.size → c.Nodup →
      (∀ i, i < ops.size → (listed.getD i false = false ↔ i ∈ c)) → (∀ i ∈ c, i < ops.size) →
      (∀ (i : Nat) (o : Oper), ops[i]? = some o → listed.getD i false = true → ∀ e ∈ o.after.toList, Region.binds .any e = true → listed.getD e.on false = true) →
      pairsOk C ops c = true → (∀ t, t ∉ ms → keep (e0 t) (e t)) → dops C ops K c e h → Rel C B e h a w → wpAnyIn (wideR ro) nn C.P .any ops Q fuel listed a w := by
  -- an operation that isn't listed and has no unlisted edge is ready
  have least : ∀ (c : List Nat) (listed : Array Bool), listed.size = ops.size → (∀ i, i < ops.size → (listed.getD i false = false ↔ i ∈ c)) → (∀ i ∈ c, i < ops.size) → c ≠ [] →
      Region.ready .any ops listed ≠ [] := by
    intro c listed hsz hiff hlt hne
    have : ∀ n, ∀ i ∈ c, i ≤ n → ∃ j ∈ c, ∀ k ∈ c, j ≤ k := by
      intro n
      induction n with
      | zero => intro i hi hn; exact ⟨i, hi, fun k _ => by omega⟩
      | succ n ih =>
        intro i hi hn
        by_cases hex : ∃ k ∈ c, k ≤ n
        · obtain ⟨k, hk, hkn⟩ := hex; exact ih k hk hkn
        · exact ⟨i, hi, fun k hk => by
            by_cases hkn : k ≤ n
            · exact absurd ⟨k, hk, hkn⟩ hex
            · omega⟩
    obtain ⟨i0, r0, hc⟩ : ∃ i r, c = i :: r := by cases c with | nil => exact absurd rfl hne | cons i r => exact ⟨i, r, rfl⟩
    obtain ⟨j, hj, hmin⟩ := this i0 i0 (by rw [hc]; simp) (Nat.le_refl _)
    have hjs := hlt j hj
    have hready : j ∈ Region.ready .any ops listed := by
      unfold Region.ready
      rw [List.mem_filter]
      refine ⟨List.mem_range.2 hjs, ?_⟩
      have hl := (hiff j hjs).2 hj
      have h1 : listed.getD j true = false := by
        rw [Array.getD_eq_getD_getElem?] at hl ⊢
        rw [Array.getElem?_eq_getElem (by omega)] at hl ⊢
        exact hl
      rw [h1]
      simp only [Bool.not_false, Bool.true_and]
      rw [Array.getElem?_eq_getElem hjs]
      simp only [Option.map_some, Option.getD_some]
      rw [Array.all_eq_true']
      intro e he
      rw [Bool.or_eq_true]
      cases hbe : Region.binds .any e with
      | false => left; rfl
      | true =>
      right
      have hlt' := hback j _ (Array.getElem?_eq_getElem hjs) e (by simpa using he) hbe
      cases hg : listed.getD e.on false with
      | true => rfl
      | false => have := hmin _ ((hiff e.on (by omega)).1 hg); omega
    intro hnil; rw [hnil] at hready; cases hready
  intro fuel
  induction fuel with
  | zero =>
    intro c listed e h a w hf hsz hnd hiff hlt hdc hp hkeep hk hR
    have hcn : c = [] := List.eq_nil_of_length_eq_zero (by omega)
    subst hcn
    refine ⟨?_, hQ _ _ _ ⟨rfl, e, h, hk, hR, hkeep⟩⟩
    unfold Region.ready
    rw [List.filter_eq_nil_iff]
    intro i hi
    have his := List.mem_range.1 hi
    have hl : listed.getD i false = true := by
      cases hg : listed.getD i false with
      | true => rfl
      | false => exact absurd ((hiff i his).1 hg) (by simp)
    have h1 : listed.getD i true = true := by
      rw [Array.getD_eq_getD_getElem?] at hl ⊢
      rw [Array.getElem?_eq_getElem (by omega)] at hl ⊢
      exact hl
    rw [h1]; simp
  | succ fuel ih =>
    intro c listed e h a w hf hsz hnd hiff hlt hdc hp hkeep hk hR
    refine ⟨fun hnil => ?_, fun i hi => ?_⟩
    · by_cases hcn : c = []
      · subst hcn; exact hQ _ _ _ ⟨rfl, e, h, hk, hR, hkeep⟩
      · exact absurd hnil (least c listed hsz hiff hlt hcn)
    · unfold Region.ready at hi
      rw [List.mem_filter] at hi
      obtain ⟨hi1, hi2⟩ := hi
      have his := List.mem_range.1 hi1
      rw [Bool.and_eq_true] at hi2
      obtain ⟨hi3, hi4⟩ := hi2
      have hl : listed.getD i false = false := by
        rw [Array.getD_eq_getD_getElem?] at hi3 ⊢
        rw [Array.getElem?_eq_getElem (by omega)] at hi3 ⊢
        simpa using hi3
      have hic := (hiff i his).1 hl
      obtain ⟨p, r, rfl⟩ := List.append_of_mem hic
      obtain ⟨o, ho⟩ : ∃ o, ops[i]? = some o := ⟨_, Array.getElem?_eq_getElem his⟩
      rw [ho] at hi4
      simp only [Option.map_some, Option.getD_some] at hi4
      have hedges : ∀ e ∈ o.after.toList, Region.binds .any e = true → listed.getD e.on false = true := fun e he hb => by
        have := (Array.all_eq_true'.1 hi4) e (by simpa using he)
        rw [hb] at this; simpa using this
      obtain ⟨hpo, hpr⟩ := pairs_of hp
      have hswap : ∀ x ∈ p, swapOk C ops x i = true := fun x hx => by
        rcases hpo x hx with h1 | h1
        · have h2 := reach_listed hdc ho hedges h1
          have hxs := hlt x (by simp [hx])
          have h3 := (hiff x hxs).2 (by simp [hx])
          rw [h2] at h3; cases h3
        · exact h1
      have hb := dops_bubble hC hR.sub.fin hswap hk
      rw [dops_cons ho] at hb
      refine wpOpIn_mono ?_ (step_sound hC ho hR hb)
      rintro a' w' ⟨u, h', hk', hR', hd'⟩
      have hnd' : (p ++ r).Nodup ∧ i ∉ p ++ r := by
        rw [List.nodup_append] at hnd
        obtain ⟨n1, n2, n3⟩ := hnd
        rw [List.nodup_cons] at n2
        refine ⟨List.nodup_append.2 ⟨n1, n2.2, fun a ha b hb => n3 a ha b (by simp [hb])⟩, fun hm => ?_⟩
        rcases List.mem_append.1 hm with hm | hm
        · exact n3 i hm i (by simp) rfl
        · exact n2.1 hm
      have hset : ∀ j, j < ops.size → (listed.setIfInBounds i true).getD j false = if j = i then true else listed.getD j false := fun j hj => by
        simp only [Array.getD_eq_getD_getElem?, Array.getElem?_setIfInBounds]
        by_cases hji : j = i
        · subst hji; simp [show j < listed.size by omega]
        · simp [Ne.symm hji, hji]
      refine ih (p ++ r) (listed.setIfInBounds i true) (e.upd C.rt u) h' a' w' ?_ (by simpa using hsz) hnd'.1 ?_ ?_ ?_ hpr ?_ hk' hR'
      · simp at hf ⊢; omega
      · intro j hj
        rw [hset j hj]
        by_cases hji : j = i
        · subst hji; simp only [if_true]; exact ⟨(fun hh => by cases hh), fun hh => absurd hh hnd'.2⟩
        · rw [if_neg hji, hiff j hj]
          simp only [List.mem_append, List.mem_cons]
          constructor
          · rintro (h1 | h1 | h1)
            · exact .inl h1
            · exact absurd h1 hji
            · exact .inr h1
          · rintro (h1 | h1)
            · exact .inl h1
            · exact .inr (.inr h1)
      · intro j hj
        exact hlt j (by rcases List.mem_append.1 hj with h1 | h1 <;> simp [h1])
      · intro j oj hoj hlj ed hed hbd
        have hjs : j < ops.size := by
          rcases Nat.lt_or_ge j ops.size with h1 | h1
          · exact h1
          · rw [Array.getElem?_eq_none h1] at hoj; cases hoj
        have hes : ed.on < ops.size := by have := hback j oj hoj ed hed hbd; omega
        rw [hset _ hes]
        by_cases hei : ed.on = i
        · simp [hei]
        · rw [if_neg hei]
          rw [hset j hjs] at hlj
          by_cases hji : j = i
          · subst hji
            rw [ho] at hoj; cases hoj
            exact hedges ed hed hbd
          · rw [if_neg hji] at hlj
            exact hdc j oj hoj hlj ed hed hbd
      · intro t ht
        exact (hkeep t ht).trans (keep_upd fun d hd hh => ht (by rw [hh]; exact hms i o ho d (hd' d hd)))

end
end Den
end

section
namespace Den
open Go
variable {F : Fence} {n : Nat} {P : Program} {ops : Array Oper} {Q : Exit → Act → World → Prop}

/-- A goal, and beside it: off the slots ts nothing has changed since a0. -/
def keepQ (ts : List Nat) (a0 : Act) (Q : Exit → Act → World → Prop) : Exit → Act → World → Prop := fun e a' w' =>
  Q e a' w' ∧ (e = .normal → ∀ t, t ∉ ts → a'.tmps[t]? = a0.tmps[t]?)

theorem put_tmps {a : Act} {dst : Option Nat} {v : Value} {ts : List Nat} (hd : ∀ d, dst = some d → d ∈ ts) : ∀ t, t ∉ ts → (a.put dst v).tmps[t]? = a.tmps[t]? := fun t ht => by
  cases dst with
  | none => rfl
  | some d => exact put_ne (fun hh => ht (by rw [hh]; exact hd d rfl))

theorem oper_keep {o : Oper} {a a0 : Act} {w : World} {K : Act → World → Prop} {ts : List Nat} (hd : ∀ d, o.dst = some d → d ∈ ts)
    (hh : o.wpIn F n P a w K Q) : o.wpIn F n P a w (fun a' w' => K a' w' ∧ ∀ t, t ∉ ts → a'.tmps[t]? = a.tmps[t]?) (keepQ ts a0 Q) := by
  unfold Oper.wpIn at *
  refine ⟨hh.1, ?_⟩
  have hh := hh.2
  have hlet : LetsOut Q → LetsOut (keepQ ts a0 Q) := fun ⟨x, y, hxy⟩ => ⟨x, y, hxy, fun he => by cases he⟩
  generalize (o.semAt F.round a.eval).run P w = r at *
  cases r with
  | ok x w' =>
    cases x <;> simp only [Oper.uponIn] at hh ⊢ <;>
      first
        | exact ⟨hh, put_tmps hd⟩
        | exact ⟨hh.1, CallsIn.mono hh.2 (fun e w'' he => by cases e <;> first | exact ⟨he, put_tmps hd⟩ | exact ⟨he, fun hx => by cases hx⟩ | exact hlet he)⟩
        | exact ⟨hh.1, RowsIn.mono hh.2 (fun _ _ he => ⟨he, put_tmps hd⟩)⟩
        | exact ⟨hh.1, RoundIn.mono hh.2 (fun e w'' he => by cases e <;> first | exact ⟨he, put_tmps hd⟩ | exact ⟨he, fun hx => by cases hx⟩ | exact hlet he)⟩
  | halt x w' => cases x <;> simp only [Oper.uponIn] at hh ⊢ <;> first | exact hh | exact ⟨hh, fun hx => by cases hx⟩

theorem wpOpIn_keep {i : Nat} {a a0 : Act} {w : World} {K : Act → World → Prop} {ts : List Nat} (hd : ∀ (i : Nat) (o : Oper), ops[i]? = some o → ∀ d, o.dst = some d → d ∈ ts)
    (hh : wpOpIn F n P ops Q i K a w) : wpOpIn F n P ops (keepQ ts a0 Q) i (fun a' w' => K a' w' ∧ ∀ t, t ∉ ts → a'.tmps[t]? = a.tmps[t]?) a w := by
  unfold wpOpIn at *
  cases ho : ops[i]? with
  | none => rw [ho] at hh; exact ⟨hh, fun _ _ => rfl⟩
  | some o =>
    rw [ho] at hh
    simp only at hh ⊢
    split
    · rename_i hw; rw [if_pos hw] at hh; exact oper_keep (hd i o ho) hh
    · rename_i hw; rw [if_neg hw] at hh; exact ⟨hh.1, hh.2, put_tmps (hd i o ho)⟩

theorem wpOpsIn_keep {ts : List Nat} (hd : ∀ (i : Nat) (o : Oper), ops[i]? = some o → ∀ d, o.dst = some d → d ∈ ts) :
    ∀ {l : List Nat} {a a0 : Act} {w : World}, (∀ t, t ∉ ts → a.tmps[t]? = a0.tmps[t]?) → wpOpsIn F n P ops Q l a w → wpOpsIn F n P ops (keepQ ts a0 Q) l a w
  | [], a, a0, w, ha, hh => ⟨hh, fun _ => ha⟩
  | i :: r, a, a0, w, ha, hh => by
    rw [wpOpsIn_cons] at hh ⊢
    refine wpOpIn_mono ?_ (wpOpIn_keep (a0 := a0) hd hh)
    rintro a' w' ⟨h1, h2⟩
    exact wpOpsIn_keep hd (fun t ht => (h2 t ht).trans (ha t ht)) h1

theorem wpAnyIn_keep {ts : List Nat} {md : Region.Mode} (hd : ∀ (i : Nat) (o : Oper), ops[i]? = some o → ∀ d, o.dst = some d → d ∈ ts) :
    ∀ {fuel : Nat} {listed : Array Bool} {a a0 : Act} {w : World}, (∀ t, t ∉ ts → a.tmps[t]? = a0.tmps[t]?) → wpAnyIn F n P md ops Q fuel listed a w → wpAnyIn F n P md ops (keepQ ts a0 Q) fuel listed a w
  | 0, listed, a, a0, w, ha, hh => ⟨hh.1, hh.2, fun _ => ha⟩
  | fuel + 1, listed, a, a0, w, ha, hh => by
    refine ⟨fun hr => ⟨hh.1 hr, fun _ => ha⟩, fun i hi => ?_⟩
    refine wpOpIn_mono ?_ (wpOpIn_keep (a0 := a0) hd (hh.2 i hi))
    rintro a' w' ⟨h1, h2⟩
    exact wpAnyIn_keep hd (fun t ht => (h2 t ht).trans (ha t ht)) h1
end Den
end

section
namespace Den
open Go
variable {ro : Option Nat} {nn : Nat}

/-- A loop's rule with a state that stands in no slot. -/
theorem wp_loop_g {P : Program} {Q : Exit → Act → World → Prop} {c : Code} {σ : Type} (I : σ → Act → World → Prop) (μ : σ → Nat)
    (round : ∀ s a w, I s a w → c.wpIn (wideR ro) nn P (Exit.then (fun a' w' => ∃ s', I s' a' w' ∧ μ s' < μ s) Q) a w) {s : σ} {a : Act} {w : World} (h0 : I s a w) : (Code.loop c).wpIn (wideR ro) nn P Q a w := by
  intro b k cs hro hb hr
  have key : ∀ n s a w, μ s = n → I s a w →
      ∃ e a' w', Q e a' w' ∧ ArrivesIn (Machine.fenced P (wideR ro)) P (lone (b.atR a (.code c :: .inLoop c :: k)) cs w) b k cs e a' w' := by
    intro n
    induction n using Nat.strongRecOn with
    | _ n ih =>
      intro s a w hn hI
      obtain ⟨e, a₁, w₁, hq, harr⟩ := round s a w hI b (.inLoop c :: k) cs hro hb hr
      cases e with
      | normal =>
        obtain ⟨s', hI₁, hlt⟩ := hq
        obtain ⟨e₂, a₂, w₂, hq₂, harr₂⟩ := ih (μ s') (hn ▸ hlt) s' a₁ w₁ rfl hI₁
        exact ⟨e₂, a₂, w₂, hq₂, .of_steps (StepsIn.trans harr (.one (fenced_calm hb hr rfl) stepR_inLoop)) harr₂⟩
      | exit id => exact ⟨_, a₁, w₁, hq, .pass (x := .inLoop c) rfl (fun _ _ => .inl (by simp)) harr⟩
      | goto l => exact ⟨_, a₁, w₁, hq, .pass (x := .inLoop c) rfl (fun _ _ => .inl (by simp)) harr⟩
      | ret => exact ⟨_, a₁, w₁, hq, .pass (x := .inLoop c) rfl (fun _ _ => .inl (by simp)) harr⟩
      | panic ch => exact ⟨_, a₁, w₁, hq, .pass (x := .inLoop c) rfl (fun _ _ => .inl (by simp)) harr⟩
      | outgrown => exact ⟨_, a₁, w₁, hq, .pass (x := .inLoop c) rfl (fun _ _ => .inl (by simp)) harr⟩
  obtain ⟨e, a', w', hq, harr⟩ := key _ s a w rfl h0
  exact ⟨e, a', w', hq, .of_steps (.one (fenced_calm hb hr rfl) stepR_loop) harr⟩

section
variable {C : Cfg} {B : Base}

def exM : Ex → Exit → Prop
  | .normal, .normal => True
  | .exit i, .exit j => i = j
  | .ret, .ret => True
  | _, _ => False

def Out (C : Cfg) (B : Base) (ms ts : List Nat) (a0 : Act) (e : Env) (K : Ex → Env → Hp → Prop) : Exit → Act → World → Prop := fun x a' w' =>
  ∃ ex e' h', exM ex x ∧ K ex e' h' ∧ Rel C B e' h' a' w' ∧ (∀ t, t ∉ ms → keep (e t) (e' t)) ∧ ∀ t, t ∉ ts → a'.tmps[t]? = a0.tmps[t]?

/-- What an iterator of slices.Backward does: the rounds, from the last one to the first. -/
def BackFn (P : Program) (gf : Nat) (T : STy) : Prop :=
  (∀ args w, (callFunc gf args).run P w = .ok (.enter gf args) w) ∧
  ∀ (l : Nat) (ab : Addr) (x : Sl) (J : Nat → World → Prop) (w : World), x.len ≤ 140737488355328 → J x.len w →
    (∀ i W, J i W → W.cell? ab = some (.slice x.a x.len x.cap)) →
    (∀ i W, i < x.len → J (i + 1) W → ∃ (ad : Addr) (v : T.T), x.a = some ad ∧ (∀ j u, (T.cells v)[j]? = some u → W.cell? (ad.add (i * T.size + j)) = some u) ∧
      ∃ f tmps asg body, (Instr.yield l #[.int .i64 i, T.val v]).run P W = .ok (.round l f tmps asg body) W ∧ RoundIn Fence.wide 0 P l f tmps asg body W fun e W' => e = .returned (.bool true) ∧ J i W') →
    CallsIn Fence.wide 0 P gf #[.func (.yield l) #[] #[], .pointer (some ab)] w fun e w' => (∃ v, e = .returned v) ∧ J 0 w'

def BackTab (P : Program) : List (Nat × STy) → Prop
  | [] => True
  | (g, T) :: r => BackFn P g T ∧ BackTab P r
theorem BackTab.get {P : Program} : ∀ {l : List (Nat × STy)}, BackTab P l → ∀ g T, lookB g l = some T → BackFn P g T
  | [], _, _, _, h => by cases h
  | (x, y) :: r, hb, g, T, h => by
    unfold lookB at h
    by_cases hg : g = x
    · subst hg; rw [beqT] at h; cases h; exact hb.1
    · rw [beqF hg] at h; exact BackTab.get hb.2 g T h

theorem round_wide {P : Program} {n m : Nat} {l : Nat} {f : FuncId} {tmps : Array Value} {asg body : Code} {w : World} {R : Ending → World → Prop}
    (h : RoundIn Fence.wide n P l f tmps asg body w R) : RoundIn Fence.wide m P l f tmps asg body w R := ⟨h.1, fun c cs _ => h.2 c cs (room_wide _)⟩

theorem LT.dn_iff : ∀ {ls : List Lf} {vs : List Value} {K : LT ls → Prop}, LT.dn ls vs K ↔ ∃ x, vs = LT.up ls x ∧ K x
  | [], [], K => by
    unfold LT.dn
    exact ⟨fun hk => ⟨(), rfl, hk⟩, fun ⟨x, _, hk⟩ => hk⟩
  | [], v :: vs, K => by
    simp only [LT.dn, false_iff]
    rintro ⟨x, hx, _⟩; cases hx
  | l :: r, [], K => by
    simp only [LT.dn, false_iff]
    rintro ⟨x, hx, _⟩; cases hx
  | l :: r, v :: vs, K => by
    unfold LT.dn
    rw [Lf.dn_iff]
    constructor
    · rintro ⟨x, rfl, hk⟩
      rw [LT.dn_iff] at hk
      obtain ⟨y, rfl, hk⟩ := hk
      exact ⟨(x, y), rfl, hk⟩
    · rintro ⟨⟨x, y⟩, hx, hk⟩
      have hx' : v :: vs = l.up x :: LT.up r y := hx
      cases hx'
      exact ⟨x, rfl, LT.dn_iff.2 ⟨y, rfl, hk⟩⟩

theorem STy.dn_iff {s : STy} {sl : Slot} {K : s.T → Prop} : s.dn sl K ↔ ∃ x, sl = s.up x ∧ K x := by
  cases s with
  | leaf l =>
    cases sl with
    | val v =>
      exact (Lf.dn_iff (l := l) (v := v) (K := K)).trans ⟨fun ⟨x, h1, h2⟩ => ⟨x, by rw [h1]; rfl, h2⟩, fun ⟨x, h1, h2⟩ => ⟨x, by cases h1; rfl, h2⟩⟩
    | _ => exact ⟨fun hh => hh.elim, fun ⟨x, hx, _⟩ => by cases hx⟩
  | agg ls =>
    cases sl with
    | val v =>
      cases v with
      | agg cs =>
        refine (LT.dn_iff (ls := ls) (vs := cs.toList) (K := K)).trans ⟨?_, ?_⟩
        · rintro ⟨x, h1, h2⟩
          refine ⟨x, ?_, h2⟩
          show Slot.val (.agg cs) = Slot.val (.agg (LT.up ls x).toArray)
          rw [← h1]
        · rintro ⟨x, h1, h2⟩
          have h1' : Slot.val (.agg cs) = Slot.val (.agg (LT.up ls x).toArray) := h1
          simp only [Slot.val.injEq, Value.agg.injEq] at h1'
          exact ⟨x, by rw [h1'], h2⟩
      | _ => exact ⟨fun hh => hh.elim, fun ⟨x, hx, _⟩ => by cases hx⟩
    | _ => exact ⟨fun hh => hh.elim, fun ⟨x, hx, _⟩ => by cases hx⟩
  | box ls =>
    cases sl with
    | box cs =>
      exact (LT.dn_iff (ls := ls) (vs := cs) (K := K)).trans ⟨fun ⟨x, h1, h2⟩ => ⟨x, by rw [h1]; rfl, h2⟩, fun ⟨x, h1, h2⟩ => ⟨x, by cases h1; rfl, h2⟩⟩
    | _ => exact ⟨fun hh => hh.elim, fun ⟨x, hx, _⟩ => by cases hx⟩

theorem packS_run : ∀ {L : List (Nat × STy)} {e : Env} {K : STup L → Prop}, packS L e K → ∃ s, (∀ t x, unpack L s t = some x → e t = x) ∧ K s
  | [], e, K, hk => ⟨(), (fun t x hx => by cases hx), hk⟩
  | (t, s) :: r, e, K, hk => by
    unfold packS at hk
    obtain ⟨x, hx, hk⟩ := STy.dn_iff.1 hk
    obtain ⟨xs, h1, h2⟩ := packS_run hk
    refine ⟨(x, xs), fun t' y hy => ?_, h2⟩
    have hy' : (bif Nat.beq t' t then some (s.up x) else unpack r xs t') = some y := hy
    by_cases ht : t' = t
    · subst ht; rw [beqT] at hy'; simp only [cond_true, Option.some.injEq] at hy'; rw [← hy']; exact hx
    · rw [beqF ht] at hy'; simp only [cond_false] at hy'; exact h1 t' y hy'

theorem mk_slot {e e' : Env} {ms : List Nat} {L : List (Nat × STy)} {s : STup L} (hs : ∀ t x, unpack L s t = some x → e' t = x) (hk : ∀ t, t ∉ ms → keep (e t) (e' t)) (t : Nat) :
    mkEnv e ms L s t = .junk ∨ (mkEnv e ms L s t = e' t) := by
  unfold mkEnv
  cases hu : unpack L s t with
  | some x => exact .inr (hs t x hu).symm
  | none =>
    simp only
    cases hm : memN t ms with
    | true => exact .inl rfl
    | false =>
      simp only [cond_false]
      have hkt := hk t (fun hh => by rw [memN_iff.2 hh] at hm; cases hm)
      cases he : e t with
      | val v => right; exact (hkt.2 v he).symm
      | box cs => right; have := hkt.1 ⟨by rw [he]; rfl, cs, he⟩; rw [this, he]
      | _ => exact .inl rfl

theorem mk_noref {e e' : Env} {ms : List Nat} {L : List (Nat × STy)} {s : STup L} (t off : Nat) : mkEnv e ms L s t ≠ .ref off := by
  unfold mkEnv
  cases hu : unpack L s t with
  | some x =>
    simp only
    intro hx
    subst hx
    revert hu s
    induction L with
    | nil => intro s hu; cases hu
    | cons p r ih =>
      intro s hu
      obtain ⟨t', sy⟩ := p
      unfold unpack at hu
      by_cases ht : t = t'
      · subst ht; rw [beqT] at hu
        simp only [cond_true, Option.some.injEq] at hu
        cases sy <;> cases hu
      · rw [beqF ht] at hu; exact ih hu
  | none =>
    simp only
    cases hm : memN t ms with
    | true => intro hh; cases hh
    | false =>
      simp only [cond_false]
      cases he : e t <;> intro hh <;> cases hh

theorem Rel.atMk {e e' : Env} {h : Hp} {a : Act} {w : World} (hR : Rel C B e' h a w) {ms : List Nat} {L : List (Nat × STy)} {s : STup L}
    (hs : ∀ t x, unpack L s t = some x → e' t = x) (hk : ∀ t, t ∉ ms → keep (e t) (e' t)) : Rel C B (mkEnv e ms L s) h a w where
  sub := hR.sub
  sz := hR.sz
  defers := hR.defers
  fr := hR.fr
  dom := hR.dom
  vals := fun t v ht => by
    rcases mk_slot hs hk t with h1 | h1
    · rw [h1] at ht; cases ht
    · rw [h1] at ht; exact hR.vals t v ht
  hid := fun t ht => by
    rcases mk_slot hs hk t with h1 | h1
    · rw [h1] at ht; cases ht
    · rw [h1] at ht ⊢; exact hR.hid t ht
  inj := fun t t' b i1 i2 i3 i4 => by
    rcases mk_slot hs hk t with h1 | h1
    · rw [h1] at i1; cases i1
    · rcases mk_slot hs hk t' with h2 | h2
      · rw [h2] at i2; cases i2
      · rw [h1] at i1 i3; rw [h2] at i2 i4; exact hR.inj t t' b i1 i2 i3 i4
  refs := fun t off ht => absurd ht (mk_noref (e' := e') t off)

theorem mk_keep {e e' : Env} {ms : List Nat} {L : List (Nat × STy)} {s : STup L} (hs : ∀ t x, unpack L s t = some x → e' t = x) (hk : ∀ t, t ∉ ms → keep (e t) (e' t)) {t : Nat}
    (ht : t ∉ ms) : keep (e t) (mkEnv e ms L s t) := by
  unfold mkEnv
  cases hu : unpack L s t with
  | some x => simp only; rw [← hs t x hu]; exact hk t ht
  | none =>
    simp only
    have hm : memN t ms = false := by
      cases hm : memN t ms with
      | false => rfl
      | true => exact absurd (memN_iff.1 hm) ht
    rw [hm]
    simp only [cond_false]
    cases he : e t with
    | val v => exact keep.refl _
    | box cs => exact keep.refl _
    | lit cs n => exact ⟨(fun ⟨_, cs', hh⟩ => by cases hh), (fun v hv => by cases hv)⟩
    | ref off => exact ⟨(fun ⟨hh, _⟩ => by cases hh), (fun v hv => by cases hv)⟩
    | junk => exact keep.refl _

open Classical in
noncomputable def rebD (e : Env) (h : Hp) (a : Act) : Hp := fun k =>
  if h k ≠ none ∨ ∃ t, isHid (e t) = true ∧ a.tmps[t]? = some (hidV k (e t)) then some ⟨[], 0, (0, 0)⟩ else none
theorem rebD_none {e : Env} {h : Hp} {a : Act} {k : Nat} (hk : rebD e h a k = none) : h k = none ∧ ∀ t, isHid (e t) = true → a.tmps[t]? = some (hidV k (e t)) → False := by
  unfold rebD at hk
  split at hk
  · cases hk
  · rename_i hh
    refine ⟨Classical.byContradiction fun hx => hh (.inl hx), fun t h1 h2 => hh (.inr ⟨t, h1, h2⟩)⟩
theorem rebD_some {e : Env} {h : Hp} {a : Act} {k : Nat} (hk : h k ≠ none ∨ ∃ t, isHid (e t) = true ∧ a.tmps[t]? = some (hidV k (e t))) : rebD e h a k ≠ none := by
  unfold rebD
  rw [if_pos hk]; simp

theorem Rel.rebase {e : Env} {h : Hp} {a : Act} {w : World} (hR : Rel C B e h a w) : Rel C ⟨rebD e h a, w, 0⟩ e h a w where
  sub := hR.sub
  sz := hR.sz
  defers := hR.defers.mono (Nat.zero_le _) fun _ hr => hr
  fr := Fr.refl _ _
  dom := fun k h1 h2 => absurd (rebD_none h2).1 h1
  vals := hR.vals
  hid := fun t ht => by
    obtain ⟨h1, b, el, h2, h3, h4, _⟩ := hR.hid t ht
    exact ⟨h1, b, el, h2, h3, h4, .inr (rebD_some (.inr ⟨t, ht, h2⟩))⟩
  inj := hR.inj
  refs := hR.refs

section
variable {e0 e1 : Env} {h0 h1 : Hp} {a0 a1 : Act} {w0 w1 : World}

theorem reb_old (hR : Rel C B e0 h0 a0 w0) {k : Nat} (hk : B.D k = none) (hlt : k < B.w.heap.size) : rebD e0 h0 a0 k = none := by
  cases hh : rebD e0 h0 a0 k with
  | none => rfl
  | some b =>
    exfalso
    unfold rebD at hh
    split at hh
    · rename_i hx
      rcases hx with hx | ⟨t, h1, h2⟩
      · have := hR.dom k hx hk; omega
      · obtain ⟨_, b', _, h3, _, _, h5⟩ := hR.hid t h1
        rw [h2] at h3
        have := hidV_inj (Option.some.inj h3)
        subst this
        rcases h5 with h5 | h5
        · omega
        · exact h5 hk
    · cases hh

theorem Rel.unrebase (hR : Rel C B e0 h0 a0 w0) (hR1 : Rel C ⟨rebD e0 h0 a0, w0, 0⟩ e1 h1 a1 w1) {ds : List Deferred} (hd : Marks B.nb w1 ds) : Rel C B e1 h1 { a1 with defers := ds } w1 where
  sub := hR1.sub
  sz := hR1.sz
  defers := hd
  fr := by
    obtain ⟨x1, x2, x3, x4, x5, x6⟩ := hR.fr
    obtain ⟨y1, y2, y3, y4, y5, y6⟩ := hR1.fr
    refine ⟨Nat.le_trans x1 y1, fun k hk hD => ?_, y3.trans x3, y4.trans x4, y5.trans x5, Nat.le_trans x6 y6⟩
    have h3 : k < w0.heap.size := Nat.lt_of_lt_of_le hk x1
    rw [y2 k h3 (reb_old hR hD hk), x2 k hk hD]
  dom := fun k hk hD => by
    rcases Nat.lt_or_ge k B.w.heap.size with hlt | hge
    · have h2 := hR1.dom k hk (reb_old hR hD hlt)
      have h2' : w0.heap.size ≤ k := h2
      have := hR.fr.1; omega
    · exact hge
  vals := hR1.vals
  hid := fun t ht => by
    obtain ⟨g1, b, el, g2, g3, g4, g5⟩ := hR1.hid t ht
    refine ⟨g1, b, el, g2, g3, g4, ?_⟩
    rcases g5 with g5 | g5
    · exact .inl (Nat.le_trans hR.fr.1 g5)
    · rcases Nat.lt_or_ge b B.w.heap.size with hlt | hge
      · exact .inr fun hD => g5 (reb_old hR hD hlt)
      · exact .inl hge
  inj := hR1.inj
  refs := hR1.refs

/-- What is no block of cells stays as it is. -/
theorem reb_obj (hR : Rel C B e0 h0 a0 w0) (hR1 : Rel C ⟨rebD e0 h0 a0, w0, 0⟩ e1 h1 a1 w1) {k : Nat} {o : Obj} (hk : w0.heap[k]? = some o) (ho : ∀ c el f, o ≠ .cells c el f) : w1.heap[k]? = some o := by
  have hlt : k < w0.heap.size := block_lt hk
  have hn : rebD e0 h0 a0 k = none := by
    cases hh : rebD e0 h0 a0 k with
    | none => rfl
    | some b =>
      exfalso
      unfold rebD at hh
      split at hh
      · rename_i hx
        rcases hx with hx | ⟨t, h1, h2⟩
        · cases hb : h0 k with
          | none => exact hx hb
          | some b => rw [hR.sub k b hb] at hk; exact ho _ _ _ (Option.some.inj hk).symm
        · obtain ⟨_, b', _, h3, h4, _, _⟩ := hR.hid t h1
          rw [h2] at h3
          have := hidV_inj (Option.some.inj h3)
          subst this
          rw [h4] at hk; exact ho _ _ _ (Option.some.inj hk).symm
      · cases hh
  rw [hR1.fr.2.1 k hlt hn]; exact hk

theorem Rel.putObj (hR : Rel C B e0 h0 a0 w0) {l : Nat} {r r' : Loop} (hl : B.w.heap.size ≤ l) (hw : w0.heap[l]? = some (.loop r)) : Rel C B e0 h0 a0 (w0.putObj l (Obj.loop r')) := by
  have hne : ∀ (k : Nat) (o : Obj), w0.heap[k]? = some o → (∀ q, o ≠ Obj.loop q) → (w0.putObj l (Obj.loop r')).heap[k]? = some o := fun k o hk ho => by
    rw [World.putObj_heap_other (fun hh => by subst hh; rw [hw] at hk; exact ho r (Option.some.inj hk).symm)]; exact hk
  refine ⟨fun k b hb => hne k _ (hR.sub k b hb) (fun q hq => by cases hq), hR.sz, hR.defers.mono (Nat.le_refl _) (fun k hk => hne k _ hk (fun q hq => by cases hq)), ?_, hR.dom, hR.vals, fun t ht => ?_, hR.inj, hR.refs⟩
  · obtain ⟨x1, x2, x3, x4, x5, x6⟩ := hR.fr
    refine ⟨by rw [World.putObj_size]; exact x1, fun k hk hD => ?_, x3, x4, x5, x6⟩
    rw [World.putObj_heap_other (by omega)]; exact x2 k hk hD
  · obtain ⟨g1, b, el, g2, g3, g4, g5⟩ := hR.hid t ht
    exact ⟨g1, b, el, g2, hne b _ g3 (fun q hq => by cases hq), g4, g5⟩

theorem Rel.allocObj (hR : Rel C B e0 h0 a0 w0) (o : Obj) : Rel C B e0 h0 a0 (w0.alloc o) :=
  hR.step (hR.sub.alloc o) (Fr.alloc h0 w0 o) fun _ h1 h2 => absurd h2 h1

theorem Rel.withDefers (hR : Rel C B e0 h0 a0 w0) {ds : List Deferred} (hd : Marks B.nb w0 ds) : Rel C B e0 h0 { a0 with defers := ds } w0 :=
  ⟨hR.sub, hR.sz, hd, hR.fr, hR.dom, hR.vals, hR.hid, hR.inj, hR.refs⟩
end

/-- Behind a round: the outer activation, the boxes with what they hold now. -/
theorem Rel.roundEnd {e e2 : Env} {h1 h2 : Hp} {a a2 : Act} {w1 w2 : World} {ms : List Nat} {L : List (Nat × STy)} {s s' : STup L} (hJ : Rel C B (mkEnv e ms L s) h1 a w1) (hE : Rel C B e2 h2 a2 w2)
    (hL : ∀ q ∈ L, isBoxT q.2 = true) (hs : ∀ t x, unpack L s' t = some x → e2 t = x) (hk : ∀ t, t ∉ ms → keep (mkEnv e ms L s t) (e2 t))
    (ht : ∀ t, isHid (mkEnv e ms L s t) = true → a2.tmps[t]? = a.tmps[t]?) (hm : Marks B.nb w2 a.defers) : Rel C B (mkEnv e ms L s') h2 a w2 := by
  have hbox : ∀ (L : List (Nat × STy)) (z : STup L), (∀ q ∈ L, isBoxT q.2 = true) → ∀ t y, unpack L z t = some y → ∃ cs, y = .box cs := by
    intro L
    induction L with
    | nil => intro z _ t y hu; cases hu
    | cons p r ih =>
      intro z hb t y hu
      obtain ⟨t', sy⟩ := p
      unfold unpack at hu
      by_cases htt : t = t'
      · subst htt; rw [beqT] at hu
        simp only [cond_true, Option.some.injEq] at hu
        have := hb _ (List.mem_cons_self)
        cases sy with
        | box ls => exact ⟨_, hu.symm⟩
        | _ => cases this
      · rw [beqF htt] at hu; exact ih z.2 (fun q hq => hb q (List.mem_cons_of_mem _ hq)) t y hu
  have hsome : ∀ (L : List (Nat × STy)) (z z' : STup L) t, (∃ y, unpack L z t = some y) → ∃ y, unpack L z' t = some y := by
    intro L
    induction L with
    | nil => intro z z' t ⟨y, hy⟩; cases hy
    | cons p r ih =>
      intro z z' t ⟨y, hy⟩
      obtain ⟨t', sy⟩ := p
      unfold unpack at hy ⊢
      by_cases htt : t = t'
      · subst htt; rw [beqT]; exact ⟨_, rfl⟩
      · rw [beqF htt] at hy ⊢; exact ih z.2 z'.2 t ⟨y, hy⟩
  -- a hidden slot behind the round is one ahead of it, of the same form
  have back : ∀ t, isHid (mkEnv e ms L s' t) = true → ∃ cs cs', mkEnv e ms L s t = .box cs ∧ mkEnv e ms L s' t = .box cs' ∧ e2 t = .box cs' := by
    intro t hh
    unfold mkEnv at hh ⊢
    cases hu : unpack L s' t with
    | some y =>
      obtain ⟨cs', rfl⟩ := hbox L s' hL t y hu
      obtain ⟨y0, hy0⟩ := hsome L s' s t ⟨_, hu⟩
      obtain ⟨cs, rfl⟩ := hbox L s hL t y0 hy0
      rw [hy0]
      exact ⟨cs, cs', rfl, rfl, hs t _ hu⟩
    | none =>
      rw [hu] at hh
      have hu0 : unpack L s t = none := by
        cases hx : unpack L s t with
        | none => rfl
        | some y => obtain ⟨y', hy'⟩ := hsome L s s' t ⟨y, hx⟩; rw [hu] at hy'; cases hy'
      rw [hu0]
      simp only at hh ⊢
      cases hm : memN t ms with
      | true => rw [hm] at hh; cases hh
      | false =>
        rw [hm] at hh
        simp only [cond_false] at hh ⊢
        cases he : e t with
        | box cs =>
          simp only
          refine ⟨cs, cs, rfl, rfl, ?_⟩
          have h1 : mkEnv e ms L s t = .box cs := by unfold mkEnv; rw [hu0]; simp only [hm, cond_false, he]
          have := hk t (fun hx => by rw [memN_iff.2 hx] at hm; cases hm)
          rw [h1] at this
          exact this.1 ⟨rfl, cs, rfl⟩
        | _ => rw [he] at hh; cases hh
  refine ⟨hE.sub, hJ.sz, hm, hE.fr, hE.dom, fun t v hv => ?_, fun t hh => ?_, fun t t' b i1 i2 i3 i4 => ?_, fun t off hh => absurd hh (mk_noref (e' := e2) t off)⟩
  · refine hJ.vals t v ?_
    unfold mkEnv at hv ⊢
    cases hu : unpack L s' t with
    | some y => rw [hu] at hv; obtain ⟨cs, rfl⟩ := hbox L s' hL t y hu; cases hv
    | none =>
      have hu0 : unpack L s t = none := by
        cases hx : unpack L s t with
        | none => rfl
        | some y => obtain ⟨y', hy'⟩ := hsome L s s' t ⟨y, hx⟩; rw [hu] at hy'; cases hy'
      rw [hu] at hv; rw [hu0]; exact hv
  · obtain ⟨cs, cs', c1, c2, c3⟩ := back t hh
    obtain ⟨g1, b, el, g2, g3, g4, g5⟩ := hE.hid t (by rw [c3]; rfl)
    rw [c3] at g2 g3
    rw [ht t (by rw [c1]; rfl)] at g2
    exact ⟨g1, b, el, by rw [c2]; exact g2, by rw [c2]; exact g3, g4, g5⟩
  · obtain ⟨cs, cs', c1, c2, c3⟩ := back t i1
    obtain ⟨ds, ds', d1, d2, d3⟩ := back t' i2
    rw [c2] at i3; rw [d2] at i4
    exact hJ.inj t t' b (by rw [c1]; rfl) (by rw [d1]; rfl) (by rw [c1]; exact i3) (by rw [d1]; exact i4)

theorem backOk_iff {C : Cfg} {L : List (Nat × STy)} {p0 p1 : Nat} {x y : Code} (h : backOk C L p0 p1 x y = true) :
    (∀ q ∈ L, isBoxT q.2 = true ∧ q.1 ∈ modsC C x ++ modsC C y ∧ q.1 ∉ p0 :: p1 :: (dstC x ++ dstC y)) ∧ noRange x = true ∧ noRange y = true ∧ C.loc p0 = false ∧ C.loc p1 = false ∧ p0 < C.n ∧ p1 < C.n ∧ p0 ≠ p1 := by
  unfold backOk at h
  simp only [Bool.and_eq_true, List.all_eq_true, Bool.not_eq_true'] at h
  obtain ⟨⟨⟨⟨⟨⟨⟨h1, h2⟩, h3⟩, h4⟩, h5⟩, h6⟩, h7⟩, h8⟩ := h
  have lt : ∀ {a b : Nat}, Nat.blt a b = true → a < b := fun hh => by unfold Nat.blt at hh; have := Nat.le_of_ble_eq_true hh; omega
  refine ⟨fun q hq => ?_, h2, h3, h4, h5, lt h6, lt h7, fun hh => by rw [hh, beqT] at h8; cases h8⟩
  obtain ⟨⟨⟨g1, g2⟩, g3⟩, g4⟩ := h1 q hq
  exact ⟨g1, memN_iff.1 g2, fun hm => by rw [memN_iff.2 hm] at g3; cases g3⟩

theorem unpack_mem : ∀ {L : List (Nat × STy)} {s : STup L} {t : Nat} {y : Slot}, unpack L s t = some y → ∃ q ∈ L, q.1 = t
  | [], _, _, _, h => by cases h
  | (t', sy) :: r, s, t, y, h => by
    unfold unpack at h
    by_cases htt : t = t'
    · exact ⟨_, List.mem_cons_self, htt.symm⟩
    · rw [beqF htt] at h
      obtain ⟨q, h1, h2⟩ := unpack_mem (s := s.2) h
      exact ⟨q, List.mem_cons_of_mem _ h1, h2⟩

theorem mods_dst {C : Cfg} : ∀ (c : Code) (t : Nat), t ∈ dstC c → t ∈ modsC C c
  | .region _ ops _, t, h => by
    unfold dstC at h; unfold modsC
    rw [List.mem_flatMap] at h ⊢
    obtain ⟨o, h1, h2⟩ := h
    refine ⟨o, h1, List.mem_append_left _ ?_⟩
    unfold modsO
    exact List.mem_append_left _ (List.mem_append_left _ h2)
  | .seq a b, t, h => by
    unfold dstC at h; unfold modsC
    rcases List.mem_append.1 h with h | h
    · exact List.mem_append_left _ (mods_dst a t h)
    · exact List.mem_append_right _ (mods_dst b t h)
  | .cond _ a b, t, h => by
    unfold dstC at h; unfold modsC
    rcases List.mem_append.1 h with h | h
    · exact List.mem_append_left _ (mods_dst a t h)
    · exact List.mem_append_right _ (mods_dst b t h)
  | .block _ a, t, h => mods_dst a t h
  | .loop a, t, h => mods_dst a t h
  | .scope a, t, h => mods_dst a t h
  | .rangeFunc _ _ _ _, t, h => by cases h
  | .skip, t, h => by cases h
  | .exit _, t, h => by cases h
  | .ret, t, h => by cases h
  | .label _, t, h => by cases h
  | .goto _, t, h => by cases h
  | .refuse .., t, h => by cases h

theorem Marks.lt {N : Nat} {w : World} : ∀ {ds : List Deferred}, Marks N w ds → ∀ d ∈ ds, d ≠ { target := .collected w.heap.size, args := #[] }
  | [], _, _, h => by cases h
  | d :: ds, ⟨⟨r, h1, _, h3, _⟩, hm⟩, d', hd => by
    rcases List.mem_cons.1 hd with rfl | hd
    · intro hh
      rw [h1] at hh
      have := block_lt h3
      simp only [Deferred.mk.injEq, Target.collected.injEq, and_true] at hh
      omega
    · exact Marks.lt hm d' hd

/-- A range over slices.Backward. -/
theorem back_sound {nn : Nat} (hBk : BackTab C.P C.backs) (hmk : B.nb ≤ B.w.heap.size) {x y : Code}
    (hx : noRange x = true → ∀ (B : Base) (l : Nat) (an : An) (K : Ex → Env → Hp → Prop) (e : Env) (h : Hp) (a : Act) (w : World), B.nb ≤ B.w.heap.size → den C x an K e h → Rel C B e h a w → x.wpIn (wideR (some l)) nn C.P (Out C B (modsC C x) (dstC x) a e K) a w)
    (hy : noRange y = true → ∀ (B : Base) (l : Nat) (an : An) (K : Ex → Env → Hp → Prop) (e : Env) (h : Hp) (a : Act) (w : World), B.nb ≤ B.w.heap.size → den C y an K e h → Rel C B e h a w → y.wpIn (wideR (some l)) nn C.P (Out C B (modsC C y) (dstC y) a e K) a w)
    {g : Operand} {p0 p1 : Nat} {L : List (Nat × STy)} {b1 b2 : An} {K : Ex → Env → Hp → Prop} {e : Env} {h : Hp} {a : Act} {w : World}
    (hk : den C (.rangeFunc g ⟨[p0, p1]⟩ x y) (.back L b1 b2) K e h) (hR : Rel C B e h a w) :
    (Code.rangeFunc g ⟨[p0, p1]⟩ x y).wpIn (wideR none) nn C.P (Out C B (modsC C (.rangeFunc g ⟨[p0, p1]⟩ x y)) (dstC (.rangeFunc g ⟨[p0, p1]⟩ x y)) a e K) a w := by
  unfold den at hk
  simp only at hk
  cases hok : backOk C L p0 p1 x y with
  | false => rw [hok] at hk; exact hk.elim
  | true =>
    rw [hok] at hk
    simp only at hk
    obtain ⟨hL, nx, ny, lp0, lp1, np0, np1, hp01⟩ := backOk_iff hok
    replace hk := opv_run hR hk
    split at hk
    case h_2 => exact hk.elim
    rename_i gf ad hg
    split at hk
    case h_2 => exact hk.elim
    rename_i T hT
    have hB := hBk.get gf T hT
    obtain ⟨s0, hs0, hbk⟩ := packS_run hk
    obtain ⟨xs, I, hxl, hI0, hIbox, hIround, hIend⟩ := hbk
    obtain ⟨ms, hms⟩ : ∃ ms, ms = [p0, p1] ++ modsC C x ++ modsC C y := ⟨_, rfl⟩
    rw [← hms] at hIround hIend
    have hmsC : modsC C (.rangeFunc g ⟨[p0, p1]⟩ x y) = ms := by rw [hms]; rfl
    rw [hmsC]
    have hk0 : Rel C B (mkEnv e ms L s0) h a w := hR.atMk hs0 (fun _ _ => keep.refl _)
    have hwB : B.w.heap.size ≤ w.heap.size := hR.fr.1
    refine wpIn_rangeFunc fun fn hfn => ?_
    obtain ⟨rec, hrec⟩ : ∃ rec : LoopState → Option Code → Loop, rec = fun st pe => { state := st, pending := pe, fn, tmps := a.tmps, params := ⟨[p0, p1]⟩, assign := x, body := y, defers := w.heap.size } := ⟨_, rfl⟩
    obtain ⟨W1, hW1⟩ : ∃ W1, (w.alloc (.deferred (some []))).alloc (.loop (rec .ready none)) = W1 := ⟨_, rfl⟩
    have hL1 : W1.heap[w.heap.size + 1]? = some (.loop (rec .ready none)) := by
      rw [← hW1]
      have := alloc_new (w := w.alloc (.deferred (some []))) (o := .loop (rec .ready none))
      simpa using this
    have hK1 : W1.heap[w.heap.size]? = some (.deferred (some [])) := by
      rw [← hW1, alloc_old (by simp)]; exact alloc_new
    have hR1 : Rel C B (mkEnv e ms L s0) h a W1 := by rw [← hW1]; exact (hk0.allocObj _).allocObj _
    refine ⟨w.heap.size + 1, [{ target := .collected w.heap.size, args := #[] }], W1, { target := .fn (.func gf) #[.pointer (some ad)], args := #[.func (.yield (w.heap.size + 1)) #[] #[]] }, W1, gf,
      #[.func (.yield (w.heap.size + 1)) #[] #[], .pointer (some ad)], W1, ?_, ?_, ?_, ?_, (fun hh => by cases hh), ?_⟩
    · rw [← hW1, hrec]; exact run_enterLoop_outer _ _ _ _ _
    · have : a.eval g = .func (.func gf) #[] #[.pointer (some ad)] := hg
      simp only [resolve, this]
      simp [go_sem]
    · intro f' hf'; trivial
    · simp [invoke, go_sem, hB.1]
    · refine (callsIn_wide (n := nn - 1)).2 ((callsIn_wide (n := 0)).1 ((hB.2 (w.heap.size + 1) ad xs (fun i W => ∃ s h', I i s h' ∧ Rel C B (mkEnv e ms L s) h' a W ∧ W.heap[w.heap.size + 1]? = some (.loop (rec .ready none)) ∧ W.heap[w.heap.size]? = some (.deferred (some [])))
        W1 hxl ⟨s0, h, hI0, hR1, hL1, hK1⟩ ?_ ?_).mono ?_))
      · rintro i W ⟨s, h', hI, hR', _, _⟩
        exact hR'.sub.cell (hIbox i s h' hI)
      · rintro i W hi ⟨s, h', hI, hR', hl1, hD1⟩
        obtain ⟨ad', v, hxa, hcells, hbody⟩ := hIround i s h' hi hI
        refine ⟨ad', v, hxa, fun j u hj => hR'.sub.cell (hcells j u hj), fn, (a.tmps.setIfInBounds p0 (.int .i64 i)).setIfInBounds p1 (T.val v), x, y, ?_, ?_⟩
        · have := run_yield (P := C.P) (args := #[.int .i64 i, T.val v]) hl1 (by rw [hrec]; rfl)
          rw [hrec] at this
          rw [this]
          simp
        · refine round_wide (n := nn) (roundIn_of_wpIn (F := Fence.wide) trivial ?_)
          have hS : Rel C ⟨rebD (mkEnv e ms L s) h' a, W, 0⟩ (((mkEnv e ms L s).set p0 (.val (.int .i64 i))).set p1 (.val (T.val v))) h'
              { tmps := (a.tmps.setIfInBounds p0 (.int .i64 i)).setIfInBounds p1 (T.val v), defers := [] } W :=
            ((hR'.rebase.withDefers (ds := []) trivial).setVal lp0 np0).setVal lp1 np1
          refine wpIn_mono_den (ro := some (w.heap.size + 1)) ?_ (hx nx _ _ b1 _ _ h' _ W (Nat.zero_le _) hbody hS)
          rintro xx a1 w1 ⟨ex, e1, h1, hm, hK, hRx, hkp1, htk1⟩
          cases xx with
          | normal =>
            cases ex <;> first | (exact hm.elim) | skip
            have notC : ∀ (q : Loop) (c : Array Value) (el : TypeId) (f : Nat × Nat), Obj.loop q ≠ .cells c el f := fun q c el f hh => by cases hh
            have notD : ∀ (q : Option (List Deferred)) (c : Array Value) (el : TypeId) (f : Nat × Nat), Obj.deferred q ≠ .cells c el f := fun q c el f hh => by cases hh
            have hm1 : Marks B.nb w1 a.defers := hR'.defers.mono (Nat.le_refl _) fun r hr => reb_obj hR' hRx hr (notD _)
            have hl2 := reb_obj hR' hRx hl1 (notC _)
            have hD2 := reb_obj hR' hRx hD1 (notD _)
            have hB1 : Rel C B e1 h1 { a1 with defers := a.defers } w1 := hR'.unrebase hRx hm1
            refine ⟨_, run_beginRound hl2 (by rw [hrec]), ?_⟩
            have hB2 := hB1.putObj (r' := { rec .ready none with state := .busy }) (show B.w.heap.size ≤ w.heap.size + 1 by omega) hl2
            have hS2 := hB2.rebase
            have hma1 : Marks 0 (w1.putObj (w.heap.size + 1) (Obj.loop { rec .ready none with state := .busy })) a1.defers := hRx.defers.mono (Nat.le_refl _) fun r hr => by
              rw [World.putObj_heap_other (fun hh => by rw [hh, hl2] at hr; cases hr)]; exact hr
            have hS3 := hS2.withDefers hma1
            refine wpIn_mono_den (ro := some (w.heap.size + 1)) ?_ (hy ny _ _ b2 _ _ h1 a1 _ (Nat.zero_le _) hK hS3)
            rintro xx a2 w2 ⟨ex, e2, h2, hm, hK, hRy, hkp2, htk2⟩
            have hl3 := reb_obj hB2 hRy (World.putObj_heap_same (block_lt hl2)) (notC _)
            have hD3 := reb_obj hB2 hRy ((World.putObj_heap_other (by omega)).trans hD2) (notD _)
            cases xx with
            | normal =>
              cases ex <;> first | (exact hm.elim) | skip
              obtain ⟨s', hs', hI'⟩ := packS_run hK
              have hm2 : Marks B.nb w2 a.defers := hB2.defers.mono (Nat.le_refl _) fun r hr => reb_obj hB2 hRy hr (notD _)
              have hE := hB2.unrebase hRy hm2
              refine ⟨_, _, run_endRound none hl3, rfl, s', h2, hI', ?_, ?_, ?_⟩
              · refine (hR'.roundEnd hE (fun q hq => (hL q hq).1) hs' (fun t ht => ?_) (fun t ht => ?_) hm2).putObj (by omega) hl3
                · have t0 : t ≠ p0 := fun hh => ht (by rw [hms, hh]; simp)
                  have t1 : t ≠ p1 := fun hh => ht (by rw [hms, hh]; simp)
                  have tx : t ∉ modsC C x := fun hh => ht (by rw [hms]; simp [hh])
                  have ty : t ∉ modsC C y := fun hh => ht (by rw [hms]; simp [hh])
                  have := (hkp1 t tx).trans (hkp2 t ty)
                  rw [Env.set_ne t1, Env.set_ne t0] at this
                  exact this
                · have hnot : t ∉ p0 :: p1 :: (dstC x ++ dstC y) := by
                    intro hmem
                    cases hu : unpack L s t with
                    | some z =>
                      obtain ⟨q, hq, hqt⟩ := unpack_mem hu
                      exact (hL q hq).2.2 (by rw [hqt]; exact hmem)
                    | none =>
                      have hmem2 : t ∈ ms := by
                        rw [hms]
                        simp only [List.mem_cons, List.mem_append] at hmem
                        rcases hmem with rfl | rfl | hmem | hmem
                        · simp
                        · simp
                        · simp [mods_dst x t hmem]
                        · simp [mods_dst y t hmem]
                      unfold mkEnv at ht
                      rw [hu] at ht
                      simp only [memN_iff.2 hmem2, cond_true] at ht
                      cases ht
                  simp only [List.mem_cons, List.mem_append, not_or] at hnot
                  obtain ⟨n0, n1, n2, n3⟩ := hnot
                  rw [htk2 t n3, htk1 t n2]
                  simp only
                  rw [Array.getElem?_setIfInBounds_ne (Ne.symm n1), Array.getElem?_setIfInBounds_ne (Ne.symm n0)]
              · rw [World.putObj_heap_same (block_lt hl3), hrec]; rfl
              · exact (World.putObj_heap_other (by omega)).trans hD3
            | _ =>
              cases ex <;> first | (exact hm.elim) | (exact hK.elim)
          | _ =>
            cases ex <;> first | (exact hm.elim) | (exact hK.elim)
      · rintro e' W2 ⟨⟨v, rfl⟩, s, h', hI, hR', hl, hD⟩
        refine ⟨none, _, by have := run_endLoop (P := C.P) hl (by rw [hrec]; simp); rw [hrec] at this; exact this, ?_⟩
        have hRp := hR'.putObj (r' := { rec .ready none with state := .exhausted }) (show B.w.heap.size ≤ w.heap.size + 1 by omega) hl
        rw [hrec] at hRp
        refine ⟨.normal, mkEnv e ms L s, h', trivial, hIend s h' hI, hRp.withDefers ⟨⟨w.heap.size, rfl, by omega, (World.putObj_heap_other (by omega)).trans hD, fun d' hd' => hR.defers.lt d' hd'⟩, hRp.defers⟩, fun t ht => ?_, fun t _ => rfl⟩
        exact mk_keep (e' := mkEnv e ms L s) (fun t y hu => by unfold mkEnv; rw [hu]) (fun t ht => by
          unfold mkEnv
          cases hu : unpack L s t with
          | some z =>
            exfalso
            obtain ⟨q, hq, hqt⟩ := unpack_mem hu
            exact ht (by rw [hms, ← hqt]; have := (hL q hq).2.1; rcases List.mem_append.1 this with h1 | h1 <;> simp [h1])
          | none =>
            simp only
            have : memN t ms = false := by
              cases hm : memN t ms with
              | false => rfl
              | true => exact absurd (memN_iff.1 hm) ht
            rw [this]
            simp only [cond_false]
            cases he : e t with
            | val v => exact keep.refl _
            | box cs => exact keep.refl _
            | lit cs n => exact ⟨(fun ⟨_, cs', hh⟩ => by cases hh), (fun v hv => by cases hv)⟩
            | ref off => exact ⟨(fun ⟨hh, _⟩ => by cases hh), (fun v hv => by cases hv)⟩
            | junk => exact keep.refl _) ht


theorem den_sound (hC : CfgOK C) (hBk : BackTab C.P C.backs) : ∀ (c : Code) (ro : Option Nat) (B : Base) (an : An) (K : Ex → Env → Hp → Prop) (e : Env) (h : Hp) (a : Act) (w : World), (ro = none ∨ noRange c = true) → B.nb ≤ B.w.heap.size → den C c an K e h → Rel C B e h a w →
    c.wpIn (wideR ro) nn C.P (Out C B (modsC C c) (dstC c) a e K) a w := by
  intro c
  induction c with
  | skip => intro ro B an K e h a w hro hmk hk hR; exact wpIn_skip ⟨.normal, e, h, trivial, (by cases an <;> exact hk), hR, fun _ _ => keep.refl _, fun _ _ => rfl⟩
  | exit j => intro ro B an K e h a w hro hmk hk hR; exact wpIn_exit ⟨.exit j, e, h, rfl, (by cases an <;> exact hk), hR, fun _ _ => keep.refl _, fun _ _ => rfl⟩
  | ret => intro ro B an K e h a w hro hmk hk hR; exact wpIn_ret ⟨.ret, e, h, trivial, (by cases an <;> exact hk), hR, fun _ _ => keep.refl _, fun _ _ => rfl⟩
  | region id ops draw =>
    intro ro B an K e h a w hro hmk hk hR
    have hdst : ∀ (i : Nat) (o : Oper), ops[i]? = some o → ∀ d, o.dst = some d → d ∈ dstC (.region id ops draw) := fun i o hi d hd => by
      unfold dstC
      rw [List.mem_flatMap]
      exact ⟨o, by have := Array.mem_of_getElem? hi; simpa using this, by rw [hd]; simp⟩
    have hms : ∀ (i : Nat) (o : Oper), ops[i]? = some o → ∀ d ∈ modsO C o, d ∈ modsC C (.region id ops draw) := fun i o hi d hd => by
      unfold modsC
      rw [List.mem_flatMap]
      exact ⟨o, by have := Array.mem_of_getElem? hi; simpa using this, List.mem_append_left _ hd⟩
    have hQ : ∀ x a' w', keepQ (dstC (.region id ops draw)) a (Behind C B (modsC C (.region id ops draw)) e (K .normal)) x a' w' → Out C B (modsC C (.region id ops draw)) (dstC (.region id ops draw)) a e K x a' w' := by
      rintro x a' w' ⟨⟨rfl, e', h', h1, h2, h3⟩, h4⟩
      exact ⟨.normal, e', h', trivial, h1, h2, h3, h4 rfl⟩
    cases draw with
    | false =>
      have hk' : dops C ops (K .normal) (List.range ops.size) e h := by cases an <;> exact hk
      exact wpIn_mono_den hQ (wpIn_region (wpOpsIn_keep hdst (fun _ _ => rfl) (dops_sound hC.tab hms (fun _ _ _ hh => hh) hR hk')))
    | true =>
      cases an with
      | draw order =>
        unfold den at hk
        split at hk
        · rename_i hck
          unfold checkDraw at hck
          simp only [Bool.and_eq_true] at hck
          obtain ⟨⟨⟨⟨⟨⟨hm, hb⟩, hlen⟩, hnd⟩, hlt⟩, hall⟩, hp⟩ := hck
          have hback : ∀ (i : Nat) (o : Oper), ops[i]? = some o → ∀ e ∈ o.after.toList, Region.binds .any e = true → e.on < i := fun i o hi ed hed hbd => by
            unfold edgesBack at hb
            rw [List.all_eq_true] at hb
            have his : i < ops.size := by
              rcases Nat.lt_or_ge i ops.size with h1 | h1
              · exact h1
              · rw [Array.getElem?_eq_none h1] at hi; cases hi
            have := hb i (List.mem_range.2 his)
            rw [hi] at this
            simp only [List.all_eq_true] at this
            have := this ed hed
            rw [hbd] at this
            simp only [Bool.not_true, Bool.false_or] at this
            unfold Nat.blt at this
            have := Nat.le_of_ble_eq_true this
            omega
          have nd : ∀ {l : List Nat}, nodupN l = true → l.Nodup := by
            intro l
            induction l with
            | nil => intro _; exact List.nodup_nil
            | cons x r ih =>
              intro hh
              simp only [nodupN, Bool.and_eq_true] at hh
              refine List.nodup_cons.2 ⟨fun hm => ?_, ih hh.2⟩
              rw [memN_iff.2 hm] at hh; simp at hh
          have hltN : ∀ i ∈ order, i < ops.size := fun i hi => by
            have := (List.all_eq_true.1 hlt) i hi
            unfold Nat.blt at this
            have := Nat.le_of_ble_eq_true this
            omega
          replace hlen : order.length ≤ ops.size := Nat.le_of_ble_eq_true hlen
          refine wpIn_mono_den hQ (wpIn_region_any hm (wpAnyIn_keep hdst (fun _ _ => rfl) (draw_sound hC hms (fun _ _ _ hh => hh) hback ops.size order (Array.replicate ops.size false) e h a _ hlen (by simp) (nd hnd) (fun i hi => ?_) hltN (fun i o hi hl => ?_) hp
            (fun _ _ => keep.refl _) hk hR.drew)))
          · have h1 : (Array.replicate ops.size false).getD i false = false := by
              rw [Array.getD_eq_getD_getElem?]; simp [hi]
            have h2 := memN_iff.1 ((List.all_eq_true.1 hall) i (List.mem_range.2 hi))
            exact ⟨fun _ => h2, fun _ => h1⟩
          · have h1 : (Array.replicate ops.size false).getD i false = false := by
              rw [Array.getD_eq_getD_getElem?]
              by_cases hi' : i < ops.size <;> simp [hi']
            rw [h1] at hl; cases hl
        · exact hk.elim
      | _ => exact hk.elim
  | seq x y ihx ihy =>
    intro ro B an K e h a w hro hmk hk hR
    have rx : ro = none ∨ noRange x = true := hro.imp id fun hh => by unfold noRange at hh; exact (Bool.and_eq_true_iff.1 hh).1
    have ry : ro = none ∨ noRange y = true := hro.imp id fun hh => by unfold noRange at hh; exact (Bool.and_eq_true_iff.1 hh).2
    have tail : ∀ (Kx : Ex → Env → Hp → Prop), x.wpIn (wideR ro) nn C.P (Out C B (modsC C x) (dstC x) a e Kx) a w →
        (∀ e' h' a' w', Kx .normal e' h' → Rel C B e' h' a' w' → (∀ t, t ∉ modsC C x → keep (e t) (e' t)) → (∀ t, t ∉ dstC x → a'.tmps[t]? = a.tmps[t]?) → y.wpIn (wideR ro) nn C.P (Out C B (modsC C (.seq x y)) (dstC (.seq x y)) a e K) a' w') →
        (∀ ex e' h', ex ≠ .normal → Kx ex e' h' → K ex e' h') → (Code.seq x y).wpIn (wideR ro) nn C.P (Out C B (modsC C (.seq x y)) (dstC (.seq x y)) a e K) a w := by
      intro Kx hx hn ho
      refine wpIn_seq (wpIn_mono_den ?_ hx)
      rintro xx a' w' ⟨ex, e', h', hm, hK, hR', hkp, htk⟩
      cases xx with
      | normal =>
        cases ex <;> first | (exact hm.elim) | skip
        exact hn e' h' a' w' hK hR' hkp htk
      | _ =>
        cases ex <;> first | (exact hm.elim) | skip
        all_goals exact ⟨_, e', h', hm, ho _ _ _ (by simp) hK, hR', (fun t ht => hkp t fun hh => ht (List.mem_append_left _ hh)), fun t ht => htk t fun hh => ht (List.mem_append_left _ hh)⟩
    cases an with
    | seq a1 a2 =>
      unfold den at hk
      refine tail _ (ihx ro B a1 _ e h a w rx hmk hk hR) ?_ ?_
      · intro e' h' a' w' hK hR' hkp htk
        refine wpIn_mono_den ?_ (ihy ro B a2 K e' h' a' w' ry hmk hK hR')
        rintro xx a'' w'' ⟨ex, e'', h'', hm, hK, hR'', hkp', htk'⟩
        exact ⟨ex, e'', h'', hm, hK, hR'', (fun t ht => (hkp t fun hh => ht (List.mem_append_left _ hh)).trans (hkp' t fun hh => ht (List.mem_append_right _ hh))),
          fun t ht => (htk' t fun hh => ht (List.mem_append_right _ hh)).trans (htk t fun hh => ht (List.mem_append_left _ hh))⟩
      · intro ex e' h' hne hK
        cases ex <;> first | (exact absurd rfl hne) | exact hK
    | join L a1 a2 =>
      unfold den at hk
      obtain ⟨J, hJ, hx⟩ := hk
      refine tail _ (ihx ro B a1 _ e h a w rx hmk hx hR) ?_ ?_
      · intro e' h' a' w' hK hR' hkp htk
        obtain ⟨s, hs, hJs⟩ := packS_run hK
        refine wpIn_mono_den ?_ (ihy ro B a2 K _ h' a' w' ry hmk (hJ s h' hJs) (hR'.atMk hs hkp))
        rintro xx a'' w'' ⟨ex, e'', h'', hm, hK, hR'', hkp', htk'⟩
        exact ⟨ex, e'', h'', hm, hK, hR'', (fun t ht => (mk_keep hs hkp fun hh => ht (List.mem_append_left _ hh)).trans (hkp' t fun hh => ht (List.mem_append_right _ hh))),
          fun t ht => (htk' t fun hh => ht (List.mem_append_right _ hh)).trans (htk t fun hh => ht (List.mem_append_left _ hh))⟩
      · intro ex e' h' hne hK
        cases ex <;> first | (exact absurd rfl hne) | exact hK
    | _ => exact hk.elim
  | cond c x y ihx ihy =>
    intro ro B an K e h a w hro hmk hk hR
    cases an with
    | cond a1 a2 =>
      unfold den at hk
      replace hk := opv_run hR hk
      split at hk
      · rename_i t ht
        refine wpIn_cond ht ?_
        cases t with
        | true =>
          refine wpIn_mono_den ?_ (ihx ro B a1 K e h a w (hro.imp id fun hh => by unfold noRange at hh; exact (Bool.and_eq_true_iff.1 hh).1) hmk hk hR)
          rintro xx a' w' ⟨ex, e', h', hm, hK, hR', hkp, htk⟩
          exact ⟨ex, e', h', hm, hK, hR', (fun t ht => hkp t fun hh => ht (List.mem_append_left _ hh)), fun t ht => htk t fun hh => ht (List.mem_append_left _ hh)⟩
        | false =>
          refine wpIn_mono_den ?_ (ihy ro B a2 K e h a w (hro.imp id fun hh => by unfold noRange at hh; exact (Bool.and_eq_true_iff.1 hh).2) hmk hk hR)
          rintro xx a' w' ⟨ex, e', h', hm, hK, hR', hkp, htk⟩
          exact ⟨ex, e', h', hm, hK, hR', (fun t ht => hkp t fun hh => ht (List.mem_append_right _ hh)), fun t ht => htk t fun hh => ht (List.mem_append_right _ hh)⟩
      · exact hk.elim
    | _ => exact hk.elim
  | block id x ih =>
    intro ro B an K e h a w hro hmk hk hR
    cases an with
    | block a1 =>
      unfold den at hk
      refine wpIn_block (wpIn_mono_den ?_ (ih ro B a1 _ e h a w (hro.imp (fun hh => hh) fun hh => hh) hmk hk hR))
      rintro xx a' w' ⟨ex, e', h', hm, hK, hR', hkp, htk⟩
      cases xx with
      | exit j =>
        cases ex <;> first | (exact hm.elim) | skip
        rename_i i
        have hij : i = j := hm
        subst hij
        simp only [Exit.inBlock]
        by_cases hi : i = id
        · subst hi
          simp only [beqT] at hK
          rw [if_pos rfl]
          exact ⟨.normal, e', h', trivial, hK, hR', hkp, htk⟩
        · simp only [beqF hi] at hK
          rw [if_neg hi]
          exact ⟨.exit i, e', h', rfl, hK, hR', hkp, htk⟩
      | _ =>
        cases ex <;> first | (exact hm.elim) | skip
        all_goals exact ⟨_, e', h', hm, hK, hR', hkp, htk⟩
    | _ => exact hk.elim
  | loop x ih =>
    intro ro B an K e h a w hro hmk hk hR
    cases an with
    | loop L a1 =>
      unfold den at hk
      obtain ⟨s0, hs0, hl⟩ := packS_run hk
      obtain ⟨I, μ, hI0, hround⟩ := hl
      refine wp_loop_g (σ := STup L × Hp) (fun p a' w => I p.1 p.2 ∧ Rel C B (mkEnv e (modsC C x) L p.1) p.2 a' w ∧ (∀ t, t ∉ modsC C x → keep (e t) (mkEnv e (modsC C x) L p.1 t)) ∧ ∀ t, t ∉ dstC x → a'.tmps[t]? = a.tmps[t]?) (fun p => μ p.1 p.2)
        ?_ (s := (s0, h)) ⟨hI0, hR.atMk hs0 (fun _ _ => keep.refl _), (fun t ht => mk_keep hs0 (fun _ _ => keep.refl _) ht), fun _ _ => rfl⟩
      rintro ⟨s, h1⟩ a' w' ⟨hI, hR', hkp0, htk0⟩
      refine wpIn_mono_den ?_ (ih ro B a1 _ _ h1 a' w' (hro.imp id fun hh => hh) hmk (hround s h1 hI) hR')
      rintro xx a'' w'' ⟨ex, e'', h'', hm, hK, hR'', hkp, htk⟩
      have htk2 : ∀ t, t ∉ dstC x → a''.tmps[t]? = a.tmps[t]? := fun t ht => (htk t ht).trans (htk0 t ht)
      have hkp2 : ∀ t, t ∉ modsC C x → keep (e t) (e'' t) := fun t ht => (hkp0 t ht).trans (hkp t ht)
      cases xx with
      | normal =>
        cases ex <;> first | (exact hm.elim) | skip
        obtain ⟨s', hs', hI', hlt⟩ := packS_run hK
        exact ⟨(s', h''), ⟨hI', hR''.atMk hs' hkp2, (fun t ht => mk_keep hs' hkp2 ht), htk2⟩, hlt⟩
      | _ =>
        cases ex <;> first | (exact hm.elim) | skip
        all_goals exact ⟨_, e'', h'', hm, hK, hR'', hkp2, htk2⟩
    | _ => exact hk.elim
  | rangeFunc g ps x y ihx ihy =>
    intro ro B an K e h a w hro hmk hk hR
    have hro' : ro = none := hro.resolve_right (by unfold noRange; decide)
    subst hro'
    obtain ⟨pl⟩ := ps
    match pl, an, hk with
    | [p0, p1], .back L b1 b2, hk =>
      exact back_sound hBk hmk (fun nx B l an K e h a w hm hk hR => ihx (some l) B an K e h a w (.inr nx) hm hk hR) (fun ny B l an K e h a w hm hk hR => ihy (some l) B an K e h a w (.inr ny) hm hk hR) hk hR
  | _ => intro ro B an K e h a w hro hmk hk hR; cases an <;> exact hk.elim


def resOne (tmps : Array Value) : ResultVar → Sem Value
  | .tmp t => Pure.pure (tmps.getD t undef)
  | .cell ad t => do loadVar t (← asAddr (tmps.getD ad undef))

theorem resP_run {rs : List ResultVar} {e : Env} {h : Hp} {a : Act} {w : World} (hR : Rel C B e h a w) : ∀ {K : List Value → Prop}, resP C rs e K →
    ∃ vs, K vs ∧ (rs.mapM (resOne a.tmps)).run C.P w = .ok vs w := by
  induction rs with
  | nil => intro K hk; exact ⟨[], hk, by simp⟩
  | cons r rs ih =>
    intro K hk
    cases r with
    | tmp t =>
      unfold resP at hk
      split at hk
      · rename_i v hv
        obtain ⟨vs, h1, h2⟩ := ih hk
        refine ⟨v :: vs, h1, ?_⟩
        have : a.tmps.getD t undef = v := by rw [Array.getD_eq_getD_getElem?, hR.vals t v hv]; rfl
        simp only [List.mapM_cons, Sem.run_bind, resOne, this, Sem.run_pure, Result.andThen_ok, h2]
      · exact hk.elim
    | cell t ty =>
      unfold resP at hk
      split at hk
      · rename_i cs hb
        obtain ⟨b, el, h3, h4⟩ : ∃ b el, a.tmps[t]? = some (.pointer (some ⟨b, 0, none⟩)) ∧ w.heap[b]? = some (.cells cs.toArray el (0, 0)) := by
          obtain ⟨_, b, el, h1, h2, _, _⟩ := hR.hid t (by rw [hb]; rfl)
          rw [hb] at h1 h2
          exact ⟨b, el, h1, h2⟩
        obtain ⟨v, hv, hrun⟩ := partT_load (P := C.P) h4 hk
        obtain ⟨vs, h1, h2⟩ := ih hv
        refine ⟨v :: vs, h1, ?_⟩
        have : a.tmps.getD t undef = .pointer (some ⟨b, 0, none⟩) := by rw [Array.getD_eq_getD_getElem?, h3]; rfl
        simp only [List.mapM_cons, Sem.run_bind, resOne, this, asAddr, Sem.run_pure, Result.andThen_ok, hrun, h2]
      · exact hk.elim

theorem fn_sound (hC : CfgOK C) (hBk : BackTab C.P C.backs) {g : FuncId} {fn : Func} {c : Code} {an : An} (hf : C.P.funcs[g]? = some fn) (hb : fn.body = some c) (hn : fn.ntmps = C.n)
    {args : List Value} (ha : args.length ≤ C.n) {K : Value → Hp → Prop} {D : Hp} {w : World} (hs : Sub D w) (hk : denF C fn c an args K D) : Calls C.P g args.toArray w (Post K D w) := by
  refine (callsIn_wide (n := 0)).1 (callsIn_of_wp_marks hf hb trivial ?_)
  have hR : Rel C ⟨D, w, w.heap.size⟩ (env0 args) D { tmps := args.toArray ++ Array.replicate (fn.ntmps - args.toArray.size) undef, defers := [] } w := by
    have hb : ∀ t, isHid (env0 args t) = true → False := fun t ht => by unfold env0 at ht; split at ht <;> cases ht
    refine ⟨hs, by simp [hn]; omega, trivial, Fr.refl D w, fun k h1 h2 => absurd h2 h1, fun t v hv => ?_, fun t ht => (hb t ht).elim, fun t t' b ht => (hb t ht).elim, fun t off ht => ?_⟩
    · unfold env0 at hv
      split at hv
      · rename_i u hu
        cases hv
        have hlt : t < args.length := by
          rcases Nat.lt_or_ge t args.length with h1 | h1
          · exact h1
          · rw [List.getElem?_eq_none h1] at hu; cases hu
        simp only
        rw [Array.getElem?_append_left (by simpa using hlt)]
        simpa using hu
      · cases hv
    · unfold env0 at ht; split at ht <;> cases ht
  unfold denF at hk
  refine wpIn_mono_den (ro := none) ?_ (den_sound hC hBk c none _ an _ _ D _ w (.inl rfl) (Nat.le_refl _) hk hR)
  rintro x a' w' ⟨ex, e', h', hm, hK, hR', _, _⟩
  have fin : ∀ (ds : List Deferred) (w1 : World), Rel C ⟨D, w, w.heap.size⟩ e' h' { a' with defers := ds } w1 → resP C fn.results.toList e' (fun vs => K (resV vs) h') → LeavesInM Fence.wide 0 C.P fn a'.tmps (Post K D w) ds .returning w1 := by
    intro ds
    induction ds with
    | nil =>
      intro w1 hR1 hh
      obtain ⟨vs, h1, h2⟩ := resP_run hR1 hh
      refine ⟨resV vs, ?_, resV vs, h', rfl, h1, hR1.sub, hR1.fr, hR1.dom⟩
      have hres : results fn a'.tmps = (do
          let vs ← fn.results.mapM (resOne a'.tmps)
          Pure.pure (if h : vs.size = 1 then vs[0] else .tuple vs)) := rfl
      rw [hres, Sem.run_bind, Array.mapM_eq_mapM_toList, Sem.run_map, h2]
      simp only [Result.andThen_ok, Sem.run_pure]
      congr 1
      match vs with
      | [] => rfl
      | [v] => rfl
      | u :: v :: r => simp [resV]
    | cons d ds ih =>
      intro w1 hR1 hh
      obtain ⟨⟨r, hd, hr1, hr2, hr3⟩, hms⟩ := hR1.defers
      refine ⟨by simp, .inl ⟨r, _, by rw [hd], run_takeDeferred hr2, ih _ ?_ hh⟩⟩
      have hne : ∀ (k : Nat) (o : Obj), w1.heap[k]? = some o → k ≠ r → (w1.putObj r (.deferred none)).heap[k]? = some o := fun k o hk hkr => by
        rw [World.putObj_heap_other hkr]; exact hk
      have hmarks : ∀ ds : List Deferred, (∀ d' ∈ ds, d' ≠ d) → Marks w.heap.size w1 ds → Marks w.heap.size (w1.putObj r (.deferred none)) ds := by
        intro ds
        induction ds with
        | nil => intro _ _; trivial
        | cons d2 ds ih2 =>
          rintro hnd ⟨⟨r2, g1, g2, g3, g4⟩, g5⟩
          refine ⟨⟨r2, g1, g2, hne r2 _ g3 (fun hx => ?_), g4⟩, ih2 (fun d' hd' => hnd d' (List.mem_cons_of_mem _ hd')) g5⟩
          exact hnd d2 List.mem_cons_self (by rw [g1, hd, hx])
      have hcell : ∀ (k : Nat) (c : Array Value) (el : TypeId) (f : Nat × Nat), w1.heap[k]? = some (.cells c el f) → (w1.putObj r (.deferred none)).heap[k]? = some (.cells c el f) := fun k c el f hk =>
        hne k _ hk (fun hx => by rw [hx, hr2] at hk; cases hk)
      refine ⟨fun k b hb => hcell k _ _ _ (hR1.sub k b hb), hR1.sz, hmarks ds hr3 hms, ?_, hR1.dom, hR1.vals, fun t ht => ?_, hR1.inj, hR1.refs⟩
      · obtain ⟨x1, x2, x3, x4, x5, x6⟩ := hR1.fr
        refine ⟨by rw [World.putObj_size]; exact x1, fun k hk hD => ?_, x3, x4, x5, x6⟩
        have hr1' : w.heap.size ≤ r := hr1
        have hk' : k < w.heap.size := hk
        rw [World.putObj_heap_other (by omega)]; exact x2 k hk hD
      · obtain ⟨g1, b, el, g2, g3, g4, g5⟩ := hR1.hid t ht
        exact ⟨g1, b, el, g2, hcell b _ _ _ g3, g4, g5⟩
  have hRd : Rel C ⟨D, w, w.heap.size⟩ e' h' { a' with defers := a'.defers } w' := hR'
  cases x with
  | normal =>
    cases ex <;> first | (exact hm.elim) | skip
    exact fin a'.defers w' hRd hK
  | ret =>
    cases ex <;> first | (exact hm.elim) | skip
    exact fin a'.defers w' hRd hK
  | exit j =>
    cases ex <;> first | (exact hm.elim) | skip
    exact hK.elim
  | _ => cases ex <;> exact hm.elim

end
end Den
end

section
namespace Den
open Go

structure Ty (α : Type) where
  up : α → Value
  dn : Value → (α → Prop) → Prop
  snd : ∀ v K, dn v K → ∃ x, v = up x ∧ K x
  cmp : ∀ x K, dn (up x) K ↔ K x

structure ArgT (α : Type) where
  up : α → List Value
  dn : List Value → (α → Prop) → Prop
  snd : ∀ v K, dn v K → ∃ x, v = up x ∧ K x
  cmp : ∀ x K, dn (up x) K ↔ K x

def mkE {α ρ : Type} (A : ArgT α) (R : Ty ρ) (F : α → (ρ → Hp → Prop) → Hp → Prop) : FSem := fun args K h =>
  A.dn args fun a => callP (F a) (fun r => K (R.up r)) h
def mkM {α ρ : Type} (A : ArgT α) (R : Ty ρ) (F : α → (ρ → Hp → Prop) → Hp → Prop) : FSem := fun args K h =>
  A.dn args fun a => callM (F a) (fun r => K (R.up r)) h

structure Entry (P : Program) (g : Nat) (F : FSem) (m : Bool) : Prop where
  fn : FnOK P g F
  like : m = false → ∀ args, CallLike (F args)
  mono : ∀ args K K' h, (∀ v h, K v h → K' v h) → F args K h → F args K' h

def Tab (C : Cfg) : List (Nat × FSem) → Prop
  | [] => True
  | (g, F) :: r => Entry C.P g F (memN g C.mutL) ∧ Tab C r

theorem Tab.ok {C : Cfg} : ∀ {l : List (Nat × FSem)}, Tab C l → TabOK C l
  | [], _ => trivial
  | (_, _) :: _, h => ⟨h.1.fn, h.1.like, Tab.ok h.2⟩
theorem Tab.mono {C : Cfg} : ∀ {l : List (Nat × FSem)}, Tab C l → ∀ g args K K' h, (∀ v h, K v h → K' v h) → lookF g l args K h → lookF g l args K' h
  | [], _, _, _, _, _, _, _, hk => hk
  | (g', F) :: r, ht, g, args, K, K', h, hkk, hk => by
    unfold lookF at *
    by_cases hg : g = g'
    · subst hg; rw [beqT] at *; exact ht.1.mono args K K' h hkk hk
    · rw [beqF hg] at *; exact Tab.mono ht.2 g args K K' h hkk hk
theorem CfgOK.of {C : Cfg} (h : Tab C C.tab) : CfgOK C := ⟨h.ok, h.mono⟩

section
variable {α ρ : Type} {A : ArgT α} {R : Ty ρ} {F : α → (ρ → Hp → Prop) → Hp → Prop} {P : Program} {g : Nat}

theorem frame_post {K : Value → Hp → Prop} {D O : Hp} {Q : ρ → Hp → Prop} {w : World} (hdj : D.dj O) (hs : Sub (D.add O) w)
    (hq : ∀ v D', Q v D' → D'.dj O → (D'.add O).Fin → K (R.up v) (D'.add O)) : ∀ e w', Post (fun v h => R.dn v fun r => Q r h) D w e w' → Post K (D.add O) w e w' := by
  rintro e w' ⟨v, D', rfl, hv, hs', hf, hd⟩
  obtain ⟨r, rfl, hr⟩ := R.snd _ _ hv
  have hO : ∀ k b, O k = some b → D k = none ∧ w.heap[k]? = some (.cells b.cells.toArray b.elem b.fz) ∧ k < w.heap.size := fun k b hb => by
    have h1 : D k = none := by rcases hdj k with h1 | h1
                               · exact h1
                               · rw [h1] at hb; cases hb
    have h2 : (D.add O) k = some b := by simp [Hp.add, h1, hb]
    exact ⟨h1, hs k b h2, hs.lt h2⟩
  have hdj' : D'.dj O := fun k => by
    cases hb : O k with
    | none => exact .inr rfl
    | some b =>
      obtain ⟨h1, _, h3⟩ := hO k b hb
      left
      cases hk : D' k with
      | none => rfl
      | some x => have := hd k (by simp [hk]) h1; omega
  suffices hsub : Sub (D'.add O) w' from by
    refine ⟨R.up r, D'.add O, rfl, hq r D' hr hdj' hsub.fin, hsub, ?_, fun k h1 h2 => ?_⟩
    · exact ⟨hf.1, fun k h1 h2 => hf.2.1 k h1 (Hp.add_none.1 h2).1, hf.2.2⟩
    · rw [Hp.add_none] at h2
      refine hd k (fun hh => h1 ?_) h2.1
      rw [Hp.add_none]; exact ⟨hh, h2.2⟩
  intro k b hk
  · cases hk' : D' k with
    | some x =>
      have : (D'.add O) k = some x := by simp [Hp.add, hk']
      rw [this] at hk; cases hk
      exact hs' k _ hk'
    | none =>
      have : (D'.add O) k = O k := by simp [Hp.add, hk']
      rw [this] at hk
      obtain ⟨h1, h2, h3⟩ := hO k b hk
      rw [hf.2.1 k h3 h1]; exact h2

theorem mkE_entry (hfn : ∃ fn, P.funcs[g]? = some fn ∧ fn.body.isNone = false ∧ (fn.name == "runtime.NumGoroutine") = false)
    (hb : ∀ a K D w, Sub D w → F a K D → Calls P g (A.up a).toArray w (Post (fun v h => R.dn v fun r => K r h) D w)) : Entry P g (mkE A R F) false where
  fn := by
    refine ⟨hfn, fun args K h w hs hk => ?_⟩
    obtain ⟨a, rfl, D, O, Q, h1, rfl, h3, h4⟩ := A.snd _ _ hk
    exact (hb a Q D w (hs.mono (Hp.le_add D O)) h3).mono (frame_post h1 hs fun v D' hq hd hfin => (h4 v D' hq).2 hd hfin)
  like := fun _ args => by
    by_cases hx : ∃ a, args = A.up a
    · obtain ⟨a, rfl⟩ := hx
      exact .inl ⟨ρ, F a, R.up, fun K h => A.cmp a _⟩
    · refine .inr fun K h hk => hx ?_
      obtain ⟨a, ha, _⟩ := A.snd _ _ hk
      exact ⟨a, ha⟩
  mono := fun args K K' h hkk hk => by
    obtain ⟨a, rfl, hc⟩ := A.snd _ _ hk
    exact (A.cmp a _).2 (callP_mono (fun v h' hh _ _ => hkk _ _ hh) hc)

theorem mkM_entry (hfn : ∃ fn, P.funcs[g]? = some fn ∧ fn.body.isNone = false ∧ (fn.name == "runtime.NumGoroutine") = false)
    (hb : ∀ a K D w, Sub D w → F a K D → Calls P g (A.up a).toArray w (Post (fun v h => R.dn v fun r => K r h) D w)) : Entry P g (mkM A R F) true where
  fn := by
    refine ⟨hfn, fun args K h w hs hk => ?_⟩
    obtain ⟨a, rfl, D, O, Q, h1, rfl, h3, h4⟩ := A.snd _ _ hk
    exact (hb a Q D w (hs.mono (Hp.le_add D O)) h3).mono (frame_post h1 hs fun v D' hq hd _ => h4 v D' hq hd)
  like := fun hh => by cases hh
  mono := fun args K K' h hkk hk => by
    obtain ⟨a, rfl, hc⟩ := A.snd _ _ hk
    exact (A.cmp a _).2 (callM_mono (fun v h' hh => hkk _ _ hh) hc)

theorem body_of {C : Cfg} (hC : Tab C C.tab) (hBk : BackTab C.P C.backs) {fn : Func} {c : Code} {an : An} (hf : C.P.funcs[g]? = some fn) (hb : fn.body = some c) (hn : fn.ntmps = C.n)
    (ha : ∀ a, Nat.ble (A.up a).length C.n = true) (hF : ∀ a K D, denF C fn c an (A.up a) (fun v h => R.dn v fun r => K r h) D = F a K D) :
    ∀ a K D w, Sub D w → F a K D → Calls C.P g (A.up a).toArray w (Post (fun v h => R.dn v fun r => K r h) D w) := fun a K D w hs hk =>
  fn_sound (CfgOK.of hC) hBk hf hb hn (Nat.le_of_ble_eq_true (ha a)) hs (by rw [hF]; exact hk)

theorem entry_of {C : Cfg} (hC : Tab C C.tab) (hBk : BackTab C.P C.backs) {fn : Func} {c : Code} {an : An} (hf : C.P.funcs[g]? = some fn) (hb : fn.body = some c) (hn : fn.ntmps = C.n)
    (hname : (fn.name == "runtime.NumGoroutine") = false) (ha : ∀ a, Nat.ble (A.up a).length C.n = true)
    (hF : ∀ a K D, denF C fn c an (A.up a) (fun v h => R.dn v fun r => K r h) D = F a K D) : Entry C.P g (mkE A R F) false :=
  mkE_entry ⟨fn, hf, by rw [hb]; rfl, hname⟩ (body_of hC hBk hf hb hn ha hF)

theorem entryM_of {C : Cfg} (hC : Tab C C.tab) (hBk : BackTab C.P C.backs) {fn : Func} {c : Code} {an : An} (hf : C.P.funcs[g]? = some fn) (hb : fn.body = some c) (hn : fn.ntmps = C.n)
    (hname : (fn.name == "runtime.NumGoroutine") = false) (ha : ∀ a, Nat.ble (A.up a).length C.n = true)
    (hF : ∀ a K D, denF C fn c an (A.up a) (fun v h => R.dn v fun r => K r h) D = F a K D) : Entry C.P g (mkM A R F) true :=
  mkM_entry ⟨fn, hf, by rw [hb]; rfl, hname⟩ (body_of hC hBk hf hb hn ha hF)

end
end Den
end

section
namespace Den
open Go

def Ty.leaf (l : Lf) : Ty l.T where
  up := l.up
  dn := l.dn
  snd _ _ h := Lf.dn_iff.1 h
  cmp x K := ⟨fun h => by
    obtain ⟨y, h1, h2⟩ := Lf.dn_iff.1 h
    have : x = y := by
      cases l with
      | int k => injection h1
      | bool => injection h1
      | str => injection h1
      | ptr => injection h1
      | val => exact h1
      | sl => injection h1 with h1 h3 h4; cases x; cases y; simp only at h1 h3 h4; subst h1 h3 h4; rfl
    exact this ▸ h2, fun h => Lf.dn_iff.2 ⟨x, rfl, h⟩⟩

def ArgT.nil : ArgT Unit where
  up _ := []
  dn vs K := match vs with | [] => K () | _ => False
  snd vs K h := by cases vs <;> simp only at h; exact ⟨(), rfl, h⟩
  cmp _ _ := Iff.rfl

def ArgT.cons {α β : Type} (T : Ty α) (A : ArgT β) : ArgT (α × β) where
  up x := T.up x.1 :: A.up x.2
  dn vs K := match vs with | v :: r => T.dn v fun x => A.dn r fun y => K (x, y) | _ => False
  snd vs K h := by
    cases vs <;> simp only at h
    obtain ⟨x, rfl, h1⟩ := T.snd _ _ h
    obtain ⟨y, rfl, h2⟩ := A.snd _ _ h1
    exact ⟨(x, y), rfl, h2⟩
  cmp x K := by
    show T.dn (T.up x.1) _ ↔ _
    rw [T.cmp, A.cmp]

/-- A closed function as an argument. -/
def ArgT.fn {α : Type} (g : Nat) (A : ArgT α) : ArgT α where
  up x := .func (.func g) #[] #[] :: A.up x
  dn vs K := match vs with
    | .func (.func g') ⟨[]⟩ ⟨[]⟩ :: r => (match decide (g' = g) with | true => A.dn r K | false => False)
    | _ => False
  snd vs K h := by
    split at h
    · split at h
      · rename_i hg
        obtain ⟨y, rfl, h2⟩ := A.snd _ _ h
        rw [of_decide_eq_true hg]
        exact ⟨y, rfl, h2⟩
      · exact h.elim
    · exact h.elim
  cmp x K := by
    show (match decide (g = g) with | true => A.dn (A.up x) K | false => False) ↔ _
    rw [decide_eq_true (rfl : g = g)]
    exact A.cmp x K

def Ty.tup {α β : Type} (A : ArgT α) (f : β → α) (g : α → β) (h1 : ∀ x, g (f x) = x) (h2 : ∀ y, f (g y) = y) : Ty β where
  up x := .tuple (A.up (f x)).toArray
  dn v K := match v with
    | .tuple vs => A.dn vs.toList fun y => K (g y)
    | _ => False
  snd v K h := by
    cases v <;> simp only at h <;> try exact h.elim
    obtain ⟨y, h3, h4⟩ := A.snd _ _ h
    exact ⟨g y, by rw [h2, ← h3], h4⟩
  cmp x K := by
    show A.dn (A.up (f x)) _ ↔ _
    rw [A.cmp, h1]

def Ty.unit : Ty Unit where
  up _ := .tuple #[]
  dn v K := match v with | .tuple ⟨[]⟩ => K () | _ => False
  snd v K h := by split at h; exact ⟨(), rfl, h⟩; exact h.elim
  cmp _ _ := Iff.rfl

end Den
end

section
set_option linter.unusedVariables false
namespace Den
open Go
def nilS : Sl := ⟨none, 0, 0⟩
def emptyS : ByteArray := .empty

section
variable {α : Type} {G : (α → Hp → Prop) → Hp → Prop} {K : α → Hp → Prop} {h : Hp}

theorem callP_of (R : α → Hp → Prop) (H : ∀ K' : α → Hp → Prop, (∀ v h', h.le h' → R v h' → K' v h') → G K' h) (k : ∀ v h', h.le h' → R v h' → K v h') : callP G K h :=
  ⟨h, Hp.emp, fun v h' => h.le h' ∧ R v h', h.dj_emp, h.add_emp.symm, H _ (fun v h' h1 h2 => ⟨h1, h2⟩),
    fun v D' hq => ⟨hq.1, fun _ _ => by rw [Hp.add_emp]; exact k v D' hq.1 hq.2⟩⟩

theorem callP_same (v : α) (H : ∀ K' : α → Hp → Prop, K' v h → G K' h) (k : K v h) : callP G K h :=
  ⟨h, Hp.emp, fun v' h' => v' = v ∧ h' = h, h.dj_emp, h.add_emp.symm, H _ ⟨rfl, rfl⟩, fun v' D' hq => by
    obtain ⟨rfl, rfl⟩ := hq
    exact ⟨Hp.le_refl _, fun _ _ => by rw [Hp.add_emp]; exact k⟩⟩

theorem callM_of (H : G K h) : callM G K h :=
  ⟨h, Hp.emp, K, h.dj_emp, h.add_emp.symm, H, fun v D' hq _ => by rw [Hp.add_emp]; exact hq⟩
end

theorem joinP_of {S : Type} {k : S → Hp → Prop} {body : (S → Hp → Prop) → Prop} (H : body k) : joinP k body := ⟨k, fun _ _ h => h, H⟩
theorem joinP_inv {S : Type} {k : S → Hp → Prop} {body : (S → Hp → Prop) → Prop} (J : S → Hp → Prop) (h1 : ∀ s h, J s h → k s h) (h2 : body J) : joinP k body := ⟨J, h1, h2⟩
theorem loopP_of {S : Type} {body : S → (S → Hp → Prop) → Hp → Prop} {s0 : S} {h0 : Hp} (I : S → Hp → Prop) (μ : S → Nat)
    (h1 : I s0 h0) (h2 : ∀ s h, I s h → body s (fun s' h' => I s' h' ∧ μ s' < μ s) h) : loopP body s0 h0 := ⟨I, fun s _ => μ s, h1, h2⟩

theorem ifP_true {A B : Prop} {t : Bool} (ht : t = true) (ha : A) : ifP t A B := by subst ht; exact ha
theorem ifP_false {A B : Prop} {t : Bool} (ht : t = false) (hb : B) : ifP t A B := by subst ht; exact hb
theorem ifP_dec {A B p : Prop} [Decidable p] (ha : p → A) (hb : ¬ p → B) : ifP (decide p) A B :=
  ifP_intro (fun h => ha (of_decide_eq_true h)) (fun h => hb (of_decide_eq_false h))
theorem ifP_eq {A B : Prop} {a b : Int} (ha : a = b → A) (hb : a ≠ b → B) : ifP (a == b) A B :=
  ifP_intro (fun h => ha (by simpa using h)) (fun h => hb (by simpa using h))
theorem ifP_ne {A B : Prop} {a b : Int} (ha : a ≠ b → A) (hb : a = b → B) : ifP (a != b) A B :=
  ifP_intro (fun h => ha (by simpa using h)) (fun h => hb (by simpa using h))

theorem w64 {n : Int} (h : -9223372036854775808 ≤ n ∧ n ≤ 9223372036854775807) : IntKind.i64.wrap n = n := by
  simp [IntKind.wrap, IntKind.signed, IntKind.bits]
  omega
abbrev BS (s : ByteArray) : List UInt8 := s.data.toList
theorem BS_len (s : ByteArray) : (BS s).length = s.size := by simp [BS]
theorem BS_inj {s t : ByteArray} (h : BS s = BS t) : s = t := by
  cases s; cases t
  simp only [BS] at h
  rw [Array.toList_inj.1 h]
theorem BS_toList (s : ByteArray) : s.toList = BS s := ByteArray.toList_eq s

theorem strIdx_drop {s : ByteArray} {i : Int} {K : Int → Prop} {k : Nat} {c : UInt8} {r : List UInt8} (hd : (BS s).drop k = c :: r) (hi : i = k) (H : K (c.toNat : Int)) : strIdx s i K := by
  subst hi
  refine ⟨by omega, c, ?_, H⟩
  have h1 : (BS s)[k]? = some c := by
    have : ((BS s).drop k)[0]? = some c := by rw [hd]; rfl
    simpa using this
  have hk : k < s.size := by
    rw [← BS_len]
    rcases Nat.lt_or_ge k (BS s).length with h2 | h2
    · exact h2
    · rw [List.getElem?_eq_none h2] at h1; cases h1
  have : ((k : Int).toNat) = k := rfl
  rw [this, getElem?_pos s k hk]
  rw [List.getElem?_eq_getElem (by rw [BS_len]; exact hk)] at h1
  simp only [Option.some.injEq] at h1 ⊢
  rw [← h1]
  rfl

theorem BS_extract {s : ByteArray} {a b : Nat} : BS (s.extract a b) = ((BS s).drop a).take (b - a) := by
  simp [BS, ByteArray.data_extract, Array.toList_extract, List.extract_eq_take_drop]

theorem strCut_of {s : ByteArray} {lo hi : Int} {K : ByteArray → Prop} (a b : Nat) (ha : lo = a) (hb : hi = b) (hab : a ≤ b) (hs : b ≤ s.size) (H : ∀ t, BS t = ((BS s).drop a).take (b - a) → K t) : strCut s lo hi K := by
  subst ha hb
  exact ⟨by omega, by omega, by omega, H _ BS_extract⟩

theorem addr_add_add (a : Addr) (i j : Nat) : (a.add i).add j = a.add (i + j) := by
  unfold Addr.add
  by_cases hi : i = 0
  · subst hi; simp
  · by_cases hj : j = 0
    · subst hj; simp [hi]
    · have : i + j ≠ 0 := by omega
      simp [hi, hj, Nat.add_assoc]
theorem add_block (a : Addr) (i : Nat) : (a.add i).block = a.block := by unfold Addr.add; split <;> rfl
theorem add_off (a : Addr) (i : Nat) : (a.add i).off = a.off + i := by
  unfold Addr.add; split
  · rename_i h; subst h; rfl
  · rfl
theorem add_spot {a : Addr} (hs : a.spot = none) (i : Nat) : (a.add i).spot = none := by unfold Addr.add; split <;> simp [hs]

/-- What a slice holds, cell by cell. -/
def Rd (h : Hp) (size : Nat) (x : Sl) (cs : List Value) : Prop := x.len * size = cs.length ∧ cellsAtO h x.a cs.length = some cs

theorem Rd.le {h h' : Hp} {size : Nat} {x : Sl} {cs : List Value} (hr : Rd h size x cs) (hl : h.le h') : Rd h' size x cs := ⟨hr.1, cellsAtO_le hl hr.2⟩
theorem Rd.nil {h : Hp} {size : Nat} : Rd h size nilS [] := ⟨by simp [nilS], rfl⟩

theorem cellsAt_len {h : Hp} {a : Addr} : ∀ {n : Nat} {l : List Value}, cellsAt h a n = some l → l.length = n
  | 0, l, e => by simp only [cellsAt, Option.some.injEq] at e; subst e; rfl
  | n + 1, l, e => by
    unfold cellsAt at e
    split at e
    · rename_i l1 h1
      split at e
      · simp only [Option.some.injEq] at e; subst e; simp [cellsAt_len h1]
      · cases e
    · cases e
theorem cellsAt_get {h : Hp} {a : Addr} : ∀ {n : Nat} {l : List Value}, cellsAt h a n = some l → ∀ i v, l[i]? = some v → h.cell (a.add i) = some v
  | 0, l, e, i, v, hi => by simp only [cellsAt, Option.some.injEq] at e; subst e; simp at hi
  | n + 1, l, e, i, v, hi => by
    unfold cellsAt at e
    split at e
    · rename_i l1 h1
      split at e
      · rename_i u hu
        simp only [Option.some.injEq] at e; subst e
        have hl := cellsAt_len h1
        rcases Nat.lt_or_ge i n with h2 | h2
        · rw [List.getElem?_append_left (by omega)] at hi
          exact cellsAt_get h1 i v hi
        · rw [List.getElem?_append_right (by omega)] at hi
          have : i - l1.length = 0 := by
            rcases Nat.eq_zero_or_pos (i - l1.length) with h3 | h3
            · exact h3
            · rw [List.getElem?_eq_none (by simp; omega)] at hi; cases hi
          rw [this] at hi
          simp only [List.getElem?_cons_zero, Option.some.injEq] at hi
          subst hi
          have : i = n := by omega
          subst this; exact hu
      · cases e
    · cases e
theorem cellsAt_block {h : Hp} {a : Addr} {b : Blk} (hb : h a.block = some b) (hs : a.spot = none) : ∀ {n : Nat}, a.off + n ≤ b.cells.length → cellsAt h a n = some ((b.cells.drop a.off).take n)
  | 0, _ => by simp [cellsAt]
  | n + 1, hn => by
    unfold cellsAt
    rw [cellsAt_block hb hs (by omega)]
    have h1 : h.cell (a.add n) = some (b.cells[a.off + n]'(by omega)) := by
      unfold Hp.cell
      simp only [add_block, add_off, add_spot hs, hb]
      exact List.getElem?_eq_getElem (by omega)
    simp only [h1]
    rw [List.take_succ_eq_append_getElem (by simp; omega)]
    simp

theorem idxP_of {h : Hp} {size : Nat} {x : Sl} {cs : List Value} {i : Int} {K : Addr → Prop} (k : Nat) (hr : Rd h size x cs) (hi : i = k) (hk : k < x.len) (hsz : 0 < size)
    (H : ∀ a, (∀ j v, cs[k * size + j]? = some v → h.cell (a.add j) = some v) → K a) : idxP x i size K := by
  subst hi
  refine ⟨by omega, by omega, ?_⟩
  have hpos : 0 < cs.length := by
    rw [← hr.1]
    exact Nat.mul_pos (by omega) hsz
  cases ha : x.a with
  | none =>
    have := hr.2
    rw [ha] at this
    simp only [cellsAtO] at this
    split at this
    · omega
    · cases this
  | some a =>
    have h2 := hr.2
    rw [ha] at h2
    simp only [cellsAtO] at h2
    refine H _ fun j v hv => ?_
    rw [addr_add_add]
    exact cellsAt_get h2 _ v hv

/-- A slice that lies in memory of its own. -/
def Own (h0 h : Hp) (size : Nat) (x : Sl) (cs : List Value) : Prop :=
  h0.le h ∧ x.len * size = cs.length ∧ x.len ≤ x.cap ∧
  match x.a with
  | none => x.cap = 0
  | some a => a.off = 0 ∧ a.spot = none ∧ h0 a.block = none ∧ ∃ b, h a.block = some b ∧ b.fz = (0, 0) ∧ b.cells.length = x.cap * size ∧ b.cells.take cs.length = cs

theorem Own.nil {h0 h : Hp} {size : Nat} (hl : h0.le h) : Own h0 h size nilS [] := ⟨hl, by simp [nilS], Nat.le_refl _, rfl⟩
theorem Own.rd {h0 h : Hp} {size : Nat} {x : Sl} {cs : List Value} (ho : Own h0 h size x cs) : Rd h size x cs := by
  obtain ⟨h1, h2, h3, h4⟩ := ho
  refine ⟨h2, ?_⟩
  cases ha : x.a with
  | none =>
    rw [ha] at h4
    simp only at h4
    have : cs = [] := by
      have : x.len = 0 := by omega
      rw [this] at h2
      cases cs with
      | nil => rfl
      | cons a b => simp at h2
    subst this; rfl
  | some a =>
    rw [ha] at h4
    obtain ⟨g1, g2, g3, b, g4, g5, g6, g7⟩ := h4
    have hle : cs.length ≤ b.cells.length := by rw [g6, ← h2]; exact Nat.mul_le_mul_right _ h3
    simp only [cellsAtO]
    rw [cellsAt_block g4 g2 (by omega), g1]
    simp [g7]
theorem Own.le {h0 h h' : Hp} {size : Nat} {x : Sl} {cs : List Value} (ho : Own h0 h size x cs) (hl : h.le h') : Own h0 h' size x cs := by
  obtain ⟨h1, h2, h3, h4⟩ := ho
  refine ⟨Hp.le_trans h1 hl, h2, h3, ?_⟩
  cases ha : x.a with
  | none => rw [ha] at h4; exact h4
  | some a =>
    rw [ha] at h4
    obtain ⟨g1, g2, g3, b, g4, g5⟩ := h4
    exact ⟨g1, g2, g3, b, hl _ _ g4, g5⟩
theorem Own.base {h0 h1 h : Hp} {size : Nat} {x : Sl} {cs : List Value} (ho : Own h1 h size x cs) (hl : h0.le h1) : Own h0 h size x cs := by
  obtain ⟨g0, h2, h3, h4⟩ := ho
  refine ⟨Hp.le_trans hl g0, h2, h3, ?_⟩
  cases ha : x.a with
  | none => rw [ha] at h4; exact h4
  | some a =>
    rw [ha] at h4
    obtain ⟨g1, g2, g3, g4⟩ := h4
    refine ⟨g1, g2, ?_, g4⟩
    cases hk : h0 a.block with
    | none => rfl
    | some b => rw [hl _ _ hk] at g3; cases g3

theorem app_own {h0 h : Hp} {size bytes n : Nat} {zero new cs : List Value} {x : Sl} {K : Sl → Hp → Prop} (ho : Own h0 h size x cs) (hn : new.length = n * size) (hz : zero.length = size)
    (hleaf : new.all Value.leaf = true) (hb : (x.len + n) * bytes ≤ 140737488355328) (hb2 : x.len + n ≤ 140737488355328)
    (H : ∀ y h', Own h0 h' size y (cs ++ new) → y.len = x.len + n → K y h') : appP size bytes zero x n new K h := by
  have hrd := ho.rd
  obtain ⟨h1, h2, h3, h4⟩ := ho
  refine ⟨hb, hb2, fun hfit => ?_, fun hgrow => ?_⟩
  · cases ha : x.a with
    | none =>
      rw [ha] at h4
      simp only at h4
      have hn0 : n = 0 := by omega
      have hnew : new = [] := by
        cases new with
        | nil => rfl
        | cons a b => rw [hn0] at hn; simp at hn
      subst hnew hn0
      simp only [stO]
      refine H _ _ ⟨h1, ?_, ?_, ?_⟩ rfl
      · simpa using h2
      · show x.len + 0 ≤ x.cap; omega
      · show x.cap = 0; exact h4
    | some a =>
      rw [ha] at h4
      obtain ⟨g1, g2, g3, b, g4, g5, g6, g7⟩ := h4
      have e1 : (x.len + n) * size = cs.length + new.length := by rw [Nat.add_mul, h2, hn]
      have e2 : cs.length + new.length ≤ b.cells.length := by rw [g6, ← e1]; exact Nat.mul_le_mul_right _ hfit
      simp only [stO]
      refine ⟨b, by rw [add_block]; exact g4, add_spot g2 _, g5, ?_, hleaf, ?_⟩
      · rw [add_off]; omega
      · rw [add_block, add_off]
        refine H _ _ ⟨?_, ?_, hfit, ?_⟩ rfl
        · intro k bk hk
          rw [Hp.ins_ne (fun hh => by subst hh; rw [g3] at hk; cases hk)]
          exact h1 k bk hk
        · show (x.len + n) * size = _; rw [List.length_append]; exact e1
        · refine ⟨g1, g2, g3, _, Hp.ins_same _ _ _, g5, ?_, ?_⟩
          · show (splice b.cells (a.off + x.len * size) new).length = _
            unfold splice
            simp only [List.length_append, List.length_take, List.length_drop]
            show _ = x.cap * size
            rw [← g6, g1, h2]; omega
          · show (splice b.cells (a.off + x.len * size) new).take _ = _
            have hoff : a.off + x.len * size = cs.length := by rw [g1, h2]; omega
            unfold splice
            rw [hoff, g7, List.append_assoc, List.length_append, List.take_append]
            simp only [Nat.add_sub_cancel_left]
            rw [List.take_of_length_le (by omega), List.take_append, List.take_of_length_le (Nat.le_refl _)]
            simp
  · refine ⟨cs, ?_, fun bk e c hc hfr => ?_⟩
    · rw [h2]; exact hrd.2
    · refine H _ _ ⟨Hp.le_trans h1 (Hp.le_ins hfr), ?_, hc, ?_⟩ rfl
      · show (x.len + n) * size = _; rw [List.length_append, Nat.add_mul, h2, hn]
      · refine ⟨rfl, rfl, ?_, _, Hp.ins_same _ _ _, rfl, ?_, ?_⟩
        · cases hk : h0 bk with
          | none => rfl
          | some b => have := h1 _ _ hk; rw [hfr] at this; cases this
        · show (cs ++ new ++ repl (c - (x.len + n)) zero).length = c * size
          have hr : (repl (c - (x.len + n)) zero).length = (c - (x.len + n)) * size := by
            unfold repl
            simp [hz]
          rw [List.length_append, List.length_append, hr, hn, ← h2, ← Nat.add_mul, ← Nat.add_mul]
          congr 1; omega
        · show (cs ++ new ++ repl (c - (x.len + n)) zero).take _ = cs ++ new
          rw [List.take_append_of_le_length (by simp)]
          exact List.take_of_length_le (Nat.le_refl _)

theorem new_own {h : Hp} {size n : Nat} {cells : List Value} {K : Addr → Hp → Prop} (hn : cells.length = n * size)
    (H : ∀ b h', h b = none → Own h h' size ⟨some ⟨b, 0, none⟩, n, n⟩ cells → K ⟨b, 0, none⟩ h') : newP cells K h := by
  intro b e hb
  refine H b _ hb ⟨Hp.le_ins hb, hn.symm, Nat.le_refl _, rfl, rfl, hb, _, Hp.ins_same _ _ _, rfl, hn, List.take_of_length_le (Nat.le_refl _)⟩

end Den
end

section
set_option linter.unusedVariables false
namespace Den
open Go
open Go.ChangeShapes Go.WideShapes Go.ChangeAt Go.RowKit

theorem old_same {D h' : Hp} {w w' : World} (hs : Sub D w) (hf : Fr D w w') (hs' : Sub h' w') (hl : D.le h') : ∀ k, k < w.heap.size → w'.heap[k]? = w.heap[k]? := fun k hk => by
  cases hD : D k with
  | none => exact hf.2.1 k hk hD
  | some b => rw [hs' k b (hl k b hD), hs k b hD]

theorem kept_of_same {w w' : World} (h1 : w'.os = w.os) (h2 : w'.output = w.output) (h3 : ∀ k, k < w.heap.size → w'.heap[k]? = w.heap[k]?) (may : MemPlace → Prop) : w.keptBut w' may := by
  refine ⟨h1, h2, fun i hi => ?_⟩
  rw [h3 i hi]
  exact (World.keptBut_refl w may).2.2 i hi

theorem frozen_of_same {w w' : World} (h3 : ∀ k, k < w.heap.size → w'.heap[k]? = w.heap[k]?) {a : Addr} (ha : a.block < w.heap.size) : w'.frozen? a = w.frozen? a := by
  unfold World.frozen?; rw [h3 _ ha]
section
variable {H : Type} {enc : TypeId × Value → H} {P : Program}

/-- 'post_of_same', with the marks of what was there alone. -/
theorem post_of_same2 {f : Func} {s : ChangeSpec} {apart fresh handsOn again : Bool} {W W' : World} {args : Array Value} {v : Value} {ds gs : List (DataW H)} {before pa pv : List MemPlace}
    (hW : DataW.Whole enc P f.params.toList s.vars apart W args.toList ds gs before)
    (hres : ∀ (b : Nat) (sp : Nat → Bool) (hd : Bool), DataW.TrodAll enc P W' b sp hd f.resultTypes.toList (v.resultList f.resultTypes.size) (s.fn H (ds ++ gs)).results [])
    (hargs : ∀ sp : Nat → Bool, (∀ p ∈ before, sp p.block = true) → DataW.TrodAll enc P W' 0 sp true f.params.toList args.toList (s.fn H (ds ++ gs)).args pa)
    (hvars : ∀ sp : Nat → Bool, (∀ p ∈ before, sp p.block = true) → DataW.TrodVars enc P W' sp s.vars (s.fn H (ds ++ gs)).vars pv)
    (hps : before = pa ++ pv) (hk : W.keptBut W' (· ∈ before)) (hfz : ∀ a, a.block < W.heap.size → W'.frozen? a = W.frozen? a)
    (hok : ∀ (j : Nat) (t : TypeId) (r : Value), f.resultTypes[j]? = some t → (v.resultList f.resultTypes.size)[j]? = some r → Value.okWide P W' .any 0 t r) :
    s.post enc P f apart fresh handsOn again W args v W' := by
  have hold : ∀ p ∈ before, (fun b => decide (b < W.heap.size)) p.block = true := fun p hp => by simpa using hW.lt p hp
  have hlt := hW.lt
  refine ⟨ds, gs, before, [], pa, pv, hW, hres _ _ _, hargs _ hold, hvars _ hold, World.keptBut_mono (fun p hp => ⟨hp, ?_⟩) hk, fun _ => ?_⟩
  · rw [hps, List.mem_append] at hp
    exact Or.inr hp
  · obtain ⟨_, _, _, _, _, hz, hn⟩ := hW
    refine ⟨hok, _, _, ([] ++ pa) ++ pv, ⟨[] ++ pa, pv, trodAll_append (hargs _ (fun _ _ => rfl)) (hres _ _ _), hvars _ (fun _ _ => rfl), rfl, ?_, ?_⟩, ?_⟩
    · intro b off hp
      have hp' : MemPlace.cell b off ∈ before := by rw [hps]; simpa using hp
      rw [hfz _ (hlt _ hp')]
      exact hz b off hp'
    · intro ha
      have := hn ha
      rw [hps] at this
      simpa using this
    · intro p hp _
      rw [hps]
      simpa using hp
end

/-- The call of a law. -/
theorem law_calls {α : Type} {A : ArgT α} {F : α → (Bool → Hp → Prop) → Hp → Prop} {P : Program} {g : Nat} (hE : Entry P g (mkE A (Ty.leaf .bool) F) false) (a : α) (D : Hp) (w : World) (hs : Sub D w)
    (hF : ∀ K : Bool → Hp → Prop, (∀ h', D.le h' → K true h') → F a K D) :
    Calls P g (A.up a).toArray w fun e w' => e = .returned (.bool true) ∧ w'.os = w.os ∧ w'.output = w.output ∧ w.heap.size ≤ w'.heap.size ∧ ∀ k, k < w.heap.size → w'.heap[k]? = w.heap[k]? := by
  refine (hE.fn.2 (A.up a) (fun v h' => v = .bool true ∧ D.le h') D w hs ((A.cmp a _).2 ?_)).mono ?_
  · exact callP_of (fun v _ => v = true) (fun K' hk => hF _ fun h' hl => hk _ _ hl rfl) fun v h' hl hv => by subst hv; exact ⟨rfl, hl⟩
  · rintro e w' ⟨v, h', rfl, ⟨rfl, hl⟩, hs', hf, hd⟩
    exact ⟨rfl, hf.2.2.2.1, hf.2.2.2.2.1, hf.1, old_same hs hf hs' hl⟩
end Den
end

section
set_option linter.unusedVariables false
set_option maxRecDepth 10000
namespace Den
open Go
def idxByte (s : ByteArray) (c : Int) : Int := Lib.indexByte s.data.toList c.toNat.toUInt8
namespace F
def lexer_isLetter (c : Int) (K : Bool → Hp → Prop) (h : Hp) : Prop :=
(ifP (decide (c ≥ 97))
(ifP (decide (c ≤ 122))
(K true h)
(ifP (decide (c ≥ 65))
(K (decide (c ≤ 90)) h)
(K false h)))
(ifP (decide (c ≥ 65))
(K (decide (c ≤ 90)) h)
(K false h)))
def lexer_isDigit (c : Int) (K : Bool → Hp → Prop) (h : Hp) : Prop :=
(ifP (decide (c ≥ 48))
(K (decide (c ≤ 57)) h)
(K false h))
def lexer_isWord (c : Int) (K : Bool → Hp → Prop) (h : Hp) : Prop :=
(callP (lexer_isLetter c) (fun r1 h1 =>
(ifP r1
(K true h1)
(callP (lexer_isDigit c) (fun r2 h2 =>
(ifP r2
(K true h2)
(K (c == 95) h2))) h1))) h)
def lexer_span_lexer_isWord (s : ByteArray) (K : Int → Hp → Prop) (h : Hp) : Prop :=
(loopP (S := Int × Unit) (fun s1 k2 h1 =>
(joinP (S := Unit) (fun s3 h2 =>
(k2 ((IntKind.i64.wrap (s1.1 + 1)), ()) h2))
(fun k4 =>
(ifP (decide (s1.1 < ((s : ByteArray).size : Int)))
(strIdx s s1.1 fun c5 =>
(callP (lexer_isWord c5) (fun r6 h3 =>
(ifP r6
(k4 () h3)
(K s1.1 h3))) h1))
(K s1.1 h1)))))
(0, ()) h)
def lexer_span_lexer_isDigit (s : ByteArray) (K : Int → Hp → Prop) (h : Hp) : Prop :=
(loopP (S := Int × Unit) (fun s1 k2 h1 =>
(joinP (S := Unit) (fun s3 h2 =>
(k2 ((IntKind.i64.wrap (s1.1 + 1)), ()) h2))
(fun k4 =>
(ifP (decide (s1.1 < ((s : ByteArray).size : Int)))
(strIdx s s1.1 fun c5 =>
(callP (lexer_isDigit c5) (fun r6 h3 =>
(ifP r6
(k4 () h3)
(K s1.1 h3))) h1))
(K s1.1 h1)))))
(0, ()) h)
def lexer_number (s : ByteArray) (K : Int → Hp → Prop) (h : Hp) : Prop :=
(callP (lexer_span_lexer_isDigit s) (fun r1 h1 =>
(ifP (decide (r1 < ((s : ByteArray).size : Int)))
(strIdx s r1 fun c2 =>
(ifP (c2 == 46)
(strCut s (IntKind.i64.wrap (r1 + 1)) ((s : ByteArray).size : Int) fun c3 =>
(callP (lexer_span_lexer_isDigit c3) (fun r4 h2 =>
(ifP (decide (r4 > 0))
(K (IntKind.i64.wrap ((IntKind.i64.wrap (r1 + 1)) + r4)) h2)
(K r1 h2))) h1))
(K r1 h1)))
(K r1 h1))) h)
def internal_stringslite_IndexByte (s : ByteArray) (c : Int) (K : Int → Hp → Prop) (h : Hp) : Prop := K (idxByte s c) h
def strings_IndexByte (s : ByteArray) (c : Int) (K : Int → Hp → Prop) (h : Hp) : Prop :=
(callP (internal_stringslite_IndexByte s c) (fun r1 h1 =>
(K r1 h1)) h)
def lexer_quoted (s : ByteArray) (K : Int → Hp → Prop) (h : Hp) : Prop :=
(loopP (S := Int × Unit) (fun s1 k2 h1 =>
(ifP (decide (s1.1 < ((s : ByteArray).size : Int)))
(joinP (S := Int × Unit) (fun s3 h2 =>
(k2 ((IntKind.i64.wrap (s3.1 + 1)), ()) h2))
(fun k4 =>
(strIdx s s1.1 fun c5 =>
(ifP (c5 == 34)
(K (IntKind.i64.wrap (s1.1 + 1)) h1)
(strIdx s s1.1 fun c6 =>
(ifP (decide (c6 < 32))
(K 0 h1)
(strIdx s s1.1 fun c7 =>
(ifP (c7 == 92)
(ifP ((IntKind.i64.wrap (s1.1 + 1)) == ((s : ByteArray).size : Int))
(K 0 h1)
(strIdx s (IntKind.i64.wrap (s1.1 + 1)) fun c8 =>
(callP (strings_IndexByte ⟨#[34, 92, 110]⟩ c8) (fun r9 h3 =>
(ifP (decide (r9 < 0))
(K 0 h3)
(k4 ((IntKind.i64.wrap (s1.1 + 1)), ()) h3))) h1)))
(k4 (s1.1, ()) h1)))))))))
(K 0 h1)))
(1, ()) h)
def lexer_next (s : ByteArray) (K : (Int × Int) → Hp → Prop) (h : Hp) : Prop :=
(strIdx s 0 fun c1 =>
(callP (lexer_isLetter c1) (fun r2 h1 =>
(ifP r2
(callP (lexer_span_lexer_isWord s) (fun r3 h2 =>
(K (1, r3) h2)) h1)
(callP (lexer_isDigit c1) (fun r4 h3 =>
(ifP r4
(callP (lexer_number s) (fun r5 h4 =>
(K (2, r5) h4)) h3)
(ifP (c1 == 34)
(callP (lexer_quoted s) (fun r6 h5 =>
(K (3, r6) h5)) h3)
(ifP (c1 == 10)
(K (5, 1) h3)
(callP (strings_IndexByte ⟨#[43, 45, 42, 47, 40, 41, 91, 93, 123, 125, 44, 58, 59, 61, 46, 60, 62, 64, 35]⟩ c1) (fun r7 h6 =>
(ifP (decide (r7 ≥ 0))
(K (4, 1) h6)
(K (0, 0) h6))) h3))))) h1))) h))
def lexer_Tokens (s : ByteArray) (K : (Sl × Int × Int) → Hp → Prop) (h : Hp) : Prop :=
(ifP (decide (((s : ByteArray).size : Int) > 65536))
(K (nilS, 0, 3) h)
(loopP (S := Sl × Int × Unit) (fun s1 k2 h1 =>
(ifP (decide (s1.2.1 < ((s : ByteArray).size : Int)))
(joinP (S := Int × Unit) (fun s3 h2 =>
(strCut s s3.1 ((s : ByteArray).size : Int) fun c5 =>
(callP (lexer_next c5) (fun r6 h3 =>
(joinP (S := Unit) (fun s7 h4 =>
(strCut s s3.1 (IntKind.i64.wrap (s3.1 + r6.2)) fun c9 =>
(appP 3 32 [.int .i64 0, .string emptyS, .int .i64 0] s1.1 1 [.int .i64 r6.1, .string c9, .int .i64 s3.1] (fun w10 h5 =>
(k2 (w10, (IntKind.i64.wrap (s3.1 + r6.2)), ()) h5)) h4)))
(fun k8 =>
(ifP (r6.2 == 0)
(K (nilS, s3.1, 2) h3)
(ifP (r6.1 == 1)
(ifP (decide (r6.2 > 24))
(K (nilS, s3.1, 3) h3)
(k8 () h3))
(k8 () h3)))))) h2)))
(fun k4 =>
(strIdx s s1.2.1 fun c11 =>
(ifP (c11 == 32)
(k2 (s1.1, (IntKind.i64.wrap (s1.2.1 + 1)), ()) h1)
(strIdx s s1.2.1 fun c12 =>
(ifP (c12 == 9)
(k2 (s1.1, (IntKind.i64.wrap (s1.2.1 + 1)), ()) h1)
(k4 (s1.2.1, ()) h1)))))))
(appP 3 32 [.int .i64 0, .string emptyS, .int .i64 0] s1.1 1 [.int .i64 0, .string emptyS, .int .i64 ((s : ByteArray).size : Int)] (fun w13 h6 =>
(K (w13, 0, 0) h6)) h1)))
(nilS, 0, ()) h))
def law21_same (a : Sl) (b : Sl) (K : Bool → Hp → Prop) (h : Hp) : Prop :=
(ifP ((a.len : Int) != (b.len : Int))
(K false h)
(loopP (S := Int × Unit) (fun s1 k2 h1 =>
(ifP (decide (s1.1 < (a.len : Int)))
(joinP (S := Unit) (fun s3 h2 =>
(k2 ((IntKind.i64.wrap (s1.1 + 1)), ()) h2))
(fun k4 =>
(idxP a s1.1 3 fun a5 =>
(ldL (.int .i64) (a5.add 0) (fun x6_0 =>
(ldL (.str) (a5.add 1) (fun x6_1 =>
(ldL (.int .i64) (a5.add 2) (fun x6_2 =>
(idxP b s1.1 3 fun a7 =>
(ldL (.int .i64) (a7.add 0) (fun x8 =>
(ifP (x6_0 != x8)
(K false h1)
(idxP b s1.1 3 fun a9 =>
(ldL (.str) (a9.add 1) (fun x10 =>
(ifP (!((x6_1 : ByteArray).toList == (x10 : ByteArray).toList))
(K false h1)
(idxP b s1.1 3 fun a11 =>
(ldL (.int .i64) (a11.add 2) (fun x12 =>
(ifP (x6_2 != x12)
(K false h1)
(k4 () h1))) h1)))) h1)))) h1))) h1)) h1)) h1))))
(K true h1)))
(0, ()) h))
def law21_awake (K : Bool → Hp → Prop) (h : Hp) : Prop :=
(callP (lexer_Tokens ⟨#[97, 49, 32, 61, 32, 50, 46, 53, 48, 42, 40, 98, 41]⟩) (fun r1 h1 =>
(callP (lexer_Tokens ⟨#[49, 46, 120]⟩) (fun r2 h2 =>
(callP (lexer_Tokens ⟨#[92]⟩) (fun r3 h3 =>
(newP [.int .i64 1, .string ⟨#[97, 49]⟩, .int .i64 0, .int .i64 4, .string ⟨#[61]⟩, .int .i64 3, .int .i64 2, .string ⟨#[50, 46, 53, 48]⟩, .int .i64 5, .int .i64 4, .string ⟨#[42]⟩, .int .i64 9, .int .i64 4, .string ⟨#[40]⟩, .int .i64 10, .int .i64 1, .string ⟨#[98]⟩, .int .i64 11, .int .i64 4, .string ⟨#[41]⟩, .int .i64 12, .int .i64 0, .string emptyS, .int .i64 13] (fun p4 h4 =>
(callP (law21_same r1.1 (⟨some p4, 8, 8⟩ : Sl)) (fun r5 h5 =>
(ifP r5
(ifP (r1.2.1 == 0)
(ifP (r1.2.2 == 0)
(ifP ((r2.1.len : Int) == 4)
(ifP (r2.2.2 == 0)
(ifP (r3.2.1 == 0)
(K (r3.2.2 == 2) h5)
(K false h5))
(K false h5))
(K false h5))
(K false h5))
(K false h5))
(K false h5))) h4)) h3)) h2)) h1)) h)
def strings_Builder_copyCheck (b : (Option Addr)) (K : Unit → Hp → Prop) (h : Hp) : Prop :=
  ∃ n bl, b = some ⟨n, 0, none⟩ ∧ h n = some bl ∧ bl.elem = 50 ∧ bl.fz = (0, 0) ∧ bl.cells.length = 2 ∧
    ((bl.cells[0]? = some (.pointer none) ∧ K () (h.ins n { bl with cells := bl.cells.set 0 (.pointer b) })) ∨ (bl.cells[0]? = some (.pointer b) ∧ K () h))
def strings_Builder_WriteByte (b : (Option Addr)) (c : Int) (K : Value → Hp → Prop) (h : Hp) : Prop :=
(callM (strings_Builder_copyCheck b) (fun r1 h1 =>
(ptrK b fun p2 =>
(ldL (.sl) (p2.add 1) (fun x3 =>
(appT 5 1 1 [.int .u8 0] x3 1 [.int .u8 c] (fun w4 h2 =>
(ptrK b fun p5 =>
(stP (p5.add 1) [.slice w4.a w4.len w4.cap] (fun h3 =>
(K (.nilIface) h3)) h2))) h1)) h1))) h)
def strings_Builder_String (b : (Option Addr)) (K : ByteArray → Hp → Prop) (h : Hp) : Prop :=
  ∃ n bl p, b = some ⟨n, 0, none⟩ ∧ h n = some bl ∧ bl.elem = 50 ∧ bl.fz = (0, 0) ∧
    ((bl.cells = [p, .slice none 0 0] ∧ K emptyS h) ∨
     (∃ (g c : Nat) (l : List UInt8) (bg : Blk), l ≠ [] ∧ bl.cells = [p, .slice (some ⟨g, 0, none⟩) l.length c] ∧ l.length ≤ c ∧ h g = some bg ∧ bg.elem = 5 ∧ l.length ≤ bg.cells.length ∧ l.length ≤ 140737488355328 ∧
        (∀ (j : Nat) (x : UInt8), l[j]? = some x → bg.cells[j]? = some (.int .u8 x.toNat)) ∧ K ⟨l.toArray⟩ (fun k => if k = g then none else h k)))
def lexer_Unquote (s : ByteArray) (K : (ByteArray × Int) → Hp → Prop) (h : Hp) : Prop :=
(joinP (S := Unit) (fun s1 h1 =>
(newT 50 [.pointer none, .slice nilS.a nilS.len nilS.cap] (fun p3 h2 =>
(loopP (S := Int × Unit) (fun s4 k5 h3 =>
(ifP (decide (s4.1 < (IntKind.i64.wrap (((s : ByteArray).size : Int) - 1))))
(strIdx s s4.1 fun c6 =>
(joinP (S := Int × Int × Unit) (fun s7 h4 =>
(callM (strings_Builder_WriteByte (some p3) s7.2.1) (fun r9 h5 =>
(k5 ((IntKind.i64.wrap (s7.1 + 1)), ()) h5)) h4))
(fun k8 =>
(ifP (c6 == 92)
(strIdx s (IntKind.i64.wrap (s4.1 + 1)) fun c10 =>
(ifP (c10 == 110)
(k8 ((IntKind.i64.wrap (s4.1 + 1)), 10, ()) h3)
(k8 ((IntKind.i64.wrap (s4.1 + 1)), c10, ()) h3)))
(k8 (s4.1, c6, ()) h3)))))
(callM (strings_Builder_String (some p3)) (fun r11 h6 =>
(K (r11, 0) h6)) h3)))
(1, ()) h2)) h1))
(fun k2 =>
(ifP ((s : ByteArray).toList == (emptyS : ByteArray).toList)
(K (emptyS, 2) h)
(strIdx s 0 fun c12 =>
(ifP (c12 != 34)
(K (emptyS, 2) h)
(callP (lexer_quoted s) (fun r13 h7 =>
(ifP (r13 != ((s : ByteArray).size : Int))
(K (emptyS, 2) h7)
(k2 () h7))) h))))))
def strings_Builder_WriteString (b : (Option Addr)) (s : ByteArray) (K : (Int × Value) → Hp → Prop) (h : Hp) : Prop :=
(callM (strings_Builder_copyCheck b) (fun r1 h1 =>
(ptrK b fun p2 =>
(ldL (.sl) (p2.add 1) (fun x3 =>
(appT 5 1 1 [.int .u8 0] x3 ((s : ByteArray).size) (bytesOfS s) (fun w5 h2 =>
(ptrK b fun p6 =>
(stP (p6.add 1) [.slice w5.a w5.len w5.cap] (fun h3 =>
(K (((s : ByteArray).size : Int), .nilIface) h3)) h2))) h1)) h1))) h)
def lexer_Quote (s : ByteArray) (K : ByteArray → Hp → Prop) (h : Hp) : Prop :=
(newT 50 [.pointer none, .slice nilS.a nilS.len nilS.cap] (fun p1 h1 =>
(callM (strings_Builder_WriteByte (some p1) 34) (fun r2 h2 =>
(loopP (S := Int × Unit) (fun s3 k4 h3 =>
(ifP (decide (s3.1 < ((s : ByteArray).size : Int)))
(joinP (S := Unit) (fun s5 h4 =>
(k4 ((IntKind.i64.wrap (s3.1 + 1)), ()) h4))
(fun k6 =>
(strIdx s s3.1 fun c7 =>
(ifP (c7 == 10)
(callM (strings_Builder_WriteString (some p1) ⟨#[92, 110]⟩) (fun r8 h5 =>
(k6 () h5)) h3)
(ifP (decide (c7 < 32))
(K emptyS h3)
(ifP (c7 == 34)
(callM (strings_Builder_WriteByte (some p1) 92) (fun r9 h6 =>
(callM (strings_Builder_WriteByte (some p1) c7) (fun r10 h7 =>
(k6 () h7)) h6)) h3)
(ifP (c7 == 92)
(callM (strings_Builder_WriteByte (some p1) 92) (fun r11 h8 =>
(callM (strings_Builder_WriteByte (some p1) c7) (fun r12 h9 =>
(k6 () h9)) h8)) h3)
(callM (strings_Builder_WriteByte (some p1) c7) (fun r13 h10 =>
(k6 () h10)) h3))))))))
(callM (strings_Builder_WriteByte (some p1) 34) (fun r14 h11 =>
(callM (strings_Builder_String (some p1)) (fun r15 h12 =>
(K r15 h12)) h11)) h3)))
(0, ()) h2)) h1)) h)
def ref21_Quote (s : ByteArray) (K : ByteArray → Hp → Prop) (h : Hp) : Prop :=
(newP [.int .u8 34] (fun p1 h1 =>
(loopP (S := Sl × Int × Unit) (fun s2 k3 h2 =>
(ifP (decide (s2.2.1 < ((s : ByteArray).size : Int)))
(joinP (S := Sl × Unit) (fun s4 h3 =>
(k3 (s4.1, (IntKind.i64.wrap (s2.2.1 + 1)), ()) h3))
(fun k5 =>
(strIdx s s2.2.1 fun c6 =>
(ifP (c6 == 10)
(appP 1 1 [.int .u8 0] s2.1 2 [.int .u8 92, .int .u8 110] (fun w7 h4 =>
(k5 (w7, ()) h4)) h2)
(ifP (decide (c6 < 32))
(K emptyS h2)
(joinP (S := Sl × Unit) (fun s8 h5 =>
(appP 1 1 [.int .u8 0] s8.1 1 [.int .u8 c6] (fun w10 h6 =>
(k5 (w10, ()) h6)) h5))
(fun k9 =>
(ifP (c6 == 34)
(appP 1 1 [.int .u8 0] s2.1 1 [.int .u8 92] (fun w11 h7 =>
(k9 (w11, ()) h7)) h2)
(ifP (c6 == 92)
(appP 1 1 [.int .u8 0] s2.1 1 [.int .u8 92] (fun w12 h8 =>
(k9 (w12, ()) h8)) h2)
(k9 (s2.1, ()) h2))))))))))
(appP 1 1 [.int .u8 0] s2.1 1 [.int .u8 34] (fun w13 h9 =>
(toStr w13 (fun t14 =>
(K t14 h9)) h9)) h2)))
((⟨some p1, 1, 1⟩ : Sl), 0, ()) h1)) h)
def law21_LexerQuote (s : ByteArray) (K : Bool → Hp → Prop) (h : Hp) : Prop :=
(joinP (S := Unit) (fun s1 h1 =>
(callP (lexer_Quote s) (fun r3 h2 =>
(callP (ref21_Quote s) (fun r4 h3 =>
(ifP (!((r3 : ByteArray).toList == (r4 : ByteArray).toList))
(K false h3)
(callP (lexer_Unquote r3) (fun r5 h4 =>
(ifP ((r3 : ByteArray).toList == (emptyS : ByteArray).toList)
(ifP ((r5.1 : ByteArray).toList == (emptyS : ByteArray).toList)
(K (r5.2 == 2) h4)
(K false h4))
(callP (lexer_Tokens r3) (fun r6 h5 =>
(ifP ((r5.1 : ByteArray).toList == (s : ByteArray).toList)
(ifP (r5.2 == 0)
(ifP (r6.2.2 == 0)
(ifP ((r6.1.len : Int) == 2)
(idxP r6.1 0 3 fun a7 =>
(ldL (.int .i64) (a7.add 0) (fun x8 =>
(ifP (x8 == 3)
(idxP r6.1 0 3 fun a9 =>
(ldL (.str) (a9.add 1) (fun x10 =>
(K ((x10 : ByteArray).toList == (r3 : ByteArray).toList) h5)) h5))
(K false h5))) h5))
(K false h5))
(K false h5))
(K false h5))
(K false h5))) h4))) h3))) h2)) h1))
(fun k2 =>
(callP (law21_awake) (fun r11 h6 =>
(ifP (!r11)
(callP (law21_awake) (fun r12 h7 =>
(K r12 h7)) h6)
(ifP (decide (((s : ByteArray).size : Int) > 2000))
(callP (law21_awake) (fun r13 h8 =>
(K r13 h8)) h6)
(k2 () h6)))) h)))
end F
end Den
end

section
set_option maxRecDepth 100000
set_option linter.unusedVariables false
namespace Den
open Go
noncomputable def A_lexer_isLetter : ArgT (Int × Unit) := (ArgT.cons (Ty.leaf (.int .u8)) ArgT.nil)
noncomputable def R_lexer_isLetter : Ty Bool := (Ty.leaf .bool)
noncomputable def e_lexer_isLetter : FSem := mkE A_lexer_isLetter R_lexer_isLetter (fun a => F.lexer_isLetter a.1)
noncomputable def c_lexer_isLetter : Cfg := { P := Go.Proofs.Try.prog, n := 17, tab := [], mutL := [], rtL := [], locL := [] }
noncomputable def b_lexer_isLetter : Code := match Go.Proofs.Try.f25.body with | some c => c | none => .skip
noncomputable def a_lexer_isLetter : An := (.seq .leaf (.seq .leaf .leaf))
theorem t_lexer_isLetter : Entry Go.Proofs.Try.prog 25 e_lexer_isLetter false :=
  entry_of (C := c_lexer_isLetter) (fn := Go.Proofs.Try.f25) (c := b_lexer_isLetter) (an := a_lexer_isLetter) trivial trivial Go.Proofs.Try.func25 rfl rfl (by decide) (fun _ => rfl) (by intro a K D; kernel_rfl)
noncomputable def A_lexer_isDigit : ArgT (Int × Unit) := (ArgT.cons (Ty.leaf (.int .u8)) ArgT.nil)
noncomputable def R_lexer_isDigit : Ty Bool := (Ty.leaf .bool)
noncomputable def e_lexer_isDigit : FSem := mkE A_lexer_isDigit R_lexer_isDigit (fun a => F.lexer_isDigit a.1)
noncomputable def c_lexer_isDigit : Cfg := { P := Go.Proofs.Try.prog, n := 9, tab := [], mutL := [], rtL := [], locL := [] }
noncomputable def b_lexer_isDigit : Code := match Go.Proofs.Try.f32.body with | some c => c | none => .skip
noncomputable def a_lexer_isDigit : An := (.seq .leaf (.seq .leaf .leaf))
theorem t_lexer_isDigit : Entry Go.Proofs.Try.prog 32 e_lexer_isDigit false :=
  entry_of (C := c_lexer_isDigit) (fn := Go.Proofs.Try.f32) (c := b_lexer_isDigit) (an := a_lexer_isDigit) trivial trivial Go.Proofs.Try.func32 rfl rfl (by decide) (fun _ => rfl) (by intro a K D; kernel_rfl)
noncomputable def A_lexer_isWord : ArgT (Int × Unit) := (ArgT.cons (Ty.leaf (.int .u8)) ArgT.nil)
noncomputable def R_lexer_isWord : Ty Bool := (Ty.leaf .bool)
noncomputable def e_lexer_isWord : FSem := mkE A_lexer_isWord R_lexer_isWord (fun a => F.lexer_isWord a.1)
noncomputable def c_lexer_isWord : Cfg := { P := Go.Proofs.Try.prog, n := 13, tab := [(25, e_lexer_isLetter), (32, e_lexer_isDigit)], mutL := [], rtL := [], locL := [] }
noncomputable def b_lexer_isWord : Code := match Go.Proofs.Try.f27.body with | some c => c | none => .skip
noncomputable def a_lexer_isWord : An := (.seq .leaf (.seq .leaf .leaf))
theorem t_lexer_isWord : Entry Go.Proofs.Try.prog 27 e_lexer_isWord false :=
  entry_of (C := c_lexer_isWord) (fn := Go.Proofs.Try.f27) (c := b_lexer_isWord) (an := a_lexer_isWord) ⟨t_lexer_isLetter, t_lexer_isDigit, trivial⟩ trivial Go.Proofs.Try.func27 rfl rfl (by decide) (fun _ => rfl) (by intro a K D; kernel_rfl)
noncomputable def A_lexer_span_lexer_isWord : ArgT (ByteArray × Unit) := (ArgT.cons (Ty.leaf .str) (ArgT.fn 27 ArgT.nil))
noncomputable def R_lexer_span_lexer_isWord : Ty Int := (Ty.leaf (.int .i64))
noncomputable def e_lexer_span_lexer_isWord : FSem := mkE A_lexer_span_lexer_isWord R_lexer_span_lexer_isWord (fun a => F.lexer_span_lexer_isWord a.1)
noncomputable def c_lexer_span_lexer_isWord : Cfg := { P := Go.Proofs.Try.prog, n := 20, tab := [(27, e_lexer_isWord)], mutL := [], rtL := [], locL := [] }
noncomputable def b_lexer_span_lexer_isWord : Code := match Go.Proofs.Try.f26.body with | some c => c | none => .skip
noncomputable def a_lexer_span_lexer_isWord : An := (.seq .leaf (.seq .leaf (.seq (.block (.loop [(5, .leaf (.int .i64))] (.join [] (.seq .leaf (.cond .leaf .leaf)) (.block .leaf)))) (.seq .leaf .leaf))))
theorem t_lexer_span_lexer_isWord : Entry Go.Proofs.Try.prog 26 e_lexer_span_lexer_isWord false :=
  entry_of (C := c_lexer_span_lexer_isWord) (fn := Go.Proofs.Try.f26) (c := b_lexer_span_lexer_isWord) (an := a_lexer_span_lexer_isWord) ⟨t_lexer_isWord, trivial⟩ trivial Go.Proofs.Try.func26 rfl rfl (by decide) (fun _ => rfl) (by intro a K D; kernel_rfl)
noncomputable def A_lexer_span_lexer_isDigit : ArgT (ByteArray × Unit) := (ArgT.cons (Ty.leaf .str) (ArgT.fn 32 ArgT.nil))
noncomputable def R_lexer_span_lexer_isDigit : Ty Int := (Ty.leaf (.int .i64))
noncomputable def e_lexer_span_lexer_isDigit : FSem := mkE A_lexer_span_lexer_isDigit R_lexer_span_lexer_isDigit (fun a => F.lexer_span_lexer_isDigit a.1)
noncomputable def c_lexer_span_lexer_isDigit : Cfg := { P := Go.Proofs.Try.prog, n := 20, tab := [(32, e_lexer_isDigit)], mutL := [], rtL := [], locL := [] }
noncomputable def b_lexer_span_lexer_isDigit : Code := match Go.Proofs.Try.f26.body with | some c => c | none => .skip
noncomputable def a_lexer_span_lexer_isDigit : An := (.seq .leaf (.seq .leaf (.seq (.block (.loop [(5, .leaf (.int .i64))] (.join [] (.seq .leaf (.cond .leaf .leaf)) (.block .leaf)))) (.seq .leaf .leaf))))
theorem t_lexer_span_lexer_isDigit : Entry Go.Proofs.Try.prog 26 e_lexer_span_lexer_isDigit false :=
  entry_of (C := c_lexer_span_lexer_isDigit) (fn := Go.Proofs.Try.f26) (c := b_lexer_span_lexer_isDigit) (an := a_lexer_span_lexer_isDigit) ⟨t_lexer_isDigit, trivial⟩ trivial Go.Proofs.Try.func26 rfl rfl (by decide) (fun _ => rfl) (by intro a K D; kernel_rfl)
noncomputable def A_lexer_number : ArgT (ByteArray × Unit) := (ArgT.cons (Ty.leaf .str) ArgT.nil)
noncomputable def R_lexer_number : Ty Int := (Ty.leaf (.int .i64))
noncomputable def e_lexer_number : FSem := mkE A_lexer_number R_lexer_number (fun a => F.lexer_number a.1)
noncomputable def c_lexer_number : Cfg := { P := Go.Proofs.Try.prog, n := 29, tab := [(26, e_lexer_span_lexer_isDigit)], mutL := [], rtL := [], locL := [] }
noncomputable def b_lexer_number : Code := match Go.Proofs.Try.f33.body with | some c => c | none => .skip
noncomputable def a_lexer_number : An := (.seq .leaf (.seq .leaf (.seq (.seq .leaf (.cond (.seq .leaf (.seq .leaf (.cond (.seq .leaf .leaf) .leaf))) .leaf)) (.seq .leaf .leaf))))
theorem t_lexer_number : Entry Go.Proofs.Try.prog 33 e_lexer_number false :=
  entry_of (C := c_lexer_number) (fn := Go.Proofs.Try.f33) (c := b_lexer_number) (an := a_lexer_number) ⟨t_lexer_span_lexer_isDigit, trivial⟩ trivial Go.Proofs.Try.func33 rfl rfl (by decide) (fun _ => rfl) (by intro a K D; kernel_rfl)
noncomputable def A_internal_stringslite_IndexByte : ArgT (ByteArray × Int × Unit) := (ArgT.cons (Ty.leaf .str) (ArgT.cons (Ty.leaf (.int .u8)) ArgT.nil))
noncomputable def R_internal_stringslite_IndexByte : Ty Int := (Ty.leaf (.int .i64))
noncomputable def e_internal_stringslite_IndexByte : FSem := mkE A_internal_stringslite_IndexByte R_internal_stringslite_IndexByte (fun a => F.internal_stringslite_IndexByte a.1 a.2.1)
set_option maxHeartbeats 1000000 in
theorem q_internal_stringslite_IndexByte (s : ByteArray) (c : Int) (w : World) :
    Calls Go.Proofs.Try.prog 39 #[.string s, .int .u8 c] w fun e w' => e = .returned (.int .i64 (Lib.indexByte s.data.toList c.toNat.toUInt8)) ∧ w' = w := by
  go_enter Go.Proofs.Try.func39, Go.Proofs.Try.ntmps39
  go_wp2
  rw [run_callFunc_extern Go.Proofs.Try.func41 (by kernel_rfl) (by kernel_rfl) (by kernel_rfl) (e := Extern.BytealgIndexByte.indexByte) (by kernel_rfl), Lib.run_indexByteString]
  simp only [Result.andThen]
  rw [Oper.upon_value]
  go_wp2
  go_ret
  exact ⟨rfl, rfl⟩
theorem t_internal_stringslite_IndexByte : Entry Go.Proofs.Try.prog 39 e_internal_stringslite_IndexByte false :=
  mkE_entry ⟨_, Go.Proofs.Try.func39, rfl, by decide⟩ (fun a K D w hs hk => by
    refine (q_internal_stringslite_IndexByte a.1 a.2.1 w).mono ?_
    rintro e w' ⟨rfl, rfl⟩
    exact ⟨_, D, rfl, (R_internal_stringslite_IndexByte.cmp _ _).2 hk, hs, Fr.refl _ _, fun k h1 h2 => absurd h2 h1⟩)
noncomputable def A_strings_IndexByte : ArgT (ByteArray × Int × Unit) := (ArgT.cons (Ty.leaf .str) (ArgT.cons (Ty.leaf (.int .u8)) ArgT.nil))
noncomputable def R_strings_IndexByte : Ty Int := (Ty.leaf (.int .i64))
noncomputable def e_strings_IndexByte : FSem := mkE A_strings_IndexByte R_strings_IndexByte (fun a => F.strings_IndexByte a.1 a.2.1)
noncomputable def c_strings_IndexByte : Cfg := { P := Go.Proofs.Try.prog, n := 8, tab := [(39, e_internal_stringslite_IndexByte)], mutL := [], rtL := [], locL := [] }
noncomputable def b_strings_IndexByte : Code := match Go.Proofs.Try.f34.body with | some c => c | none => .skip
noncomputable def a_strings_IndexByte : An := (.seq .leaf (.seq .leaf .leaf))
theorem t_strings_IndexByte : Entry Go.Proofs.Try.prog 34 e_strings_IndexByte false :=
  entry_of (C := c_strings_IndexByte) (fn := Go.Proofs.Try.f34) (c := b_strings_IndexByte) (an := a_strings_IndexByte) ⟨t_internal_stringslite_IndexByte, trivial⟩ trivial Go.Proofs.Try.func34 rfl rfl (by decide) (fun _ => rfl) (by intro a K D; kernel_rfl)
noncomputable def A_lexer_quoted : ArgT (ByteArray × Unit) := (ArgT.cons (Ty.leaf .str) ArgT.nil)
noncomputable def R_lexer_quoted : Ty Int := (Ty.leaf (.int .i64))
noncomputable def e_lexer_quoted : FSem := mkE A_lexer_quoted R_lexer_quoted (fun a => F.lexer_quoted a.1)
noncomputable def c_lexer_quoted : Cfg := { P := Go.Proofs.Try.prog, n := 40, tab := [(34, e_strings_IndexByte)], mutL := [], rtL := [], locL := [] }
noncomputable def b_lexer_quoted : Code := match Go.Proofs.Try.f28.body with | some c => c | none => .skip
noncomputable def a_lexer_quoted : An := (.seq .leaf (.seq (.seq .leaf (.block (.loop [(3, .leaf (.int .i64))] (.seq (.seq .leaf (.cond .leaf .leaf)) (.join [(3, .leaf (.int .i64))] (.block (.block (.seq .leaf (.cond (.seq .leaf .leaf) (.seq .leaf (.cond (.seq .leaf .leaf) (.seq .leaf (.cond (.seq .leaf (.seq .leaf (.cond (.seq .leaf .leaf) .leaf))) .leaf)))))))) .leaf))))) (.seq .leaf .leaf)))
theorem t_lexer_quoted : Entry Go.Proofs.Try.prog 28 e_lexer_quoted false :=
  entry_of (C := c_lexer_quoted) (fn := Go.Proofs.Try.f28) (c := b_lexer_quoted) (an := a_lexer_quoted) ⟨t_strings_IndexByte, trivial⟩ trivial Go.Proofs.Try.func28 rfl rfl (by decide) (fun _ => rfl) (by intro a K D; kernel_rfl)
noncomputable def A_lexer_next : ArgT (ByteArray × Unit) := (ArgT.cons (Ty.leaf .str) ArgT.nil)
noncomputable def R_lexer_next : Ty (Int × Int) := (Ty.tup (.cons (Ty.leaf (.int .i64)) (.cons (Ty.leaf (.int .i64)) .nil)) (fun x => (x.1, x.2, ())) (fun y => (y.1, y.2.1)) (fun _ => rfl) (fun _ => rfl))
noncomputable def e_lexer_next : FSem := mkE A_lexer_next R_lexer_next (fun a => F.lexer_next a.1)
noncomputable def c_lexer_next : Cfg := { P := Go.Proofs.Try.prog, n := 29, tab := [(25, e_lexer_isLetter), (26, e_lexer_span_lexer_isWord), (32, e_lexer_isDigit), (33, e_lexer_number), (28, e_lexer_quoted), (34, e_strings_IndexByte)], mutL := [], rtL := [], locL := [] }
noncomputable def b_lexer_next : Code := match Go.Proofs.Try.f20.body with | some c => c | none => .skip
noncomputable def a_lexer_next : An := (.seq .leaf (.seq (.seq .leaf (.block (.seq .leaf (.cond (.seq .leaf .leaf) (.seq .leaf (.cond (.seq .leaf .leaf) (.seq .leaf (.cond (.seq .leaf .leaf) (.seq .leaf (.cond (.seq .leaf .leaf) (.seq .leaf (.cond (.seq .leaf .leaf) .leaf)))))))))))) (.seq .leaf .leaf)))
theorem t_lexer_next : Entry Go.Proofs.Try.prog 20 e_lexer_next false :=
  entry_of (C := c_lexer_next) (fn := Go.Proofs.Try.f20) (c := b_lexer_next) (an := a_lexer_next) ⟨t_lexer_isLetter, t_lexer_span_lexer_isWord, t_lexer_isDigit, t_lexer_number, t_lexer_quoted, t_strings_IndexByte, trivial⟩ trivial Go.Proofs.Try.func20 rfl rfl (by decide) (fun _ => rfl) (by intro a K D; kernel_rfl)
noncomputable def A_lexer_Tokens : ArgT (ByteArray × Unit) := (ArgT.cons (Ty.leaf .str) ArgT.nil)
noncomputable def R_lexer_Tokens : Ty (Sl × Int × Int) := (Ty.tup (.cons (Ty.leaf .sl) (.cons (Ty.leaf (.int .i64)) (.cons (Ty.leaf (.int .i64)) .nil))) (fun x => (x.1, x.2.1, x.2.2, ())) (fun y => (y.1, y.2.1, y.2.2.1)) (fun _ => rfl) (fun _ => rfl))
noncomputable def e_lexer_Tokens : FSem := mkE A_lexer_Tokens R_lexer_Tokens (fun a => F.lexer_Tokens a.1)
noncomputable def c_lexer_Tokens : Cfg := { P := Go.Proofs.Try.prog, n := 68, tab := [(20, e_lexer_next)], mutL := [], rtL := [], locL := [57, 66] }
noncomputable def b_lexer_Tokens : Code := match Go.Proofs.Try.f11.body with | some c => c | none => .skip
noncomputable def a_lexer_Tokens : An := (.seq .leaf (.seq (.seq .leaf (.cond (.seq .leaf .leaf) .leaf)) (.seq .leaf (.seq (.seq .leaf (.block (.loop [(5, .leaf (.sl)), (6, .leaf (.int .i64))] (.seq (.seq .leaf (.cond .leaf .leaf)) (.block (.join [(6, .leaf (.int .i64))] (.seq .leaf (.cond (.seq .leaf .leaf) .leaf)) (.seq .leaf (.join [] (.block (.seq .leaf (.cond (.seq .leaf .leaf) (.seq .leaf (.cond (.seq .leaf .leaf) .leaf))))) (.seq .leaf .leaf))))))))) (.seq .leaf .leaf)))))
theorem t_lexer_Tokens : Entry Go.Proofs.Try.prog 11 e_lexer_Tokens false :=
  entry_of (C := c_lexer_Tokens) (fn := Go.Proofs.Try.f11) (c := b_lexer_Tokens) (an := a_lexer_Tokens) ⟨t_lexer_next, trivial⟩ trivial Go.Proofs.Try.func11 rfl rfl (by decide) (fun _ => rfl) (by intro a K D; kernel_rfl)
noncomputable def A_law21_same : ArgT (Sl × Sl × Unit) := (ArgT.cons (Ty.leaf .sl) (ArgT.cons (Ty.leaf .sl) ArgT.nil))
noncomputable def R_law21_same : Ty Bool := (Ty.leaf .bool)
noncomputable def e_law21_same : FSem := mkE A_law21_same R_law21_same (fun a => F.law21_same a.1 a.2.1)
noncomputable def c_law21_same : Cfg := { P := Go.Proofs.Try.prog, n := 48, tab := [], mutL := [], rtL := [(19, 6), (28, 6), (38, 6)], locL := [6] }
noncomputable def b_law21_same : Code := match Go.Proofs.Try.f13.body with | some c => c | none => .skip
noncomputable def a_law21_same : An := (.seq .leaf (.seq (.seq .leaf (.cond (.seq .leaf .leaf) .leaf)) (.seq (.seq .leaf (.block (.loop [(14, .leaf (.int .i64))] (.seq .leaf (.seq (.cond .leaf .leaf) (.join [] (.block (.seq .leaf (.seq (.draw [0, 1, 2, 3, 4, 5, 6, 7, 8, 9, 10, 11, 12, 13, 14, 15, 16, 17, 18, 19, 20, 21, 22, 23, 24, 25, 26, 27]) (.cond (.seq .leaf .leaf) .leaf)))) .leaf)))))) (.seq .leaf .leaf))))
theorem t_law21_same : Entry Go.Proofs.Try.prog 13 e_law21_same false :=
  entry_of (C := c_law21_same) (fn := Go.Proofs.Try.f13) (c := b_law21_same) (an := a_law21_same) trivial trivial Go.Proofs.Try.func13 rfl rfl (by decide) (fun _ => rfl) (by intro a K D; kernel_rfl)
noncomputable def A_law21_awake : ArgT (Unit) := ArgT.nil
noncomputable def R_law21_awake : Ty Bool := (Ty.leaf .bool)
noncomputable def e_law21_awake : FSem := mkE A_law21_awake R_law21_awake (fun a => F.law21_awake )
noncomputable def c_law21_awake : Cfg := { P := Go.Proofs.Try.prog, n := 61, tab := [(11, e_lexer_Tokens), (13, e_law21_same)], mutL := [], rtL := [], locL := [] }
noncomputable def b_law21_awake : Code := match Go.Proofs.Try.f10.body with | some c => c | none => .skip
noncomputable def a_law21_awake : An := (.seq .leaf (.seq .leaf (.seq .leaf (.seq .leaf (.seq .leaf .leaf)))))
theorem t_law21_awake : Entry Go.Proofs.Try.prog 10 e_law21_awake false :=
  entry_of (C := c_law21_awake) (fn := Go.Proofs.Try.f10) (c := b_law21_awake) (an := a_law21_awake) ⟨t_lexer_Tokens, t_law21_same, trivial⟩ trivial Go.Proofs.Try.func10 rfl rfl (by decide) (fun _ => rfl) (by intro a K D; kernel_rfl)
noncomputable def A_strings_Builder_copyCheck : ArgT ((Option Addr) × Unit) := (ArgT.cons (Ty.leaf .ptr) ArgT.nil)
noncomputable def R_strings_Builder_copyCheck : Ty Unit := Ty.unit
noncomputable def e_strings_Builder_copyCheck : FSem := mkM A_strings_Builder_copyCheck R_strings_Builder_copyCheck (fun a => F.strings_Builder_copyCheck a.1)
set_option maxHeartbeats 1000000 in
set_option maxRecDepth 100000 in
theorem qu_strings_Builder_copyCheck (b : Nat) (w : World) (h0 : w.cell? ⟨b, 0, none⟩ = some (.pointer (some ⟨b, 0, none⟩))) :
    Calls Go.Proofs.Try.prog 38 #[.pointer (some ⟨b, 0, none⟩)] w fun e w' => e = .returned (.tuple #[]) ∧ w' = w := by
  obtain ⟨j, hj, _⟩ := Option.map_eq_some_iff.1 (show (Go.Proofs.Try.prog.info? 50).map (·.size) = some 2 by kernel_rfl)
  go_enter Go.Proofs.Try.func38, Go.Proofs.Try.ntmps38
  go_wp2
  rw [Lib.run_neq_ptr_same w _ Go.Proofs.Try.underlying48 hj]
  go_wp2
  go_end0
  exact ⟨rfl, rfl⟩
set_option maxHeartbeats 1000000 in
set_option maxRecDepth 100000 in
theorem qf_strings_Builder_copyCheck (b : Nat) (w : World) (h0 : w.cell? ⟨b, 0, none⟩ = some (.pointer none)) (hsh : w.shape? b = some (50, 2)) (hfz : w.frozen? ⟨b, 0, none⟩ = false) :
    Calls Go.Proofs.Try.prog 38 #[.pointer (some ⟨b, 0, none⟩)] w fun e w' => e = .returned (.tuple #[]) ∧ w' = w.setCell ⟨b, 0, none⟩ (.pointer (some ⟨b, 0, none⟩)) := by
  obtain ⟨j, hj, hjs⟩ := Option.map_eq_some_iff.1 (show (Go.Proofs.Try.prog.info? 50).map (·.size) = some 2 by kernel_rfl)
  have hli : liesAt Go.Proofs.Try.prog Go.Proofs.Try.prog.depth 50 (2 / Go.Proofs.Try.prog.cellsOf 50) 0 50 1 = true := by kernel_rfl
  go_enter Go.Proofs.Try.func38, Go.Proofs.Try.ntmps38
  go_wp2
  rw [Lib.run_to_unsafe w ⟨b, 0, none⟩ Go.Proofs.Try.underlying48 Go.Proofs.Try.underlying59 hj (by rw [hjs]; decide) hsh (Nat.zero_lt_succ 1)]
  simp only [Result.andThen]
  rw [Oper.upon_value]
  go_wp2
  rw [run_callFunc_extern Go.Proofs.Try.func40 (by kernel_rfl) (by kernel_rfl) (by kernel_rfl) (e := Extern.AbiNoEscape.same) (by kernel_rfl)]
  rw [Lib.run_noEscape]
  simp only [Result.andThen]
  rw [Oper.upon_value]
  go_wp2
  rw [Lib.run_from_unsafe w ⟨b, 0, none⟩ Go.Proofs.Try.underlying59 Go.Proofs.Try.underlying48 hj hsh hli]
  simp only [Result.andThen]
  rw [Oper.upon_value]
  go_wp2
  go_end0
  exact ⟨rfl, rfl⟩
theorem t_strings_Builder_copyCheck : Entry Go.Proofs.Try.prog 38 e_strings_Builder_copyCheck true :=
  mkM_entry ⟨_, Go.Proofs.Try.func38, rfl, by decide⟩ (fun a K D w hs hk => by
    obtain ⟨p, u⟩ := a
    obtain ⟨b, bl, hp, hb, he, hf, hl, hc⟩ := hk
    simp only at hp
    subst hp
    have hw := hs _ _ hb
    have hlt := block_lt hw
    rw [he, hf] at hw
    rcases hc with ⟨h0, hK⟩ | ⟨h0, hK⟩
    · have c0 : w.cell? ⟨b, 0, none⟩ = some (.pointer none) := by unfold World.cell?; simp only [hw]; simp [h0]
      refine (qf_strings_Builder_copyCheck b w c0 (by simp [World.shape?, hw, hl]) (by unfold World.frozen?; simp only [hw]; simp)).mono ?_
      rintro e w' ⟨rfl, rfl⟩
      refine ⟨_, _, rfl, (R_strings_Builder_copyCheck.cmp _ _).2 hK, ?_, ?_, ?_⟩
      · intro k c hk
        rw [setCell_blk hw]
        by_cases hkb : k = b
        · subst hkb
          rw [Hp.ins_same] at hk; cases hk
          rw [setBlk_same hlt]
          simp [he, hf]
        · rw [Hp.ins_ne hkb] at hk; rw [setBlk_ne hkb]; exact hs k c hk
      · rw [setCell_blk hw]
        refine ⟨by rw [setBlk_size]; exact Nat.le_refl _, fun k hk1 hk2 => ?_, rfl, rfl, rfl, Nat.le_refl _⟩
        exact setBlk_ne fun hh => by rw [hh, hb] at hk2; cases hk2
      · intro k hk1 hk2
        have hkb : k ≠ b := fun hh => by rw [hh, hb] at hk2; cases hk2
        rw [Hp.ins_ne hkb] at hk1; exact absurd hk2 hk1
    · have c0 : w.cell? ⟨b, 0, none⟩ = some (.pointer (some ⟨b, 0, none⟩)) := by unfold World.cell?; simp only [hw]; simp [h0]
      refine (qu_strings_Builder_copyCheck b w c0).mono ?_
      rintro e w' ⟨rfl, rfl⟩
      exact ⟨_, D, rfl, (R_strings_Builder_copyCheck.cmp _ _).2 hK, hs, Fr.refl _ _, fun k h1 h2 => absurd h2 h1⟩)
noncomputable def A_strings_Builder_WriteByte : ArgT ((Option Addr) × Int × Unit) := (ArgT.cons (Ty.leaf .ptr) (ArgT.cons (Ty.leaf (.int .u8)) ArgT.nil))
noncomputable def R_strings_Builder_WriteByte : Ty Value := (Ty.leaf .val)
noncomputable def e_strings_Builder_WriteByte : FSem := mkM A_strings_Builder_WriteByte R_strings_Builder_WriteByte (fun a => F.strings_Builder_WriteByte a.1 a.2.1)
noncomputable def c_strings_Builder_WriteByte : Cfg := { P := Go.Proofs.Try.prog, n := 17, tab := [(38, e_strings_Builder_copyCheck)], mutL := [38], rtL := [], locL := [13], tyL := [5] }
noncomputable def b_strings_Builder_WriteByte : Code := match Go.Proofs.Try.f29.body with | some c => c | none => .skip
noncomputable def a_strings_Builder_WriteByte : An := (.seq .leaf (.seq .leaf (.seq .leaf (.seq .leaf .leaf))))
theorem t_strings_Builder_WriteByte : Entry Go.Proofs.Try.prog 29 e_strings_Builder_WriteByte true :=
  entryM_of (C := c_strings_Builder_WriteByte) (fn := Go.Proofs.Try.f29) (c := b_strings_Builder_WriteByte) (an := a_strings_Builder_WriteByte) ⟨t_strings_Builder_copyCheck, trivial⟩ trivial Go.Proofs.Try.func29 rfl rfl (by decide) (fun _ => rfl) (by intro a K D; kernel_rfl)
end Den
end

section
set_option maxRecDepth 100000
set_option linter.unusedVariables false
namespace Den
open Go
noncomputable def A_strings_Builder_String : ArgT ((Option Addr) × Unit) := (ArgT.cons (Ty.leaf .ptr) ArgT.nil)
noncomputable def R_strings_Builder_String : Ty ByteArray := (Ty.leaf .str)
noncomputable def e_strings_Builder_String : FSem := mkM A_strings_Builder_String R_strings_Builder_String (fun a => F.strings_Builder_String a.1)
set_option maxHeartbeats 2000000 in
set_option maxRecDepth 100000 in
theorem qn_strings_Builder_String (b : Nat) (p : Value) (w : World) (hbk : w.heap[b]? = some (.cells #[p, .slice none 0 0] 50 (0, 0))) :
    Calls Go.Proofs.Try.prog 30 #[.pointer (some ⟨b, 0, none⟩)] w fun e w' => e = .returned (.string ⟨#[]⟩) ∧ w' = w.drew := by
  have hUS : ∀ (W : World) (q : Option Addr), (Builtin.unsafeString_ #[58, 3] 9 #[.pointer q, .int .i64 0]).run Go.Proofs.Try.prog W = .ok (.string .empty) W := fun W q => Lib.run_unsafeString_none W _ _ _ q
  have c1 : w.drew.cell? ⟨b, 1, none⟩ = some (.slice none 0 0) := by
    have : w.drew.heap[b]? = some (.cells #[p, .slice none 0 0] 50 (0, 0)) := hbk
    rw [Lib.cell_of_heap this]; rfl
  have hSD : (Builtin.unsafeSliceData_ #[34] 58 #[.slice none 0 0]).run Go.Proofs.Try.prog w.drew = .ok (.pointer none) w.drew := rfl
  go_enter Go.Proofs.Try.func30, Go.Proofs.Try.ntmps30
  go_wp2
  go_region
  all_goals (go_wp2; go_ret; exact ⟨rfl, rfl⟩)
set_option maxHeartbeats 2000000 in
set_option maxRecDepth 100000 in
theorem qs_strings_Builder_String (b g cap cells : Nat) (p : Value) (l : List UInt8) (w : World) (h0 : l ≠ []) (hbk : w.heap[b]? = some (.cells #[p, .slice (some ⟨g, 0, none⟩) l.length cap] 50 (0, 0))) (hc : l.length ≤ cap) (hsh : w.shape? g = some (5, cells)) (hn : l.length ≤ cells) (h63 : l.length ≤ 140737488355328)
    (hcell : ∀ j x, l[j]? = some x → w.cell? ((⟨g, 0, none⟩ : Addr).add j) = some (.int .u8 x.toNat)) :
    Calls Go.Proofs.Try.prog 30 #[.pointer (some ⟨b, 0, none⟩)] w fun e w' => e = .returned (.string ⟨l.toArray⟩) ∧ w' = w.drew.freeze ⟨g, 0, none⟩ l.length := by
  have hl0 : l.length ≠ 0 := by simpa using h0
  have c1 : w.drew.cell? ⟨b, 1, none⟩ = some (.slice (some ⟨g, 0, none⟩) l.length cap) := by
    have : w.drew.heap[b]? = some (.cells #[p, .slice (some ⟨g, 0, none⟩) l.length cap] 50 (0, 0)) := hbk
    rw [Lib.cell_of_heap this]; rfl
  have hSD : (Builtin.unsafeSliceData_ #[34] 58 #[.slice (some ⟨g, 0, none⟩) l.length cap]).run Go.Proofs.Try.prog w.drew = .ok (.pointer (some ⟨g, 0, none⟩)) w.drew :=
    Lib.run_unsafeSliceData_row _ _ _ _ _ _ (by omega)
  have hUS : (Builtin.unsafeString_ #[58, 3] 9 #[.pointer (some ⟨g, 0, none⟩), .int .i64 l.length]).run Go.Proofs.Try.prog w.drew = .ok (.string ⟨l.toArray⟩) (w.drew.freeze ⟨g, 0, none⟩ l.length) :=
    Lib.run_unsafeString_row w.drew 58 3 9 5 Go.Proofs.Try.underlying58 (by kernel_rfl) g cells hsh l h0 hn (by omega) hcell
  go_enter Go.Proofs.Try.func30, Go.Proofs.Try.ntmps30
  go_wp2
  go_region
  all_goals (go_wp2; go_ret; exact ⟨rfl, rfl⟩)
theorem t_strings_Builder_String : Entry Go.Proofs.Try.prog 30 e_strings_Builder_String true :=
  mkM_entry ⟨_, Go.Proofs.Try.func30, rfl, by decide⟩ (fun a K D w hs hk => by
    obtain ⟨q, u⟩ := a
    obtain ⟨b, bl, p, hp, hb, he, hf, hc⟩ := hk
    simp only at hp
    subst hp
    have hw := hs _ _ hb
    rw [he, hf] at hw
    rcases hc with ⟨hcs, hK⟩ | ⟨g, c, l, bg, h0, hcs, hlc, hg, hge, hlg, h63, hall, hK⟩
    · rw [hcs] at hw
      refine (qn_strings_Builder_String b p w hw).mono ?_
      rintro e w' ⟨rfl, rfl⟩
      exact ⟨_, D, rfl, (R_strings_Builder_String.cmp _ _).2 hK, hs, drew_fr D w, fun k h1 h2 => absurd h2 h1⟩
    · rw [hcs] at hw
      have hwg := hs _ _ hg
      rw [hge] at hwg
      have hltg := block_lt hwg
      refine (qs_strings_Builder_String b g c bg.cells.length p l w h0 hw hlc (by simp [World.shape?, hwg]) hlg h63 (fun j x hj => ?_)).mono ?_
      · rw [addr_add, Nat.zero_add]
        unfold World.cell?
        simp only [hwg]
        simp [hall j x hj]
      · rintro e w' ⟨rfl, rfl⟩
        have hsz : (w.drew.freeze ⟨g, 0, none⟩ l.length).heap.size = w.heap.size := by
          unfold World.freeze
          split
          · rfl
          · simp only [Array.size_modify]
            rfl
        have hne : ∀ k, k ≠ g → (w.drew.freeze ⟨g, 0, none⟩ l.length).heap[k]? = w.heap[k]? := fun k hk => by
          unfold World.freeze
          split
          · rfl
          · simp only [Array.getElem?_modify]
            rw [if_neg (fun hh => hk hh.symm)]
            rfl
        refine ⟨_, _, rfl, (R_strings_Builder_String.cmp _ _).2 hK, ?_, ?_, ?_⟩
        · intro k cb hk
          by_cases hkg : k = g
          · simp [hkg] at hk
          · simp only [if_neg hkg] at hk
            rw [hne k hkg]; exact hs k cb hk
        · refine ⟨Nat.le_of_eq hsz.symm, fun k hk1 hk2 => ?_, ?_, ?_, ?_, ?_⟩
          · exact hne k fun hh => by rw [hh, hg] at hk2; cases hk2
          · unfold World.freeze; split <;> rfl
          · unfold World.freeze; split <;> rfl
          · unfold World.freeze; split <;> rfl
          · unfold World.freeze; split <;> exact Nat.le_succ _
        · intro k hk1 hk2
          by_cases hkg : k = g
          · simp [hkg] at hk1
          · simp only [if_neg hkg] at hk1; exact absurd hk2 hk1)
noncomputable def A_lexer_Unquote : ArgT (ByteArray × Unit) := (ArgT.cons (Ty.leaf .str) ArgT.nil)
noncomputable def R_lexer_Unquote : Ty (ByteArray × Int) := (Ty.tup (.cons (Ty.leaf .str) (.cons (Ty.leaf (.int .i64)) .nil)) (fun x => (x.1, x.2, ())) (fun y => (y.1, y.2.1)) (fun _ => rfl) (fun _ => rfl))
noncomputable def e_lexer_Unquote : FSem := mkE A_lexer_Unquote R_lexer_Unquote (fun a => F.lexer_Unquote a.1)
noncomputable def c_lexer_Unquote : Cfg := { P := Go.Proofs.Try.prog, n := 43, tab := [(29, e_strings_Builder_WriteByte), (30, e_strings_Builder_String), (28, e_lexer_quoted)], mutL := [29, 30], rtL := [], locL := [], tyL := [50] }
noncomputable def b_lexer_Unquote : Code := match Go.Proofs.Try.f16.body with | some c => c | none => .skip
noncomputable def a_lexer_Unquote : An := (.seq .leaf (.join [] (.seq .leaf (.cond (.seq .leaf .leaf) .leaf)) (.seq .leaf (.seq (.seq .leaf (.block (.loop [(5, .leaf (.int .i64))] (.seq (.seq .leaf (.cond .leaf .leaf)) (.seq (.block (.seq .leaf (.join [(5, .leaf (.int .i64)), (6, .leaf (.int .u8))] (.seq .leaf (.cond (.seq .leaf (.seq .leaf (.seq .leaf (.cond .leaf .leaf)))) .leaf)) .leaf))) .leaf))))) (.seq .leaf .leaf)))))
theorem t_lexer_Unquote : Entry Go.Proofs.Try.prog 16 e_lexer_Unquote false :=
  entry_of (C := c_lexer_Unquote) (fn := Go.Proofs.Try.f16) (c := b_lexer_Unquote) (an := a_lexer_Unquote) ⟨t_strings_Builder_WriteByte, t_strings_Builder_String, t_lexer_quoted, trivial⟩ trivial Go.Proofs.Try.func16 rfl rfl (by decide) (fun _ => rfl) (by intro a K D; kernel_rfl)
noncomputable def A_strings_Builder_WriteString : ArgT ((Option Addr) × ByteArray × Unit) := (ArgT.cons (Ty.leaf .ptr) (ArgT.cons (Ty.leaf .str) ArgT.nil))
noncomputable def R_strings_Builder_WriteString : Ty (Int × Value) := (Ty.tup (.cons (Ty.leaf (.int .i64)) (.cons (Ty.leaf .val) .nil)) (fun x => (x.1, x.2, ())) (fun y => (y.1, y.2.1)) (fun _ => rfl) (fun _ => rfl))
noncomputable def e_strings_Builder_WriteString : FSem := mkM A_strings_Builder_WriteString R_strings_Builder_WriteString (fun a => F.strings_Builder_WriteString a.1 a.2.1)
noncomputable def c_strings_Builder_WriteString : Cfg := { P := Go.Proofs.Try.prog, n := 19, tab := [(38, e_strings_Builder_copyCheck)], mutL := [38], rtL := [], locL := [], tyL := [5] }
noncomputable def b_strings_Builder_WriteString : Code := match Go.Proofs.Try.f31.body with | some c => c | none => .skip
noncomputable def a_strings_Builder_WriteString : An := (.seq .leaf (.seq .leaf (.seq .leaf (.seq .leaf .leaf))))
theorem t_strings_Builder_WriteString : Entry Go.Proofs.Try.prog 31 e_strings_Builder_WriteString true :=
  entryM_of (C := c_strings_Builder_WriteString) (fn := Go.Proofs.Try.f31) (c := b_strings_Builder_WriteString) (an := a_strings_Builder_WriteString) ⟨t_strings_Builder_copyCheck, trivial⟩ trivial Go.Proofs.Try.func31 rfl rfl (by decide) (fun _ => rfl) (by intro a K D; kernel_rfl)
noncomputable def A_lexer_Quote : ArgT (ByteArray × Unit) := (ArgT.cons (Ty.leaf .str) ArgT.nil)
noncomputable def R_lexer_Quote : Ty ByteArray := (Ty.leaf .str)
noncomputable def e_lexer_Quote : FSem := mkE A_lexer_Quote R_lexer_Quote (fun a => F.lexer_Quote a.1)
noncomputable def c_lexer_Quote : Cfg := { P := Go.Proofs.Try.prog, n := 37, tab := [(29, e_strings_Builder_WriteByte), (31, e_strings_Builder_WriteString), (30, e_strings_Builder_String)], mutL := [29, 31, 30], rtL := [], locL := [], tyL := [50] }
noncomputable def b_lexer_Quote : Code := match Go.Proofs.Try.f18.body with | some c => c | none => .skip
noncomputable def a_lexer_Quote : An := (.seq .leaf (.seq .leaf (.seq .leaf (.seq (.seq .leaf (.block (.loop [(9, .leaf (.int .i64))] (.seq .leaf (.seq (.cond .leaf .leaf) (.join [] (.block (.seq .leaf (.seq .leaf (.block (.seq .leaf (.cond .leaf (.seq .leaf (.cond (.seq .leaf .leaf) (.seq .leaf (.cond (.seq .leaf .leaf) .leaf)))))))))) .leaf)))))) (.seq .leaf (.seq .leaf .leaf))))))
theorem t_lexer_Quote : Entry Go.Proofs.Try.prog 18 e_lexer_Quote false :=
  entry_of (C := c_lexer_Quote) (fn := Go.Proofs.Try.f18) (c := b_lexer_Quote) (an := a_lexer_Quote) ⟨t_strings_Builder_WriteByte, t_strings_Builder_WriteString, t_strings_Builder_String, trivial⟩ trivial Go.Proofs.Try.func18 rfl rfl (by decide) (fun _ => rfl) (by intro a K D; kernel_rfl)
noncomputable def A_ref21_Quote : ArgT (ByteArray × Unit) := (ArgT.cons (Ty.leaf .str) ArgT.nil)
noncomputable def R_ref21_Quote : Ty ByteArray := (Ty.leaf .str)
noncomputable def e_ref21_Quote : FSem := mkE A_ref21_Quote R_ref21_Quote (fun a => F.ref21_Quote a.1)
noncomputable def c_ref21_Quote : Cfg := { P := Go.Proofs.Try.prog, n := 40, tab := [], mutL := [], rtL := [], locL := [19, 30, 34, 37] }
noncomputable def b_ref21_Quote : Code := match Go.Proofs.Try.f19.body with | some c => c | none => .skip
noncomputable def a_ref21_Quote : An := (.seq .leaf (.seq .leaf (.seq (.seq .leaf (.block (.loop [(3, .leaf (.sl)), (4, .leaf (.int .i64))] (.seq (.seq .leaf (.cond .leaf .leaf)) (.join [(3, .leaf (.sl))] (.block (.seq .leaf (.seq (.seq .leaf (.cond (.seq .leaf .leaf) .leaf)) (.seq (.seq .leaf (.cond (.seq .leaf .leaf) .leaf)) (.join [(3, .leaf (.sl))] (.seq .leaf (.cond .leaf .leaf)) .leaf))))) .leaf))))) (.seq .leaf .leaf))))
theorem t_ref21_Quote : Entry Go.Proofs.Try.prog 19 e_ref21_Quote false :=
  entry_of (C := c_ref21_Quote) (fn := Go.Proofs.Try.f19) (c := b_ref21_Quote) (an := a_ref21_Quote) trivial trivial Go.Proofs.Try.func19 rfl rfl (by decide) (fun _ => rfl) (by intro a K D; kernel_rfl)
noncomputable def A_law21_LexerQuote : ArgT (ByteArray × Unit) := (ArgT.cons (Ty.leaf .str) ArgT.nil)
noncomputable def R_law21_LexerQuote : Ty Bool := (Ty.leaf .bool)
noncomputable def e_law21_LexerQuote : FSem := mkE A_law21_LexerQuote R_law21_LexerQuote (fun a => F.law21_LexerQuote a.1)
noncomputable def c_law21_LexerQuote : Cfg := { P := Go.Proofs.Try.prog, n := 73, tab := [(18, e_lexer_Quote), (19, e_ref21_Quote), (16, e_lexer_Unquote), (11, e_lexer_Tokens), (10, e_law21_awake)], mutL := [], rtL := [], locL := [] }
noncomputable def b_law21_LexerQuote : Code := match Go.Proofs.Try.f9.body with | some c => c | none => .skip
noncomputable def a_law21_LexerQuote : An := (.seq .leaf (.join [] (.seq .leaf (.cond (.seq .leaf .leaf) .leaf)) (.seq .leaf (.seq (.seq .leaf (.cond (.seq .leaf .leaf) .leaf)) (.seq .leaf (.seq (.seq .leaf (.cond (.seq .leaf .leaf) .leaf)) (.seq .leaf (.seq .leaf .leaf))))))))
theorem t_law21_LexerQuote : Entry Go.Proofs.Try.prog 9 e_law21_LexerQuote false :=
  entry_of (C := c_law21_LexerQuote) (fn := Go.Proofs.Try.f9) (c := b_law21_LexerQuote) (an := a_law21_LexerQuote) ⟨t_lexer_Quote, t_ref21_Quote, t_lexer_Unquote, t_lexer_Tokens, t_law21_awake, trivial⟩ trivial Go.Proofs.Try.func9 rfl rfl (by decide) (fun _ => rfl) (by intro a K D; kernel_rfl)
end Den
end

section
set_option linter.unusedVariables false
namespace Lx
abbrev B := List UInt8

def isL (c : UInt8) : Bool := (97 ≤ c && c ≤ 122) || (65 ≤ c && c ≤ 90)
def isD (c : UInt8) : Bool := 48 ≤ c && c ≤ 57
def isW (c : UInt8) : Bool := isL c || isD c || c == 95
def spn (p : UInt8 → Bool) : B → Nat
  | [] => 0
  | c :: r => if p c = true then spn p r + 1 else 0
def syms : B := [43, 45, 42, 47, 40, 41, 91, 93, 123, 125, 44, 58, 59, 61, 46, 60, 62, 64, 35]
def num (l : B) : Nat :=
  match l.drop (spn isD l) with
  | [] => spn isD l
  | c :: r => if c = 46 ∧ 0 < spn isD r then spn isD l + 1 + spn isD r else spn isD l
/-- What stands behind an opening quotation mark: the length up to the closing one, and the text. -/
def qs : Nat → B → Option (Nat × B)
  | 0, _ => none
  | _, [] => none
  | f + 1, c :: r =>
    if c < 32 then none else if c = 34 then some (1, [])
    else if c = 92 then
      match r with
      | [] => none
      | d :: r' => if d = 34 ∨ d = 92 ∨ d = 110 then (qs f r').map fun p => (p.1 + 2, (if d = 110 then 10 else d) :: p.2) else none
    else (qs f r).map fun p => (p.1 + 1, c :: p.2)
def quo (l : B) : Option (Nat × B) :=
  match l with
  | [] => none
  | c :: r => if c = 34 then (qs (r.length + 1) r).map fun p => (p.1 + 1, p.2) else none
def quoN (l : B) : Nat := match quo l with | some p => p.1 | none => 0
def quoT (l : B) : B := match quo l with | some p => p.2 | none => []
def nxt (l : B) : Int × Nat :=
  match l with
  | [] => (0, 0)
  | c :: r =>
    if isL c = true then (1, spn isW (c :: r)) else if isD c = true then (2, num (c :: r))
    else if c = 34 then (3, quoN (c :: r)) else if c = 10 then (5, 1) else if c ∈ syms then (4, 1) else (0, 0)

structure Tok where
  kind : Int
  text : B
  pos : Nat
deriving DecidableEq

inductive Res where
  | ok (ts : List Tok)
  | err (at_ : Nat) (e : Int)
deriving DecidableEq

def Res.pre (acc : List Tok) : Res → Res
  | .ok ts => .ok (acc ++ ts)
  | .err a e => .err a e

/-- The tokens of l, which begins at a position. -/
def lexF : Nat → Nat → B → Res
  | 0, _, _ => .err 0 0
  | f + 1, p, l =>
    match l with
    | [] => .ok [⟨0, [], p⟩]
    | c :: r =>
      if c = 32 ∨ c = 9 then lexF f (p + 1) r
      else if (nxt (c :: r)).2 = 0 then .err p 2
      else if (nxt (c :: r)).1 = 1 ∧ 24 < (nxt (c :: r)).2 then .err p 3
      else (lexF f (p + (nxt (c :: r)).2) ((c :: r).drop (nxt (c :: r)).2)).pre [⟨(nxt (c :: r)).1, (c :: r).take (nxt (c :: r)).2, p⟩]
def lex (l : B) : Res := if 65536 < l.length then .err 0 3 else lexF (l.length + 1) 0 l

theorem spn_le (p : UInt8 → Bool) : ∀ l, spn p l ≤ l.length
  | [] => Nat.le_refl _
  | c :: r => by
    unfold spn
    split
    · have := spn_le p r; simp only [List.length_cons]; omega
    · exact Nat.zero_le _
theorem num_le (l : B) : num l ≤ l.length := by
  unfold num
  have h1 := spn_le isD l
  split
  · exact h1
  · rename_i c r hd
    have h2 : (l.drop (spn isD l)).length = r.length + 1 := by rw [hd]; rfl
    rw [List.length_drop] at h2
    have h3 := spn_le isD r
    split <;> omega
theorem qs_le : ∀ f l p, qs f l = some p → p.1 ≤ l.length ∧ 0 < p.1
  | 0, l, p, h => by simp [qs] at h
  | f + 1, [], p, h => by simp [qs] at h
  | f + 1, c :: r, p, h => by
    unfold qs at h
    split at h
    · cases h
    · split at h
      · simp only [Option.some.injEq] at h; subst h; simp
      · split at h
        · split at h
          · cases h
          · split at h
            · simp only [Option.map_eq_some_iff] at h
              obtain ⟨q, hq, rfl⟩ := h
              have := qs_le f _ q hq
              simp only [List.length_cons]; omega
            · cases h
        · simp only [Option.map_eq_some_iff] at h
          obtain ⟨q, hq, rfl⟩ := h
          have := qs_le f _ q hq
          simp only [List.length_cons]; omega
theorem quoN_le (l : B) : quoN l ≤ l.length := by
  unfold quoN quo
  cases l with
  | nil => simp
  | cons c r =>
    simp only
    split
    · rename_i p hp
      split at hp
      · simp only [Option.map_eq_some_iff] at hp
        obtain ⟨q, hq, rfl⟩ := hp
        have := qs_le _ _ q hq
        simp only [List.length_cons]; omega
      · cases hp
    · exact Nat.zero_le _
theorem nxt_le (l : B) : (nxt l).2 ≤ l.length := by
  unfold nxt
  cases l with
  | nil => simp
  | cons c r =>
    simp only
    split
    · exact spn_le _ _
    · split
      · exact num_le _
      · split
        · exact quoN_le _
        · split
          · simp
          · split <;> simp
/-- The fuel does not matter. -/
theorem qs_fuel : ∀ f g l, l.length < f → l.length < g → qs f l = qs g l
  | 0, _, l, h, _ => by omega
  | _, 0, l, _, h => by omega
  | f + 1, g + 1, [], _, _ => by simp [qs]
  | f + 1, g + 1, c :: r, hf, hg => by
    simp only [List.length_cons] at hf hg
    unfold qs
    split
    · rfl
    · split
      · rfl
      · split
        · cases r with
          | nil => rfl
          | cons d r' =>
            simp only [List.length_cons] at hf hg
            simp only
            split
            · rw [qs_fuel f g r' (by omega) (by omega)]
            · rfl
        · rw [qs_fuel f g r (by omega) (by omega)]
theorem lexF_fuel : ∀ f g p l, l.length < f → l.length < g → lexF f p l = lexF g p l
  | 0, _, p, l, h, _ => by omega
  | _, 0, p, l, _, h => by omega
  | f + 1, g + 1, p, [], _, _ => by simp [lexF]
  | f + 1, g + 1, p, c :: r, hf, hg => by
    simp only [List.length_cons] at hf hg
    unfold lexF
    simp only
    split
    · exact lexF_fuel f g _ r (by omega) (by omega)
    · split
      · rfl
      · split
        · rfl
        · rename_i h1 _
          have : ((c :: r).drop (nxt (c :: r)).2).length ≤ r.length := by
            rw [List.length_drop]; simp only [List.length_cons]; omega
          rw [lexF_fuel f g _ _ (by omega) (by omega)]

theorem quoN_ne {c : UInt8} {r : B} (h : c ≠ 34) : quoN (c :: r) = 0 := by
  unfold quoN quo; simp only [if_neg h]
end Lx
end

section
set_option linter.unusedVariables false
namespace Den
open Go Lx

theorem drop_next {l : List UInt8} {k : Nat} {c : UInt8} {r : List UInt8} (h : l.drop k = c :: r) : l.drop (k + 1) = r ∧ k < l.length := by
  have h2 : (l.drop k).length = r.length + 1 := by rw [h]; rfl
  rw [List.length_drop] at h2
  refine ⟨?_, by omega⟩
  rw [← List.drop_drop, h]; rfl

theorem isL_int (c : UInt8) : isL c = ((decide ((c.toNat : Int) ≥ 97) && decide ((c.toNat : Int) ≤ 122)) || (decide ((c.toNat : Int) ≥ 65) && decide ((c.toNat : Int) ≤ 90))) := by
  rw [Bool.eq_iff_iff]
  simp [isL, UInt8.le_iff_toNat_le]
  omega
theorem isD_int (c : UInt8) : isD c = (decide ((c.toNat : Int) ≥ 48) && decide ((c.toNat : Int) ≤ 57)) := by
  rw [Bool.eq_iff_iff]
  simp [isD, UInt8.le_iff_toNat_le]
  omega
theorem u8_eq {c : UInt8} {n : Nat} (hn : n < 256) : (c.toNat : Int) = (n : Int) ↔ c = UInt8.ofNat n := by
  rw [← UInt8.toNat_inj]
  simp
  omega

section
variable {K : Bool → Hp → Prop} {Ki : Int → Hp → Prop} {h : Hp} {c : UInt8} {s : ByteArray}

theorem isLetter_of (H : K (isL c) h) : F.lexer_isLetter c.toNat K h := by
  rw [isL_int] at H
  unfold F.lexer_isLetter
  generalize decide ((c.toNat : Int) ≥ 97) = a1 at H ⊢
  generalize decide ((c.toNat : Int) ≤ 122) = a2 at H ⊢
  generalize decide ((c.toNat : Int) ≥ 65) = a3 at H ⊢
  cases a1 <;> cases a2 <;> cases a3 <;> exact H
theorem isDigit_of (H : K (isD c) h) : F.lexer_isDigit c.toNat K h := by
  rw [isD_int] at H
  unfold F.lexer_isDigit
  generalize decide ((c.toNat : Int) ≥ 48) = a1 at H ⊢
  cases a1 <;> exact H
theorem isWord_of (H : K (isW c) h) : F.lexer_isWord c.toNat K h := by
  unfold F.lexer_isWord
  refine callP_same (isL c) (fun K' => isLetter_of) ?_
  unfold isW at H
  cases h1 : isL c
  · show callP (F.lexer_isDigit ↑c.toNat) (fun r2 h2 => ifP r2 (K true h2) (K ((c.toNat : Int) == 95) h2)) h
    refine callP_same (isD c) (fun K' => isDigit_of) ?_
    rw [h1] at H
    cases h2 : isD c
    · rw [h2] at H
      have : ((c.toNat : Int) == 95) = (c == 95) := by
        rw [Bool.eq_iff_iff]
        simp only [beq_iff_eq]
        exact u8_eq (n := 95) (by decide)
      show K ((c.toNat : Int) == 95) h
      rw [this]; exact H
    · rw [h2] at H; exact H
  · rw [h1] at H; exact H

theorem span_word_of (hs : s.size ≤ 1000000) (H : Ki (spn isW (BS s)) h) : F.lexer_span_lexer_isWord s Ki h := by
  unfold F.lexer_span_lexer_isWord
  refine loopP_of (fun st h' => h' = h ∧ ∃ k : Nat, st = ((k : Int), ()) ∧ spn isW (BS s) = k + spn isW ((BS s).drop k)) (fun st => ((s.size : Int) - st.1).toNat) ⟨rfl, 0, rfl, by simp⟩ ?_
  rintro st h' ⟨rfl, k, rfl, hk⟩
  refine joinP_of (ifP_dec (fun h1 => ?_) (fun h1 => ?_))
  · cases hd : (BS s).drop k with
    | nil => have := List.drop_eq_nil_iff.1 hd; rw [BS_len] at this; simp only at h1; omega
    | cons c r =>
      obtain ⟨h2, h3⟩ := drop_next hd
      rw [BS_len] at h3
      refine strIdx_drop hd rfl (callP_same (isW c) (fun K' => isWord_of) (ifP_intro (fun h4 => ?_) (fun h4 => ?_)))
      · simp only at h1
        refine ⟨⟨rfl, k + 1, by simp only; rw [w64 (by omega)]; rfl, ?_⟩, by simp only; rw [w64 (by omega)]; omega⟩
        rw [h2, hk, hd]; simp only [spn, h4, if_true]; omega
      · rw [hk, hd] at H
        simp only [spn, h4] at H
        simpa using H
  · have hd : (BS s).drop k = [] := by apply List.drop_eq_nil_of_le; rw [BS_len]; simp only at h1; omega
    rw [hk, hd] at H
    simpa [spn] using H
theorem span_digit_of (hs : s.size ≤ 1000000) (H : Ki (spn isD (BS s)) h) : F.lexer_span_lexer_isDigit s Ki h := by
  unfold F.lexer_span_lexer_isDigit
  refine loopP_of (fun st h' => h' = h ∧ ∃ k : Nat, st = ((k : Int), ()) ∧ spn isD (BS s) = k + spn isD ((BS s).drop k)) (fun st => ((s.size : Int) - st.1).toNat) ⟨rfl, 0, rfl, by simp⟩ ?_
  rintro st h' ⟨rfl, k, rfl, hk⟩
  refine joinP_of (ifP_dec (fun h1 => ?_) (fun h1 => ?_))
  · cases hd : (BS s).drop k with
    | nil => have := List.drop_eq_nil_iff.1 hd; rw [BS_len] at this; simp only at h1; omega
    | cons c r =>
      obtain ⟨h2, h3⟩ := drop_next hd
      rw [BS_len] at h3
      refine strIdx_drop hd rfl (callP_same (isD c) (fun K' => isDigit_of) (ifP_intro (fun h4 => ?_) (fun h4 => ?_)))
      · simp only at h1
        refine ⟨⟨rfl, k + 1, by simp only; rw [w64 (by omega)]; rfl, ?_⟩, by simp only; rw [w64 (by omega)]; omega⟩
        rw [h2, hk, hd]; simp only [spn, h4, if_true]; omega
      · rw [hk, hd] at H
        simp only [spn, h4] at H
        simpa using H
  · have hd : (BS s).drop k = [] := by apply List.drop_eq_nil_of_le; rw [BS_len]; simp only at h1; omega
    rw [hk, hd] at H
    simpa [spn] using H

theorem number_of (hs : s.size ≤ 1000000) (H : Ki (num (BS s)) h) : F.lexer_number s Ki h := by
  unfold F.lexer_number
  have hle := spn_le isD (BS s)
  rw [BS_len] at hle
  refine callP_same _ (fun K' => span_digit_of hs) (ifP_dec (fun h1 => ?_) (fun h1 => ?_))
  · cases hd : (BS s).drop (spn isD (BS s)) with
    | nil => have := List.drop_eq_nil_iff.1 hd; rw [BS_len] at this; omega
    | cons c r =>
      obtain ⟨h2, h3⟩ := drop_next hd
      rw [BS_len] at h3
      unfold num at H
      rw [hd] at H
      simp only at H
      refine strIdx_drop hd rfl (ifP_eq (fun h4 => ?_) (fun h4 => ?_))
      · have h5 : c = 46 := (u8_eq (n := 46) (by decide)).1 h4
        rw [w64 (by omega)]
        refine strCut_of (spn isD (BS s) + 1) s.size rfl rfl (by omega) (Nat.le_refl _) fun t ht => ?_
        have ht' : BS t = r := by
          rw [ht, h2]; apply List.take_of_length_le
          rw [← h2, List.length_drop, BS_len]; omega
        have hts : t.size ≤ s.size := by
          rw [← BS_len, ht', ← h2, List.length_drop, BS_len]; omega
        have hr := spn_le isD r
        rw [← ht', BS_len] at hr
        refine callP_same _ (fun K' => span_digit_of (by omega)) (ifP_dec (fun h6 => ?_) (fun h6 => ?_))
        · rw [ht'] at h6 ⊢
          rw [if_pos ⟨h5, by omega⟩] at H
          rw [ht'] at hr
          rw [w64 (by omega)]
          have : ((spn isD (BS s) : Int) + 1 + (spn isD r : Int)) = ((spn isD (BS s) + 1 + spn isD r : Nat) : Int) := by omega
          rw [this]; exact H
        · rw [ht'] at h6
          rw [if_neg (by omega)] at H; exact H
      · rw [if_neg (fun hh => h4 (by rw [hh.1]; rfl))] at H; exact H
  · have hd : (BS s).drop (spn isD (BS s)) = [] := by apply List.drop_eq_nil_of_le; rw [BS_len]; omega
    unfold num at H
    rw [hd] at H; exact H

theorem indexByte_neg {l : List UInt8} {b : UInt8} : (Lib.indexByte l b < 0) ↔ b ∉ l := by
  induction l with
  | nil => simp [Lib.indexByte]
  | cons x r ih =>
    unfold Lib.indexByte
    have := Lib.indexByte_ge r b
    by_cases hx : x = b
    · simp [hx]
    · have hx' : ¬ b = x := fun hh => hx hh.symm
      simp only [beq_iff_eq, hx, if_false, List.mem_cons, hx', false_or]
      rw [← ih]
      by_cases h1 : Lib.indexByte r b = -1
      · simp [h1]
      · simp only [h1, if_false]; omega

theorem IndexByte_of {t : ByteArray} (H : Ki (Lib.indexByte (BS t) c) h) : F.strings_IndexByte t c.toNat Ki h := by
  unfold F.strings_IndexByte
  refine callP_same (Lib.indexByte (BS t) c) (fun K' hk => ?_) H
  show K' (idxByte t c.toNat) h
  have : idxByte t c.toNat = Lib.indexByte (BS t) c := by
    unfold idxByte BS
    congr 1
    simp
  rw [this]; exact hk

theorem lt32 {c : UInt8} : (c.toNat : Int) < 32 ↔ c < 32 := by
  rw [UInt8.lt_iff_toNat_lt]; simp; omega

theorem quoted_of (hs : s.size ≤ 1000000) (h34 : ∃ r, BS s = 34 :: r) (H : Ki (quoN (BS s)) h) : F.lexer_quoted s Ki h := by
  obtain ⟨r0, hr0⟩ := h34
  have hlen : s.size = r0.length + 1 := by rw [← BS_len, hr0]; rfl
  -- what is still to be read decides
  have key : ∀ P : Nat → Prop, P (quoN (BS s)) → P (match qs (r0.length + 1) r0 with | some p => p.1 + 1 | none => 0) := fun P hp => by
    rw [hr0] at hp
    unfold quoN quo at hp
    simp only [if_true] at hp
    cases hq : qs (r0.length + 1) r0 with
    | none => rw [hq] at hp; exact hp
    | some p => rw [hq] at hp; exact hp
  have H' := key (fun n => Ki n h) H
  unfold F.lexer_quoted
  refine loopP_of (fun st h' => h' = h ∧ ∃ k : Nat, st = ((k : Int), ()) ∧ 1 ≤ k ∧ k ≤ s.size ∧
      (match qs (r0.length + 1) r0 with | some p => p.1 + 1 | none => 0) = (match qs (((BS s).drop k).length + 1) ((BS s).drop k) with | some p => p.1 + k | none => 0))
      (fun st => ((s.size : Int) - st.1).toNat) ⟨rfl, 1, rfl, Nat.le_refl _, by omega, by rw [hr0]; rfl⟩ ?_
  rintro st h' ⟨rfl, k, rfl, hk1, hks, hk⟩
  refine ifP_dec (fun h1 => ?_) (fun h1 => ?_)
  · simp only at h1
    cases hd : (BS s).drop k with
    | nil => have := List.drop_eq_nil_iff.1 hd; rw [BS_len] at this; omega
    | cons c r =>
      obtain ⟨h2, h3⟩ := drop_next hd
      rw [BS_len] at h3
      rw [hd] at hk
      rw [hk] at H'
      refine joinP_of (strIdx_drop hd rfl (ifP_eq (fun h4 => ?_) (fun h4 => ?_)))
      · have h5 : c = 34 := (u8_eq (n := 34) (by decide)).1 h4
        subst h5
        rw [w64 (by simp only; omega)]
        have e : qs ((34 :: r).length + 1) (34 :: r) = some (1, []) := by simp [qs]
        rw [e] at H'
        simp only at H' ⊢
        have : ((k : Int) + 1) = ((1 + k : Nat) : Int) := by omega
        rw [this]; exact H'
      · have h5 : c ≠ 34 := fun hh => h4 (by rw [hh]; rfl)
        refine strIdx_drop hd rfl (ifP_dec (fun h6 => ?_) (fun h6 => ?_))
        · have e : qs ((c :: r).length + 1) (c :: r) = none := by unfold qs; rw [if_pos (lt32.1 h6)]
          rw [e] at H'; exact H'
        · have h6' : ¬ c < 32 := fun hh => h6 (lt32.2 hh)
          refine strIdx_drop hd rfl (ifP_eq (fun h7 => ?_) (fun h7 => ?_))
          · have h8 : c = 92 := (u8_eq (n := 92) (by decide)).1 h7
            refine ifP_eq (fun h9 => ?_) (fun h9 => ?_)
            · simp only at h9
              rw [w64 (by omega)] at h9
              have hr : r = [] := by rw [← h2]; apply List.drop_eq_nil_of_le; rw [BS_len]; omega
              subst hr
              have e : qs ([c].length + 1) [c] = none := by unfold qs; rw [if_neg h6', if_neg h5, if_pos h8]
              rw [e] at H'; exact H'
            · simp only at h9
              rw [w64 (by omega)] at h9
              cases hr : r with
              | nil =>
                have := List.drop_eq_nil_iff.1 (h2.trans hr); rw [BS_len] at this; omega
              | cons d r' =>
                have hd2 : (BS s).drop (k + 1) = d :: r' := h2.trans hr
                obtain ⟨i2, i3⟩ := drop_next hd2
                rw [BS_len] at i3
                rw [hr] at H' hk
                have e : qs ((c :: d :: r').length + 1) (c :: d :: r') = if d = 34 ∨ d = 92 ∨ d = 110 then (qs (r'.length + 1) r').map fun p => (p.1 + 2, (if d = 110 then 10 else d) :: p.2) else none := by
                  conv => lhs; unfold qs
                  rw [if_neg h6', if_neg h5, if_pos h8]
                  simp only
                  rw [qs_fuel (c :: d :: r').length (r'.length + 1) r' (by simp only [List.length_cons]; omega) (by omega)]
                rw [e] at H' hk
                refine strIdx_drop hd2 (by simp only; rw [w64 (by omega)]; rfl) (callP_same _ (fun K' => IndexByte_of) (ifP_dec (fun j1 => ?_) (fun j1 => ?_)))
                · rw [if_neg] at H'
                  · exact H'
                  · rw [indexByte_neg] at j1
                    rintro (hh | hh | hh) <;> (rw [hh] at j1; exact j1 (by decide))
                · rw [indexByte_neg] at j1
                  have j2 : d = 34 ∨ d = 92 ∨ d = 110 := by
                    have : d ∈ BS ⟨#[34, 92, 110]⟩ := Classical.not_not.1 j1
                    simpa [BS] using this
                  rw [if_pos j2] at hk
                  have w1 : IntKind.i64.wrap (IntKind.i64.wrap ((k : Int) + 1) + 1) = ((k + 2 : Nat) : Int) := by rw [w64 (n := (k : Int) + 1) (by omega), w64 (by omega)]; omega
                  refine ⟨⟨rfl, k + 2, by simp only; rw [w1], by omega, by omega, ?_⟩, by simp only; rw [w1]; omega⟩
                  rw [hk, show k + 2 = k + 1 + 1 by omega, i2]
                  cases hq : qs (r'.length + 1) r' with
                  | none => rfl
                  | some p => simp only [Option.map_some]; exact (by omega : p.1 + 2 + k = p.1 + (k + 2))
          · have h8 : ¬ c = 92 := fun hh => h7 (by rw [hh]; rfl)
            have e : qs ((c :: r).length + 1) (c :: r) = (qs (r.length + 1) r).map fun p => (p.1 + 1, c :: p.2) := by
              conv => lhs; unfold qs
              rw [if_neg h6', if_neg h5, if_neg h8]
              rfl
            rw [e] at hk
            refine ⟨⟨rfl, k + 1, by simp only; rw [w64 (by omega)]; rfl, by omega, by omega, ?_⟩, by simp only; rw [w64 (by omega)]; omega⟩
            rw [hk, h2]
            cases hq : qs (r.length + 1) r with
            | none => rfl
            | some p => simp only [Option.map_some]; exact (by omega : p.1 + 1 + k = p.1 + (k + 1))
  · simp only at h1
    have hd : (BS s).drop k = [] := by apply List.drop_eq_nil_of_le; rw [BS_len]; omega
    rw [hd] at hk
    rw [hk] at H'
    simpa [qs] using H'

end
end Den
end

section
set_option linter.unusedVariables false
namespace Den
open Go Lx

def tokCells (t : Tok) : List Value := [.int .i64 t.kind, .string ⟨t.text.toArray⟩, .int .i64 (t.pos : Int)]
theorem tokCells_len (ts : List Tok) : (ts.flatMap tokCells).length = ts.length * 3 := by
  induction ts with
  | nil => rfl
  | cons t r ih => simp only [List.flatMap_cons, List.length_append, ih, List.length_cons]; simp [tokCells]; omega

/-- What a call of Tokens hands back. -/
def LexR (h : Hp) (r : Sl × Int × Int) : Res → Prop
  | .ok ts => Rd h 3 r.1 (ts.flatMap tokCells) ∧ r.2.1 = 0 ∧ r.2.2 = 0
  | .err p e => r = (nilS, (p : Int), e)

theorem Res.pre_pre (a b : List Tok) (r : Res) : (r.pre b).pre a = r.pre (a ++ b) := by
  cases r <;> simp [Res.pre]

section
variable {Kp : Int × Int → Hp → Prop} {Kt : Sl × Int × Int → Hp → Prop} {K : Bool → Hp → Prop} {h : Hp} {s : ByteArray}

theorem next_of (hs : s.size ≤ 1000000) {c : UInt8} {r : List UInt8} (hd : BS s = c :: r) (H : Kp ((nxt (BS s)).1, ((nxt (BS s)).2 : Int)) h) : F.lexer_next s Kp h := by
  unfold F.lexer_next
  have hd0 : (BS s).drop 0 = c :: r := hd
  refine strIdx_drop hd0 rfl (callP_same (isL c) (fun K' => isLetter_of) ?_)
  have H2 : Kp ((nxt (c :: r)).1, ((nxt (c :: r)).2 : Int)) h := hd ▸ H
  unfold nxt at H2
  simp only at H2
  refine ifP_intro (fun h1 => ?_) (fun h1 => ?_)
  · rw [if_pos h1, ← hd] at H2
    exact callP_same _ (fun K' => span_word_of hs) H2
  · rw [if_neg (by rw [h1]; decide)] at H2
    refine callP_same (isD c) (fun K' => isDigit_of) (ifP_intro (fun h2 => ?_) (fun h2 => ?_))
    · rw [if_pos h2, ← hd] at H2
      exact callP_same _ (fun K' => number_of hs) H2
    · rw [if_neg (by rw [h2]; decide)] at H2
      refine ifP_eq (fun h3 => ?_) (fun h3 => ?_)
      · have h4 : c = 34 := (u8_eq (n := 34) (by decide)).1 h3
        rw [if_pos h4, ← hd] at H2
        exact callP_same _ (fun K' => quoted_of hs ⟨r, by rw [hd, h4]⟩) H2
      · rw [if_neg (fun hh => h3 (by rw [hh]; rfl))] at H2
        refine ifP_eq (fun h5 => ?_) (fun h5 => ?_)
        · have h5' : c = 10 := (u8_eq (n := 10) (by decide)).1 h5
          rw [if_pos h5'] at H2
          exact H2
        · rw [if_neg (fun hh => h5 (by rw [hh]; rfl))] at H2
          refine callP_same _ (fun K' => IndexByte_of) (ifP_dec (fun h6 => ?_) (fun h6 => ?_))
          · have : c ∈ syms := by
              have h7 := mt (indexByte_neg (l := syms) (b := c)).2
              refine Classical.byContradiction fun hh => ?_
              have := (indexByte_neg (l := syms) (b := c)).2 hh
              have h8 : Lib.indexByte syms c ≥ 0 := h6
              omega
            rw [if_pos this] at H2; exact H2
          · have : c ∉ syms := by
              have h8 : ¬ Lib.indexByte syms c ≥ 0 := h6
              exact (indexByte_neg (l := syms) (b := c)).1 (by omega)
            rw [if_neg this] at H2; exact H2

theorem Tokens_of (H : ∀ r h', h.le h' → LexR h' r (lex (BS s)) → Kt r h') : F.lexer_Tokens s Kt h := by
  unfold F.lexer_Tokens
  refine ifP_dec (fun h1 => ?_) (fun h1 => ?_)
  · refine H _ _ (Hp.le_refl _) ?_
    unfold lex
    rw [if_pos (by rw [BS_len]; omega)]
    rfl
  · have hs : s.size ≤ 65536 := by omega
    have hlex : lex (BS s) = lexF ((BS s).length + 1) 0 (BS s) := by unfold lex; rw [if_neg (by rw [BS_len]; omega)]
    refine loopP_of (fun st h' => ∃ (x : Sl) (k : Nat) (acc : List Tok), st = (x, (k : Int), ()) ∧ Own h h' 3 x (acc.flatMap tokCells) ∧ k ≤ s.size ∧ acc.length ≤ k ∧
        lex (BS s) = (lexF (((BS s).drop k).length + 1) k ((BS s).drop k)).pre acc) (fun st => ((s.size : Int) - st.2.1).toNat)
        ⟨nilS, 0, [], rfl, Own.nil (Hp.le_refl _), Nat.zero_le _, Nat.le_refl _, by rw [hlex]; simp only [List.drop_zero]; cases lexF ((BS s).length + 1) 0 (BS s) <;> simp [Res.pre]⟩ ?_
    rintro st h' ⟨x, k, acc, rfl, hown, hks, hacc, hk⟩
    have hxl : x.len = acc.length := by
      have := hown.2.1
      rw [tokCells_len] at this; omega
    refine ifP_dec (fun h2 => ?_) (fun h2 => ?_)
    · simp only at h2
      cases hd : (BS s).drop k with
      | nil => have := List.drop_eq_nil_iff.1 hd; rw [BS_len] at this; omega
      | cons c r =>
        obtain ⟨g2, g3⟩ := drop_next hd
        rw [BS_len] at g3
        rw [hd] at hk
        unfold lexF at hk
        simp only at hk
        have hrl : (c :: r).length = s.size - k := by rw [← hd, List.length_drop, BS_len]
        -- a blank
        have blank : (c = 32 ∨ c = 9) → ∃ (x' : Sl) (k' : Nat) (acc : List Tok), ((x, IntKind.i64.wrap ((k : Int) + 1), ()) : Sl × Int × Unit) = (x', (k' : Int), ()) ∧ Own h h' 3 x' (acc.flatMap tokCells) ∧ k' ≤ s.size ∧ acc.length ≤ k' ∧
            lex (BS s) = (lexF (((BS s).drop k').length + 1) k' ((BS s).drop k')).pre acc := fun hc => by
          refine ⟨x, k + 1, acc, by rw [w64 (by omega)]; rfl, hown, by omega, by omega, ?_⟩
          rw [if_pos hc] at hk
          rw [hk, g2]
          rfl
        have dec : ((s.size : Int) - IntKind.i64.wrap ((k : Int) + 1)).toNat < ((s.size : Int) - (k : Int)).toNat := by rw [w64 (by omega)]; omega
        refine joinP_inv (fun s3 h'' => s3 = ((k : Int), ()) ∧ h'' = h' ∧ ¬ (c = 32 ∨ c = 9)) ?_ ?_
        · rintro s3 h'' ⟨rfl, rfl, hc⟩
          rw [if_neg hc] at hk
          refine strCut_of k s.size rfl rfl hks (Nat.le_refl _) fun t ht => ?_
          have ht' : BS t = c :: r := by
            rw [ht, hd]; exact List.take_of_length_le (by omega)
          have hts : t.size ≤ 65536 := by rw [← BS_len, ht']; omega
          have hnl := nxt_le (c :: r)
          refine callP_same _ (fun K' => next_of (by omega) ht') ?_
          rw [ht']
          simp only
          generalize hkn : nxt (c :: r) = kn at hk hnl ⊢
          refine joinP_inv (fun _ h4 => h4 = h'' ∧ kn.2 ≠ 0 ∧ ¬ (kn.1 = 1 ∧ 24 < kn.2)) ?_ ?_
          · rintro _ h4 ⟨rfl, hn0, hnm⟩
            rw [if_neg hn0, if_neg hnm] at hk
            have w1 : IntKind.i64.wrap ((k : Int) + (kn.2 : Int)) = ((k + kn.2 : Nat) : Int) := by rw [w64 (by omega)]; omega
            rw [w1]
            refine strCut_of k (k + kn.2) rfl rfl (by omega) (by omega) fun u hu => ?_
            have hu' : BS u = (c :: r).take kn.2 := by rw [hu, hd]; congr 1; omega
            refine app_own hown (n := 1) rfl rfl rfl (by omega) (by omega) fun y h5 hy hyl => ?_
            have hu2 : u = ⟨((c :: r).take kn.2).toArray⟩ := BS_inj (by rw [hu'])
            refine ⟨⟨y, k + kn.2, acc ++ [⟨kn.1, (c :: r).take kn.2, k⟩], rfl, ?_, by omega, by simp; omega, ?_⟩, by show ((s.size : Int) - ((k + kn.2 : Nat) : Int)).toNat < ((s.size : Int) - (k : Int)).toNat; omega⟩
            · rw [List.flatMap_append]
              simp only [List.flatMap_cons, List.flatMap_nil, tokCells, List.append_nil]
              rw [← hu2]; exact hy
            · rw [hk, Res.pre_pre]
              rw [← List.drop_drop, hd]
              rw [lexF_fuel (c :: r).length (((c :: r).drop kn.2).length + 1) (k + kn.2) _ (by rw [List.length_drop]; omega) (by omega)]
          · refine ifP_eq (fun h7 => ?_) (fun h7 => ?_)
            · rw [if_pos (by omega)] at hk
              refine H _ _ hown.1 ?_
              rw [hk]; rfl
            · have hn0 : kn.2 ≠ 0 := by omega
              rw [if_neg hn0] at hk
              refine ifP_eq (fun h8 => ?_) (fun h8 => ?_)
              · refine ifP_dec (fun h9 => ?_) (fun h9 => ?_)
                · rw [if_pos ⟨h8, by omega⟩] at hk
                  refine H _ _ hown.1 ?_
                  rw [hk]; rfl
                · exact ⟨rfl, hn0, fun hh => h9 (by omega)⟩
              · exact ⟨rfl, hn0, fun hh => h8 hh.1⟩
        · refine strIdx_drop hd rfl (ifP_eq (fun h3 => ?_) (fun h3 => ?_))
          · exact ⟨blank (.inl ((u8_eq (n := 32) (by decide)).1 h3)), dec⟩
          · refine strIdx_drop hd rfl (ifP_eq (fun h4 => ?_) (fun h4 => ?_))
            · exact ⟨blank (.inr ((u8_eq (n := 9) (by decide)).1 h4)), dec⟩
            · refine ⟨rfl, rfl, ?_⟩
              rintro (hh | hh)
              · exact h3 (by rw [hh]; rfl)
              · exact h4 (by rw [hh]; rfl)
    · simp only at h2
      have hd : (BS s).drop k = [] := by apply List.drop_eq_nil_of_le; rw [BS_len]; omega
      have hke : k = s.size := by omega
      rw [hd] at hk
      have e : lexF (([] : List UInt8).length + 1) k [] = .ok [⟨0, [], k⟩] := by simp [lexF]
      rw [e] at hk
      refine app_own hown (n := 1) rfl rfl rfl (by simp only; omega) (by simp only; omega) fun y h5 hy hyl => ?_
      refine H _ _ hy.1 ?_
      rw [hk]
      refine ⟨?_, rfl, rfl⟩
      have := hy.rd
      rw [List.flatMap_append]
      simp only [List.flatMap_cons, List.flatMap_nil, tokCells, List.append_nil]
      rw [hke]
      exact this

theorem emptyS_toList : (emptyS : ByteArray).toList = [] := by rw [BS_toList]; rfl
end
end Den
end

section
set_option linter.unusedVariables false
namespace Den
open Go Lx

section
variable {Kp : Int × ByteArray → Hp → Prop} {Kt : Sl × Int × Int → Hp → Prop} {K : Bool → Hp → Prop} {Ki : Int → Hp → Prop} {h : Hp} {s : ByteArray} {c : UInt8} {p : Nat}

def bcells (l : List UInt8) : List Value := l.map fun b => .int .u8 b.toNat

end
end Den
end

section
set_option linter.unusedVariables false
namespace Den
open Go Lx

section
variable {Kt : Sl × Int × Int → Hp → Prop} {K : Bool → Hp → Prop} {h : Hp} {s : ByteArray}

theorem tok_at {ts : List Tok} {k : Nat} (hk : k < ts.length) : ∀ j, j < 3 → (ts.flatMap tokCells)[k * 3 + j]? = (tokCells ts[k])[j]? := by
  induction ts generalizing k with
  | nil => simp at hk
  | cons t r ih =>
    intro j hj
    cases k with
    | zero =>
      simp only [List.flatMap_cons, List.getElem_cons_zero]
      rw [List.getElem?_append_left (by simp [tokCells]; omega)]
      congr 1; omega
    | succ k =>
      simp only [List.flatMap_cons, List.getElem_cons_succ]
      rw [List.getElem?_append_right (by simp [tokCells]; omega)]
      rw [← ih (by simpa using hk) j hj]
      congr 1
      simp [tokCells]; omega

theorem rd_tok {x : Sl} {ts : List Tok} {i : Int} {Ka : Addr → Prop} (k : Nat) (hr : Rd h 3 x (ts.flatMap tokCells)) (hi : i = k) (hk : k < ts.length)
    (H : ∀ a, h.cell (a.add 0) = some (.int .i64 ts[k].kind) → h.cell (a.add 1) = some (.string ⟨ts[k].text.toArray⟩) → h.cell (a.add 2) = some (.int .i64 (ts[k].pos : Int)) → Ka a) : idxP x i 3 Ka := by
  have hl : x.len = ts.length := by have := hr.1; rw [tokCells_len] at this; omega
  refine idxP_of k hr hi (by omega) (by decide) fun a ha => H a (ha 0 _ ?_) (ha 1 _ ?_) (ha 2 _ ?_)
  · rw [tok_at hk 0 (by decide)]; rfl
  · rw [tok_at hk 1 (by decide)]; rfl
  · rw [tok_at hk 2 (by decide)]; rfl

theorem rd_toks_len {x : Sl} {ts : List Tok} (hr : Rd h 3 x (ts.flatMap tokCells)) : x.len = ts.length := by
  have := hr.1; rw [tokCells_len] at this; omega

theorem same_of {x y : Sl} {ts us : List Tok} (hx : Rd h 3 x (ts.flatMap tokCells)) (hy : Rd h 3 y (us.flatMap tokCells)) (hlen : ts.length ≤ 140737488355328) (H : K (decide (ts = us)) h) : F.law21_same x y K h := by
  have lx := rd_toks_len hx
  have ly := rd_toks_len hy
  unfold F.law21_same
  refine ifP_ne (fun h1 => ?_) (fun h1 => ?_)
  · rw [decide_eq_false (fun hh => h1 (by rw [lx, ly, hh]))] at H; exact H
  · have hl : ts.length = us.length := by omega
    refine loopP_of (fun st h' => h' = h ∧ ∃ k : Nat, st = ((k : Int), ()) ∧ ts.take k = us.take k) (fun st => ((x.len : Int) - st.1).toNat) ⟨rfl, 0, rfl, by simp⟩ ?_
    rintro st h' ⟨rfl, k, rfl, hk⟩
    refine ifP_dec (fun h2 => ?_) (fun h2 => ?_)
    · simp only at h2
      have k1 : k < ts.length := by omega
      have k2 : k < us.length := by omega
      have no : ts[k] ≠ us[k] → K false h' := fun hh => by
        rw [decide_eq_false] at H
        · exact H
        · intro h5; subst h5; exact hh rfl
      refine joinP_inv (fun _ h3 => h3 = h' ∧ ts.take (k + 1) = us.take (k + 1)) ?_ ?_
      · rintro _ h3 ⟨rfl, h4⟩
        exact ⟨⟨rfl, k + 1, by simp only; rw [w64 (by omega)]; rfl, h4⟩, by simp only; rw [w64 (by omega)]; omega⟩
      · refine rd_tok k hx rfl k1 fun a a0 a1 a2 => ⟨_, a0, _, a1, _, a2, ?_⟩
        refine rd_tok k hy rfl k2 fun b b0 b1 b2 => ⟨_, b0, ifP_ne (fun h3 => no fun hh => h3 (by rw [hh])) (fun h3 => ?_)⟩
        refine rd_tok k hy rfl k2 fun b b0 b1 b2 => ⟨_, b1, ifP_intro (fun h4 => no fun hh => ?_) (fun h4 => ?_)⟩
        · rw [hh] at h4; simp at h4
        · refine rd_tok k hy rfl k2 fun b b0 b1 b2 => ⟨_, b2, ifP_ne (fun h5 => no fun hh => h5 (by rw [hh])) (fun h5 => ⟨rfl, ?_⟩)⟩
          rw [List.take_succ_eq_append_getElem k1, List.take_succ_eq_append_getElem k2, hk]
          have e1 : ts[k].text = us[k].text := by
            rw [BS_toList, BS_toList] at h4
            simpa using h4
          have e3 : ts[k].pos = us[k].pos := by omega
          have e2 : ts[k] = us[k] := by
            generalize ts[k] = t at *
            generalize us[k] = u at *
            cases t; cases u
            simp only at h3 e1 e3
            subst h3 e1 e3; rfl
          rw [e2]
    · simp only at h2
      rw [List.take_of_length_le (by omega), List.take_of_length_le (by omega)] at hk
      rw [decide_eq_true hk] at H; exact H
end
end Den
end

section
set_option linter.unusedVariables false
namespace Den
open Go Lx

theorem ex1 : lex [97, 49, 32, 61, 32, 50, 46, 53, 48, 42, 40, 98, 41] = .ok [⟨1, [97, 49], 0⟩, ⟨4, [61], 3⟩, ⟨2, [50, 46, 53, 48], 5⟩, ⟨4, [42], 9⟩, ⟨4, [40], 10⟩, ⟨1, [98], 11⟩, ⟨4, [41], 12⟩, ⟨0, [], 13⟩] := by decide +kernel
theorem ex2 : lex [49, 46, 120] = .ok [⟨2, [49], 0⟩, ⟨4, [46], 1⟩, ⟨1, [120], 2⟩, ⟨0, [], 3⟩] := by decide +kernel
theorem ex3 : lex [92] = .err 0 2 := by decide +kernel

section
variable {K : Bool → Hp → Prop} {h : Hp} {s : ByteArray}

theorem awake_of (H : ∀ h', h.le h' → K true h') : F.law21_awake K h := by
  unfold F.law21_awake
  refine callP_of (fun r h' => LexR h' r (lex _)) (fun K' hk => Tokens_of hk) fun r1 h1 l1 q1 => ?_
  refine callP_of (fun r h' => LexR h' r (lex _)) (fun K' hk => Tokens_of hk) fun r2 h2 l2 q2 => ?_
  refine callP_of (fun r h' => LexR h' r (lex _)) (fun K' hk => Tokens_of hk) fun r3 h3 l3 q3 => ?_
  have e1 := ex1
  have e2 := ex2
  have e3 := ex3
  change lex (BS ⟨#[97, 49, 32, 61, 32, 50, 46, 53, 48, 42, 40, 98, 41]⟩) = _ at e1
  change lex (BS ⟨#[49, 46, 120]⟩) = _ at e2
  change lex (BS ⟨#[92]⟩) = _ at e3
  rw [e1] at q1; rw [e2] at q2; rw [e3] at q3
  obtain ⟨a1, a2, a3⟩ := q1
  obtain ⟨b1, b2, b3⟩ := q2
  have c1 : r3 = (nilS, ((0 : Nat) : Int), 2) := q3
  subst c1
  refine new_own (n := 8) (size := 3) rfl fun b h4 hb hown => ?_
  have hl4 : h3.le h4 := hown.1
  have d1 : Rd h4 3 ⟨some ⟨b, 0, none⟩, 8, 8⟩ (List.flatMap tokCells [⟨1, [97, 49], 0⟩, ⟨4, [61], 3⟩, ⟨2, [50, 46, 53, 48], 5⟩, ⟨4, [42], 9⟩, ⟨4, [40], 10⟩, ⟨1, [98], 11⟩, ⟨4, [41], 12⟩, ⟨0, [], 13⟩]) := hown.rd
  refine callP_same true (fun K' hk => same_of (a1.le (Hp.le_trans l2 (Hp.le_trans l3 hl4))) d1 (by decide) (by rw [decide_eq_true rfl]; exact hk)) ?_
  refine ifP_true rfl (ifP_true (by rw [a2]; rfl) (ifP_true (by rw [a3]; rfl) (ifP_true ?_ (ifP_true (by rw [b3]; rfl) (ifP_true rfl (H _ (Hp.le_trans l1 (Hp.le_trans l2 (Hp.le_trans l3 hl4)))))))))
  have := rd_toks_len b1
  rw [this]; rfl

theorem awake_callP {Kb : Bool → Hp → Prop} (H : ∀ h', h.le h' → Kb true h') : callP F.law21_awake Kb h :=
  callP_of (fun v _ => v = true) (fun K' hk => awake_of fun h' hl => hk _ _ hl rfl) fun v h' hl hv => by subst hv; exact H h' hl

end
end Den
end

section
set_option linter.unusedVariables false
namespace Den
open Go Lx
/-- A list of bytes in memory of its own, in a block of type t. -/
def OwnT (t : TypeId) (h0 h : Hp) (x : Sl) (cs : List Value) : Prop := Own h0 h 1 x cs ∧ ∀ a b, x.a = some a → h a.block = some b → b.elem = t
theorem own_ins {h0 h : Hp} {x : Sl} {cs : List Value} {n : Nat} {bl : Blk} (ho : Own h0 h 1 x cs) (hn : h0 n = none) (hne : ∀ a, x.a = some a → a.block ≠ n) : Own h0 (h.ins n bl) 1 x cs := by
  obtain ⟨h1, h2, h3, h4⟩ := ho
  refine ⟨fun k b hk => ?_, h2, h3, ?_⟩
  · rw [Hp.ins_ne (fun hh => by rw [hh, hn] at hk; cases hk)]
    exact h1 k b hk
  · cases ha : x.a with
    | none => rw [ha] at h4; exact h4
    | some a =>
      rw [ha] at h4
      obtain ⟨g1, g2, g3, b, g4, g5⟩ := h4
      exact ⟨g1, g2, g3, b, by rw [Hp.ins_ne (hne a ha)]; exact g4, g5⟩
theorem OwnT.ins {t : TypeId} {h0 h : Hp} {x : Sl} {cs : List Value} {n : Nat} {bl : Blk} (ho : OwnT t h0 h x cs) (hn : h0 n = none) (hne : ∀ a, x.a = some a → a.block ≠ n) : OwnT t h0 (h.ins n bl) x cs :=
  ⟨own_ins ho.1 hn hne, fun a b ha hb => ho.2 a b ha (by rwa [Hp.ins_ne (hne a ha)] at hb)⟩
theorem app_ownT {t : TypeId} {h0 h : Hp} {n N : Nat} {zero new cs : List Value} {x : Sl} {K : Sl → Hp → Prop} (hN : h N ≠ none) (hNx : ∀ a, x.a = some a → a.block ≠ N) (ho : OwnT t h0 h x cs) (hn : new.length = n) (hz : zero.length = 1)
    (hleaf : new.all Value.leaf = true) (hb : x.len + n ≤ 140737488355328)
    (H : ∀ y h', OwnT t h0 h' y (cs ++ new) → (∀ a, y.a = some a → a.block ≠ N) → h' N = h N → y.len = x.len + n → (y.a = none → x.a = none ∧ n = 0) → K y h') : appT t 1 1 zero x n new K h := by
  obtain ⟨ho, hel⟩ := ho
  have hrd := ho.rd
  obtain ⟨h1, h2, h3, h4⟩ := ho
  rw [Nat.mul_one] at h2
  refine ⟨by rw [Nat.mul_one]; exact hb, hb, fun hfit => ?_, fun hgrow => ?_⟩
  · cases ha : x.a with
    | none =>
      rw [ha] at h4
      simp only at h4
      have hn0 : n = 0 := by omega
      have hnew : new = [] := List.eq_nil_of_length_eq_zero (by omega)
      subst hnew hn0
      simp only [stO]
      refine H _ _ ⟨⟨h1, ?_, ?_, ?_⟩, fun a b hh => by cases hh⟩ (fun a hh => by cases hh) rfl rfl (fun _ => ⟨ha, rfl⟩)
      · simpa using h2
      · show x.len + 0 ≤ x.cap; omega
      · show x.cap = 0; exact h4
    | some a =>
      rw [ha] at h4
      obtain ⟨g1, g2, g3, b, g4, g5, g6, g7⟩ := h4
      rw [Nat.mul_one] at g6
      simp only [stO]
      refine ⟨b, by rw [add_block]; exact g4, add_spot g2 _, g5, ?_, hleaf, ?_⟩
      · rw [add_off]; omega
      · rw [add_block, add_off]
        have hne := hNx a ha
        refine H _ _ ⟨⟨?_, ?_, hfit, ?_⟩, ?_⟩ (fun a' hh => by cases hh; exact hne) ?_ rfl (fun hh => by cases hh)
        · intro k bk hk
          rw [Hp.ins_ne (fun hh => by subst hh; rw [g3] at hk; cases hk)]
          exact h1 k bk hk
        · show (x.len + n) * 1 = _; rw [List.length_append]; omega
        · refine ⟨g1, g2, g3, _, Hp.ins_same _ _ _, g5, ?_, ?_⟩
          · show (splice b.cells (a.off + x.len * 1) new).length = _
            unfold splice
            simp only [List.length_append, List.length_take, List.length_drop]
            show _ = x.cap * 1
            omega
          · show (splice b.cells (a.off + x.len * 1) new).take _ = _
            have hoff : a.off + x.len * 1 = cs.length := by omega
            unfold splice
            rw [hoff, g7, List.append_assoc, List.length_append, List.take_append]
            simp only [Nat.add_sub_cancel_left]
            rw [List.take_of_length_le (by omega), List.take_append, List.take_of_length_le (Nat.le_refl _)]
            simp
        · intro a' b' ha' hb'
          cases ha'
          rw [Hp.ins_same] at hb'
          cases hb'
          exact hel a b ha g4
        · rw [Hp.ins_ne (Ne.symm hne)]
  · refine ⟨cs, ?_, fun bk c hc hfr => ?_⟩
    · rw [Nat.mul_one, h2]; exact hrd.2
    · have hbN : bk ≠ N := fun hh => by rw [hh] at hfr; exact hN hfr
      refine H _ _ ⟨⟨Hp.le_trans h1 (Hp.le_ins hfr), ?_, hc, ?_⟩, ?_⟩ (fun a hh => by cases hh; exact hbN) (Hp.ins_ne (Ne.symm hbN)) rfl (fun hh => by cases hh)
      · show (x.len + n) * 1 = _; rw [List.length_append]; omega
      · refine ⟨rfl, rfl, ?_, _, Hp.ins_same _ _ _, rfl, ?_, ?_⟩
        · cases hk : h0 bk with
          | none => rfl
          | some b => have := h1 _ _ hk; rw [hfr] at this; cases this
        · show (cs ++ new ++ repl (c - (x.len + n)) zero).length = c * 1
          have hr : (repl (c - (x.len + n)) zero).length = (c - (x.len + n)) := by
            unfold repl
            simp [hz]
          rw [List.length_append, List.length_append, hr]
          omega
        · show (cs ++ new ++ repl (c - (x.len + n)) zero).take _ = cs ++ new
          rw [List.take_append_of_le_length (by simp)]
          exact List.take_of_length_le (Nat.le_refl _)
      · intro a' b' ha' hb'
        cases ha'
        have hb'' : (h.ins bk ⟨cs ++ new ++ repl (c - (x.len + n)) zero, t, (0, 0)⟩) bk = some b' := hb'
        rw [Hp.ins_same] at hb''
        cases hb''
        rfl
/-- At n stands a builder that holds the bytes l; it is new beside h0. -/
def BLD (h0 h : Hp) (n : Nat) (l : List UInt8) : Prop :=
  ∃ q x, h n = some ⟨[q, .slice x.a x.len x.cap], 50, (0, 0)⟩ ∧ (q = .pointer none ∨ q = .pointer (some ⟨n, 0, none⟩)) ∧ h0 n = none ∧
    OwnT 5 h0 h x (bcells l) ∧ (∀ a, x.a = some a → a.block ≠ n) ∧ (x.a = none ∨ l ≠ [])
def BLU (h0 h : Hp) (n : Nat) (l : List UInt8) : Prop :=
  ∃ x, h n = some ⟨[.pointer (some ⟨n, 0, none⟩), .slice x.a x.len x.cap], 50, (0, 0)⟩ ∧ h0 n = none ∧
    OwnT 5 h0 h x (bcells l) ∧ (∀ a, x.a = some a → a.block ≠ n) ∧ (x.a = none ∨ l ≠ [])
theorem BLD.hle {h0 h : Hp} {n : Nat} {l : List UInt8} (hb : BLD h0 h n l) : h0.le h := by
  obtain ⟨q, x, h1, h2, h3, h4, h5⟩ := hb
  exact h4.1.1
theorem bcells_len {l : List UInt8} : (bcells l).length = l.length := by simp [bcells]
theorem bcells_app {l m : List UInt8} : bcells (l ++ m) = bcells l ++ bcells m := by simp [bcells]
theorem bcells_leaf {l : List UInt8} : (bcells l).all Value.leaf = true := by simp [bcells, Value.leaf]
section
variable {h0 h : Hp} {n : Nat} {l : List UInt8}
theorem new_bld {K : Addr → Hp → Prop} (H : ∀ n h', BLD h h' n [] → K ⟨n, 0, none⟩ h') : newT 50 [.pointer none, .slice nilS.a nilS.len nilS.cap] K h := by
  intro b hb
  refine H b _ ⟨.pointer none, nilS, Hp.ins_same _ _ _, .inl rfl, hb, ⟨Own.nil (Hp.le_ins hb), (fun a b' ha => by cases ha)⟩, (fun a ha => by cases ha), .inl rfl⟩
theorem copyCheck_of {K : Unit → Hp → Prop} (hb : BLD h0 h n l) (H : ∀ h', BLU h0 h' n l → K () h') : callM (F.strings_Builder_copyCheck (some ⟨n, 0, none⟩)) K h := by
  refine callM_of ?_
  obtain ⟨q, x, h1, h2, h3, h4, h5, h6⟩ := hb
  refine ⟨n, _, rfl, h1, rfl, rfl, rfl, ?_⟩
  rcases h2 with rfl | rfl
  · exact .inl ⟨rfl, H _ ⟨x, Hp.ins_same _ _ _, h3, h4.ins h3 h5, h5, h6⟩⟩
  · exact .inr ⟨rfl, H _ ⟨x, h1, h3, h4, h5, h6⟩⟩
theorem bld_app {m : List UInt8} {k : Nat} {K : Hp → Prop} (hb : BLU h0 h n l) (hk : m.length = k) (hlen : l.length + k ≤ 140737488355328) (hm : m ≠ []) (H : ∀ h', BLD h0 h' n (l ++ m) → K h') :
    ldL (.sl) ((⟨n, 0, none⟩ : Addr).add 1) (fun x3 => appT 5 1 1 [.int .u8 0] x3 k (bcells m) (fun w4 h2 => ptrK (some ⟨n, 0, none⟩) fun p5 => stP (p5.add 1) [.slice w4.a w4.len w4.cap] (fun h3 => K h3) h2) h) h := by
  obtain ⟨x, h1, h3, h4, h5, h6⟩ := hb
  have hl : x.len = l.length := by have := h4.1.2.1; rw [bcells_len] at this; omega
  refine ⟨x, ?_, ?_⟩
  · rw [addr_add]
    unfold Hp.cell
    simp only [h1]
    rfl
  · refine app_ownT (N := n) (by rw [h1]; simp) h5 h4 (by rw [bcells_len]; exact hk) rfl bcells_leaf (by omega) fun y h' hy hyn hn hlen' hya => ?_
    rw [h1] at hn
    refine ⟨_, by rw [add_block]; exact hn, by rw [addr_add], rfl, by rw [addr_add]; exact Nat.le_refl _, rfl, H _ ⟨_, y, Hp.ins_same _ _ _, .inr rfl, h3, ?_, hyn, ?_⟩⟩
    · rw [bcells_app]; exact hy.ins h3 hyn
    · right
      cases l with
      | nil => exact hm
      | cons a b => simp
theorem WriteByte_of {c : UInt8} {y : Int} (hy : y = (c.toNat : Int)) {K : Value → Hp → Prop} (hb : BLD h0 h n l) (hlen : l.length ≤ 1000000) (H : ∀ h', BLD h0 h' n (l ++ [c]) → K .nilIface h') : callM (F.strings_Builder_WriteByte (some ⟨n, 0, none⟩) y) K h := by
  subst hy
  refine callM_of ?_
  unfold F.strings_Builder_WriteByte
  exact copyCheck_of hb fun h1 hb1 => bld_app (m := [c]) hb1 rfl (by omega) (by simp) fun h' hb' => H _ hb'
theorem WriteString_of {s : ByteArray} {K : (Int × Value) → Hp → Prop} (hb : BLD h0 h n l) (hlen : l.length ≤ 1000000) (hs : BS s ≠ []) (hs2 : s.size ≤ 1000000) (H : ∀ h', BLD h0 h' n (l ++ BS s) → K ((s.size : Int), .nilIface) h') : callM (F.strings_Builder_WriteString (some ⟨n, 0, none⟩) s) K h := by
  refine callM_of ?_
  unfold F.strings_Builder_WriteString
  exact copyCheck_of hb fun h1 hb1 => bld_app (m := BS s) hb1 (BS_len s) (by omega) hs fun h' hb' => H _ hb'
theorem String_of {K : ByteArray → Hp → Prop} (hb : BLD h0 h n l) (hlen : l.length ≤ 1000000) (H : ∀ h', h0.le h' → K ⟨l.toArray⟩ h') : callM (F.strings_Builder_String (some ⟨n, 0, none⟩)) K h := by
  refine callM_of ?_
  obtain ⟨q, x, h1, h2, h3, h4, h5, h6⟩ := hb
  obtain ⟨⟨g0, g1, g2, g3⟩, hel⟩ := h4
  rw [bcells_len] at g1
  refine ⟨n, _, q, rfl, h1, rfl, rfl, ?_⟩
  cases ha : x.a with
  | none =>
    rw [ha] at g3
    simp only at g3
    have hl0 : l = [] := List.eq_nil_of_length_eq_zero (by omega)
    subst hl0
    refine .inl ⟨?_, H h g0⟩
    have e1 : x.len = 0 := by omega
    rw [e1, g3]
  | some a =>
    rw [ha] at g3
    obtain ⟨i1, i2, i3, b, i4, i5, i6, i7⟩ := g3
    have hne : l ≠ [] := by
      rcases h6 with h6 | h6
      · rw [ha] at h6; cases h6
      · exact h6
    obtain ⟨g, off, sp⟩ := a
    simp only at i1 i2
    subst i1 i2
    refine .inr ⟨g, x.cap, l, b, hne, ?_, by omega, i4, hel _ _ ha i4, by omega, by omega, fun j y hj => ?_, H _ fun k c hk => ?_⟩
    · have e1 : x.len = l.length := by omega
      rw [e1]
    · have hlt : j < l.length := by
        rcases Nat.lt_or_ge j l.length with hh | hh
        · exact hh
        · rw [List.getElem?_eq_none hh] at hj; cases hj
      have : (b.cells.take (bcells l).length)[j]? = (bcells l)[j]? := by rw [i7]
      rw [bcells_len, List.getElem?_take_of_lt hlt] at this
      rw [this]
      unfold bcells
      rw [List.getElem?_map, hj]
      rfl
    · have hkg : k ≠ g := fun hh => by
        subst hh
        have i3' : h0 k = none := i3
        rw [i3'] at hk; cases hk
      simp only [if_neg hkg]
      exact g0 k c hk
end
end Den
end

section
set_option linter.unusedVariables false
namespace Den
open Go Lx
/-- The string of a string token. -/
def unq (l : B) : B × Int := if l ≠ [] ∧ quoN l = l.length then (quoT l, 0) else ([], 2)
theorem quo_cons {r : B} {n : Nat} (hn : 0 < n) (h : quoN (34 :: r) = n) : ∃ out, qs (r.length + 1) r = some (n - 1, out) ∧ quoT (34 :: r) = out := by
  unfold quoN quoT quo at *
  simp only [if_true] at *
  cases hq : qs (r.length + 1) r with
  | none => rw [hq] at h; simp at h; omega
  | some p =>
    rw [hq] at h
    simp only [Option.map_some] at h ⊢
    exact ⟨p.2, by rw [← h, Nat.add_sub_cancel], rfl⟩
theorem unq_bad {l : B} (h : ∀ r, l ≠ 34 :: r) : unq l = ([], 2) := by
  unfold unq
  rw [if_neg]
  rintro ⟨h1, h2⟩
  cases l with
  | nil => exact h1 rfl
  | cons c r =>
    rw [quoN_ne (fun hh => h r (by rw [hh]))] at h2
    simp at h2
section
variable {h : Hp} {s : ByteArray} {Kp : (ByteArray × Int) → Hp → Prop} {Ks : ByteArray → Hp → Prop} {K : Bool → Hp → Prop}
theorem toList_empty : ((s : ByteArray).toList == (emptyS : ByteArray).toList) = decide (BS s = []) := by
  rw [emptyS_toList, BS_toList]
  cases BS s <;> simp
theorem Unquote_of (hs : s.size ≤ 1000000) (H : ∀ h', h.le h' → Kp (⟨(unq (BS s)).1.toArray⟩, (unq (BS s)).2) h') : F.lexer_Unquote s Kp h := by
  unfold F.lexer_Unquote
  have hlen := BS_len s
  refine joinP_inv (fun _ h1 => h1 = h ∧ ∃ r, BS s = 34 :: r ∧ quoN (BS s) = s.size) ?_ ?_
  · rintro _ h1 ⟨rfl, r0, hr0, hq⟩
    have hsz : s.size = r0.length + 1 := by rw [← hlen, hr0]; rfl
    rw [hr0] at hq
    obtain ⟨out, hqs, hout⟩ := quo_cons (by omega) hq
    have hu : unq (BS s) = (out, 0) := by
      unfold unq
      rw [if_pos ⟨by rw [hr0]; simp, by rw [hr0, hq, hsz]; rfl⟩, hr0, hout]
    rw [hu] at H
    have hp0 := (qs_le _ _ _ hqs).2
    simp only at hp0
    refine new_bld fun n h2 hb2 => ?_
    refine loopP_of (fun st h' => ∃ (k : Nat) (acc : List UInt8), st = ((k : Int), ()) ∧ 1 ≤ k ∧ k ≤ s.size - 1 ∧ acc.length ≤ k ∧ BLD h1 h' n acc ∧ ∃ rest, qs (((BS s).drop k).length + 1) ((BS s).drop k) = some (s.size - k, rest) ∧ out = acc ++ rest) (fun st => (s.size - st.1).toNat)
      ⟨1, [], rfl, Nat.le_refl _, by omega, by simp, hb2, out, by rw [hr0]; exact hqs, rfl⟩ ?_
    rintro _ h3 ⟨k, acc, rfl, hk1, hk2, hacc, hb, rest, hk, ho⟩
    have ew : IntKind.i64.wrap ((s.size : Int) - 1) = ((s.size - 1 : Nat) : Int) := by rw [w64 (by omega)]; omega
    refine ifP_dec (fun h4 => ?_) (fun h4 => ?_)
    · simp only [ew] at h4
      cases hd : (BS s).drop k with
      | nil => have := List.drop_eq_nil_iff.1 hd; omega
      | cons c r =>
        obtain ⟨e1, e2⟩ := drop_next hd
        rw [hd] at hk
        refine strIdx_drop hd rfl ?_
        have h32 : ¬ c < 32 := fun hh => by unfold qs at hk; rw [if_pos hh] at hk; cases hk
        have h34 : ¬ c = 34 := fun hh => by
          unfold qs at hk; rw [if_neg h32, if_pos hh] at hk
          simp only [Option.some.injEq, Prod.mk.injEq] at hk; omega
        refine joinP_inv (fun s7 h' => h' = h3 ∧ ∃ (k' : Nat) (d : UInt8), s7 = ((k' : Int), (d.toNat : Int), ()) ∧ k ≤ k' ∧ k' + 1 ≤ s.size - 1 ∧ ∃ rest', rest = d :: rest' ∧ qs (((BS s).drop (k' + 1)).length + 1) ((BS s).drop (k' + 1)) = some (s.size - (k' + 1), rest')) ?_ ?_
        · rintro _ h5 ⟨rfl, k', d, rfl, j1, j2, rest', j3, j4⟩
          refine WriteByte_of rfl hb (by omega) fun h6 hb6 => ⟨⟨k' + 1, acc ++ [d], ?_, by omega, j2, by simp; omega, hb6, rest', j4, ?_⟩, ?_⟩
          · simp only; rw [w64 (by omega)]; rfl
          · rw [ho, j3]; simp
          · simp only; rw [w64 (by omega)]; omega
        · refine ifP_eq (fun h7 => ?_) (fun h7 => ?_)
          · have h8 : c = 92 := (u8_eq (n := 92) (by decide)).1 h7
            have w1 : IntKind.i64.wrap ((k : Int) + 1) = ((k + 1 : Nat) : Int) := by rw [w64 (by omega)]; omega
            simp only
            rw [w1]
            cases hr : r with
            | nil => rw [hr] at hk; unfold qs at hk; rw [if_neg h32, if_neg h34, if_pos h8] at hk; cases hk
            | cons d r' =>
              have hd2 : (BS s).drop (k + 1) = d :: r' := e1.trans hr
              obtain ⟨i2, i3⟩ := drop_next hd2
              rw [hr] at hk
              have e : qs ((c :: d :: r').length + 1) (c :: d :: r') = if d = 34 ∨ d = 92 ∨ d = 110 then (qs (r'.length + 1) r').map fun p => (p.1 + 2, (if d = 110 then 10 else d) :: p.2) else none := by
                conv => lhs; unfold qs
                rw [if_neg h32, if_neg h34, if_pos h8]
                simp only
                rw [qs_fuel (c :: d :: r').length (r'.length + 1) r' (by simp only [List.length_cons]; omega) (by omega)]
              rw [e] at hk
              have hdd : d = 34 ∨ d = 92 ∨ d = 110 := Classical.byContradiction fun hh => by rw [if_neg hh] at hk; cases hk
              rw [if_pos hdd] at hk
              cases hq2 : qs (r'.length + 1) r' with
              | none => rw [hq2] at hk; cases hk
              | some p =>
                rw [hq2] at hk
                simp only [Option.map_some, Option.some.injEq, Prod.mk.injEq] at hk
                obtain ⟨m1, m2⟩ := hk
                have hpp := (qs_le _ _ _ hq2).2
                have fin : ∀ d', (if d = 110 then 10 else d) = d' → ∃ rest', rest = d' :: rest' ∧ qs (((BS s).drop (k + 1 + 1)).length + 1) ((BS s).drop (k + 1 + 1)) = some (s.size - (k + 1 + 1), rest') := fun d' hd' => by
                  refine ⟨p.2, by rw [← m2, hd'], ?_⟩
                  rw [i2, hq2]
                  congr 1
                  refine Prod.ext ?_ rfl
                  simp only
                  omega
                refine strIdx_drop hd2 rfl (ifP_eq (fun j1 => ?_) (fun j1 => ?_))
                · have j2 : d = 110 := (u8_eq (n := 110) (by decide)).1 j1
                  exact ⟨trivial, k + 1, 10, rfl, by omega, by omega, fin 10 (by rw [if_pos j2])⟩
                · have j2 : ¬ d = 110 := fun hh => j1 (by rw [hh]; rfl)
                  exact ⟨trivial, k + 1, d, rfl, by omega, by omega, fin d (by rw [if_neg j2])⟩
          · have h8 : ¬ c = 92 := fun hh => h7 (by rw [hh]; rfl)
            have e : qs ((c :: r).length + 1) (c :: r) = (qs (r.length + 1) r).map fun p => (p.1 + 1, c :: p.2) := by
              conv => lhs; unfold qs
              rw [if_neg h32, if_neg h34, if_neg h8]
              rfl
            rw [e] at hk
            cases hq2 : qs (r.length + 1) r with
            | none => rw [hq2] at hk; cases hk
            | some p =>
              rw [hq2] at hk
              simp only [Option.map_some, Option.some.injEq, Prod.mk.injEq] at hk
              obtain ⟨m1, m2⟩ := hk
              refine ⟨rfl, k, c, rfl, Nat.le_refl _, by omega, p.2, m2.symm, ?_⟩
              rw [e1, hq2]
              congr 1
              refine Prod.ext ?_ rfl
              simp only
              omega
    · simp only [ew] at h4
      have hke : k = s.size - 1 := by omega
      have hrest : rest = [] := by
        cases hd : (BS s).drop k with
        | nil => have := List.drop_eq_nil_iff.1 hd; omega
        | cons c r =>
          obtain ⟨e1, e2⟩ := drop_next hd
          have hr : r = [] := by rw [← e1]; exact List.drop_eq_nil_of_le (by omega)
          rw [hd, hr] at hk
          have key : ∀ p, qs ([c].length + 1) [c] = some p → p.2 = [] := by
            intro p hp
            unfold qs at hp
            split at hp
            · cases hp
            · split at hp
              · simp only [Option.some.injEq] at hp; rw [← hp]
              · split at hp
                · cases hp
                · simp [qs] at hp
          exact key _ hk
      have : out = acc := by rw [ho, hrest, List.append_nil]
      rw [this] at H
      exact String_of hb (by omega) fun h' hl' => H h' hl'
  · refine ifP_intro (fun h1 => ?_) (fun h1 => ?_)
    · rw [toList_empty] at h1
      have h0 := of_decide_eq_true h1
      have := H h (Hp.le_refl _)
      rw [unq_bad (fun r => by rw [h0]; simp)] at this
      exact this
    · rw [toList_empty] at h1
      have h0 := of_decide_eq_false h1
      cases hd : BS s with
      | nil => exact absurd hd h0
      | cons c r =>
        refine strIdx_drop (k := 0) (r := r) (by rw [hd]; rfl) rfl (ifP_ne (fun h2 => ?_) (fun h2 => ?_))
        · have := H h (Hp.le_refl _)
          rw [unq_bad (fun r' hh => by rw [hd] at hh; cases hh; exact h2 rfl)] at this
          exact this
        · have hc : c = 34 := (u8_eq (n := 34) (by decide)).1 h2
          subst hc
          refine callP_same _ (fun K' hk => quoted_of hs ⟨r, hd⟩ hk) (ifP_ne (fun h3 => ?_) (fun h3 => ⟨rfl, r, rfl, by rw [hd] at h3; omega⟩))
          have := H h (Hp.le_refl _)
          have e : unq (BS s) = ([], 2) := by
            unfold unq
            rw [if_neg]
            rintro ⟨_, g⟩
            exact h3 (by rw [g, hlen])
          rw [e] at this
          exact this
end
end Den
end

section
set_option linter.unusedVariables false
namespace Den
open Go Lx
/-- What stands between the quotation marks. -/
def esc : B → Option B
  | [] => some []
  | c :: r => if c = 10 then (esc r).map fun t => 92 :: 110 :: t else if c < 32 then none else if c = 34 ∨ c = 92 then (esc r).map fun t => 92 :: c :: t else (esc r).map fun t => c :: t
def quot (l : B) : B := match esc l with | some t => 34 :: (t ++ [34]) | none => []
theorem esc_cons {c : UInt8} {r : B} : esc (c :: r) = if c = 10 then (esc r).map fun t => 92 :: 110 :: t else if c < 32 then none else if c = 34 ∨ c = 92 then (esc r).map fun t => 92 :: c :: t else (esc r).map fun t => c :: t := rfl
theorem esc_len : ∀ {l t : B}, esc l = some t → t.length ≤ 2 * l.length
  | [], t, h => by cases h; simp
  | c :: r, t, h => by
    rw [esc_cons] at h
    have ih : ∀ t', esc r = some t' → t'.length ≤ 2 * r.length := fun t' ht => esc_len ht
    split at h
    · cases hr : esc r with
      | none => rw [hr] at h; cases h
      | some t' => rw [hr] at h; cases h; have := ih _ hr; simp; omega
    · split at h
      · cases h
      · split at h
        · cases hr : esc r with
          | none => rw [hr] at h; cases h
          | some t' => rw [hr] at h; cases h; have := ih _ hr; simp; omega
        · cases hr : esc r with
          | none => rw [hr] at h; cases h
          | some t' => rw [hr] at h; cases h; have := ih _ hr; simp; omega
theorem qs_esc : ∀ {l t : B} (f : Nat), esc l = some t → t.length < f → qs (f + 1) (t ++ [34]) = some (t.length + 1, l)
  | [], t, f, h, hf => by
    cases h
    simp [qs]
  | c :: r, t, f, h, hf => by
    rw [esc_cons] at h
    have ih : ∀ t' f', esc r = some t' → t'.length < f' → qs (f' + 1) (t' ++ [34]) = some (t'.length + 1, r) := fun t' f' ht hf => qs_esc f' ht hf
    split at h
    · rename_i hc
      cases hr : esc r with
      | none => rw [hr] at h; cases h
      | some t' =>
        rw [hr] at h; cases h
        simp only [List.length_cons] at hf
        obtain ⟨f, rfl⟩ : ∃ g, f = g + 1 := ⟨f - 1, by omega⟩
        show qs (f + 1 + 1) (92 :: 110 :: (t' ++ [34])) = _
        unfold qs
        rw [if_neg (by decide), if_neg (by decide), if_pos rfl]
        simp only
        rw [if_pos (by decide), ih t' f hr (by omega), hc]
        simp
    · rename_i hc
      split at h
      · cases h
      · rename_i h32
        split at h
        · rename_i hcc
          cases hr : esc r with
          | none => rw [hr] at h; cases h
          | some t' =>
            rw [hr] at h; cases h
            simp only [List.length_cons] at hf
            obtain ⟨f, rfl⟩ : ∃ g, f = g + 1 := ⟨f - 1, by omega⟩
            show qs (f + 1 + 1) (92 :: c :: (t' ++ [34])) = _
            unfold qs
            rw [if_neg (by decide), if_neg (by decide), if_pos rfl]
            simp only
            have n110 : ¬ c = 110 := fun hh => by subst hh; revert hcc; decide
            rw [if_pos (by rcases hcc with hh | hh <;> simp [hh]), ih t' f hr (by omega), if_neg n110]
            simp
        · rename_i hcc
          cases hr : esc r with
          | none => rw [hr] at h; cases h
          | some t' =>
            rw [hr] at h; cases h
            simp only [List.length_cons] at hf
            obtain ⟨f, rfl⟩ : ∃ g, f = g + 1 := ⟨f - 1, by omega⟩
            show qs (f + 1 + 1) (c :: (t' ++ [34])) = _
            conv => lhs; unfold qs
            rw [if_neg h32, if_neg (fun hh => hcc (.inl hh)), if_neg (fun hh => hcc (.inr hh)), ih t' f hr (by omega)]
            simp
theorem quo_quot {l t : B} (h : esc l = some t) : quo (34 :: (t ++ [34])) = some (t.length + 2, l) := by
  unfold quo
  simp only
  rw [if_pos trivial]
  have := qs_esc (t.length + 1) h (by omega)
  have e : (t ++ [34]).length + 1 = t.length + 1 + 1 := by simp
  rw [e, this]
  rfl
theorem quot_some {l t : B} (h : esc l = some t) : quot l = 34 :: (t ++ [34]) := by unfold quot; rw [h]
theorem quot_none {l : B} (h : esc l = none) : quot l = [] := by unfold quot; rw [h]
theorem unq_quot {l t : B} (h : esc l = some t) : unq (quot l) = (l, 0) := by
  rw [quot_some h]
  have hq := quo_quot h
  unfold unq
  have e1 : quoN (34 :: (t ++ [34])) = t.length + 2 := by unfold quoN; rw [hq]
  have e2 : quoT (34 :: (t ++ [34])) = l := by unfold quoT; rw [hq]
  rw [if_pos ⟨by simp, by rw [e1]; simp⟩, e2]
theorem lex_quot {l t : B} (h : esc l = some t) (hl : t.length ≤ 60000) : lex (quot l) = .ok [⟨3, quot l, 0⟩, ⟨0, [], (quot l).length⟩] := by
  rw [quot_some h]
  have hq := quo_quot h
  have e1 : quoN (34 :: (t ++ [34])) = t.length + 2 := by unfold quoN; rw [hq]
  have en : nxt (34 :: (t ++ [34])) = (3, t.length + 2) := by
    unfold nxt
    simp only
    rw [if_neg (by decide), if_neg (by decide), if_pos trivial, e1]
  have hlen : (34 :: (t ++ [34])).length = t.length + 2 := by simp
  unfold lex
  rw [if_neg (by omega), hlen]
  unfold lexF
  simp only
  rw [if_neg (by decide), en]
  simp only
  rw [if_neg (by omega), if_neg (by rintro ⟨hh, _⟩; cases hh)]
  have ed : (34 :: (t ++ [34])).drop (t.length + 2) = [] := List.drop_eq_nil_of_le (by omega)
  have et : (34 :: (t ++ [34])).take (t.length + 2) = 34 :: (t ++ [34]) := List.take_of_length_le (by omega)
  rw [ed, et]
  unfold lexF
  simp [Res.pre]
section
variable {h : Hp} {s : ByteArray} {Kp : (ByteArray × Int) → Hp → Prop} {Ks : ByteArray → Hp → Prop} {K : Bool → Hp → Prop}
theorem Quote_of (hs : s.size ≤ 100000) (H : ∀ h', h.le h' → Ks ⟨(quot (BS s)).toArray⟩ h') : F.lexer_Quote s Ks h := by
  unfold F.lexer_Quote
  have hlen := BS_len s
  refine new_bld fun n h1 hb1 => ?_
  refine WriteByte_of (c := 34) rfl hb1 (by simp) fun h2 hb2 => ?_
  refine loopP_of (fun st h' => ∃ (k : Nat) (acc : List UInt8), st = ((k : Int), ()) ∧ k ≤ s.size ∧ acc.length ≤ 2 * k ∧ BLD h h' n (34 :: acc) ∧ esc (BS s) = (esc ((BS s).drop k)).map (acc ++ ·)) (fun st => (s.size - st.1).toNat)
    ⟨0, [], rfl, Nat.zero_le _, Nat.le_refl _, hb2, by rw [List.drop_zero]; cases esc (BS s) <;> rfl⟩ ?_
  rintro _ h3 ⟨k, acc, rfl, hk, hacc, hb, he⟩
  refine ifP_dec (fun h4 => ?_) (fun h4 => ?_)
  · simp only at h4
    cases hd : (BS s).drop k with
    | nil => have := List.drop_eq_nil_iff.1 hd; omega
    | cons c r =>
      obtain ⟨e1, e2⟩ := drop_next hd
      rw [hd, esc_cons] at he
      refine joinP_inv (fun _ h' => ∃ new, BLD h h' n (34 :: (acc ++ new)) ∧ new.length ≤ 2 ∧ esc (BS s) = (esc r).map (fun t => acc ++ (new ++ t))) ?_ ?_
      · rintro _ h5 ⟨new, hb5, l2, he5⟩
        refine ⟨⟨k + 1, acc ++ new, ?_, by omega, by simp; omega, hb5, ?_⟩, ?_⟩
        · simp only; rw [w64 (by omega)]; rfl
        · rw [he5, e1]; congr 1; funext t; simp
        · simp only; rw [w64 (by omega)]; omega
      · have ll : (34 :: acc).length ≤ 1000000 := by simp; omega
        refine strIdx_drop hd rfl (ifP_eq (fun h5 => ?_) (fun h5 => ?_))
        · have hc : c = 10 := (u8_eq (n := 10) (by decide)).1 h5
          rw [if_pos hc, Option.map_map] at he
          exact WriteString_of (s := ⟨#[92, 110]⟩) hb ll (by simp [BS]) (by decide) fun h6 hb6 => ⟨[92, 110], hb6, Nat.le_refl _, he⟩
        · have hc : ¬ c = 10 := fun hh => h5 (by rw [hh]; rfl)
          rw [if_neg hc] at he
          refine ifP_dec (fun h6 => ?_) (fun h6 => ?_)
          · rw [if_pos (lt32.1 h6)] at he
            have := H h3 hb.hle
            rw [quot_none he] at this
            exact this
          · rw [if_neg (fun hh => h6 (lt32.2 hh))] at he
            have two : (c = 34 ∨ c = 92) → callM (F.strings_Builder_WriteByte (some ⟨n, 0, none⟩) 92) (fun _ h6 => callM (F.strings_Builder_WriteByte (some ⟨n, 0, none⟩) (c.toNat : Int)) (fun _ h7 => ∃ new, BLD h h7 n (34 :: (acc ++ new)) ∧ new.length ≤ 2 ∧ esc (BS s) = (esc r).map (fun t => acc ++ (new ++ t))) h6) h3 := fun hcc => by
              rw [if_pos hcc, Option.map_map] at he
              refine WriteByte_of (c := 92) rfl hb ll fun h7 hb7 => WriteByte_of rfl hb7 (by simp; omega) fun h8 hb8 => ⟨[92, c], ?_, Nat.le_refl _, he⟩
              have e : (34 :: acc) ++ [92] ++ [c] = 34 :: (acc ++ [92, c]) := by simp
              rw [e] at hb8; exact hb8
            refine ifP_eq (fun h7 => two (.inl ((u8_eq (n := 34) (by decide)).1 h7))) (fun h7 => ifP_eq (fun h8 => two (.inr ((u8_eq (n := 92) (by decide)).1 h8))) (fun h8 => ?_))
            rw [if_neg (by rintro (hh | hh); exact h7 (by rw [hh]; rfl); exact h8 (by rw [hh]; rfl)), Option.map_map] at he
            exact WriteByte_of rfl hb ll fun h7 hb7 => ⟨[c], hb7, by simp, he⟩
  · simp only at h4
    have hd : (BS s).drop k = [] := List.drop_eq_nil_of_le (by omega)
    rw [hd] at he
    have he : esc (BS s) = some acc := by rw [he]; simp [esc]
    rw [quot_some he] at H
    exact WriteByte_of (c := 34) rfl hb (by simp; omega) fun h5 hb5 => String_of hb5 (by simp; omega) fun h' hl' => H h' hl'
theorem rQuote_of (hs : s.size ≤ 100000) (H : ∀ h', h.le h' → Ks ⟨(quot (BS s)).toArray⟩ h') : F.ref21_Quote s Ks h := by
  unfold F.ref21_Quote
  have hlen := BS_len s
  refine new_own (n := 1) (size := 1) rfl fun b h1 hb ho => ?_
  refine loopP_of (fun st h' => ∃ (x : Sl) (k : Nat) (acc : List UInt8), st = (x, (k : Int), ()) ∧ k ≤ s.size ∧ acc.length ≤ 2 * k ∧ Own h h' 1 x (bcells (34 :: acc)) ∧ esc (BS s) = (esc ((BS s).drop k)).map (acc ++ ·)) (fun st => (s.size - st.2.1).toNat)
    ⟨_, 0, [], rfl, Nat.zero_le _, Nat.le_refl _, ho, by rw [List.drop_zero]; cases esc (BS s) <;> rfl⟩ ?_
  rintro _ h3 ⟨x, k, acc, rfl, hk, hacc, hb, he⟩
  have hxl : x.len = acc.length + 1 := by have := hb.2.1; rw [bcells_len] at this; simp at this; omega
  refine ifP_dec (fun h4 => ?_) (fun h4 => ?_)
  · simp only at h4
    cases hd : (BS s).drop k with
    | nil => have := List.drop_eq_nil_iff.1 hd; omega
    | cons c r =>
      obtain ⟨e1, e2⟩ := drop_next hd
      rw [hd, esc_cons] at he
      refine joinP_inv (fun s4 h' => ∃ new, Own h h' 1 s4.1 (bcells (34 :: (acc ++ new))) ∧ new.length ≤ 2 ∧ esc (BS s) = (esc r).map (fun t => acc ++ (new ++ t))) ?_ ?_
      · rintro ⟨y, _⟩ h5 ⟨new, hb5, l2, he5⟩
        refine ⟨⟨y, k + 1, acc ++ new, ?_, by omega, by simp; omega, hb5, ?_⟩, ?_⟩
        · simp only; rw [w64 (by omega)]; rfl
        · rw [he5, e1]; congr 1; funext t; simp
        · simp only; rw [w64 (by omega)]; omega
      · refine strIdx_drop hd rfl (ifP_eq (fun h5 => ?_) (fun h5 => ?_))
        · have hc : c = 10 := (u8_eq (n := 10) (by decide)).1 h5
          rw [if_pos hc, Option.map_map] at he
          refine app_own hb (n := 2) rfl rfl rfl (by simp only; omega) (by simp only; omega) fun y h6 hy _ => ⟨[92, 110], ?_, Nat.le_refl _, he⟩
          have e : bcells (34 :: (acc ++ [92, 110])) = bcells (34 :: acc) ++ [.int .u8 92, .int .u8 110] := by simp [bcells]
          rw [e]; exact hy
        · have hc : ¬ c = 10 := fun hh => h5 (by rw [hh]; rfl)
          rw [if_neg hc] at he
          refine ifP_dec (fun h6 => ?_) (fun h6 => ?_)
          · rw [if_pos (lt32.1 h6)] at he
            have := H h3 hb.1
            rw [quot_none he] at this
            exact this
          · rw [if_neg (fun hh => h6 (lt32.2 hh))] at he
            refine joinP_inv (fun s8 h' => ∃ new, Own h h' 1 s8.1 (bcells (34 :: (acc ++ new))) ∧ new.length ≤ 1 ∧ esc (BS s) = (esc r).map (fun t => acc ++ (new ++ c :: t))) ?_ ?_
            · rintro ⟨y, _⟩ h5 ⟨new, hb5, l2, he5⟩
              have hyl : y.len = acc.length + new.length + 1 := by have := hb5.2.1; rw [bcells_len] at this; simp at this; omega
              refine app_own hb5 (n := 1) rfl rfl rfl (by simp only; omega) (by simp only; omega) fun z h7 hz _ => ⟨new ++ [c], ?_, by simp; omega, ?_⟩
              · have e : bcells (34 :: (acc ++ (new ++ [c]))) = bcells (34 :: (acc ++ new)) ++ [.int .u8 (c.toNat : Int)] := by simp [bcells]
                rw [e]; exact hz
              · rw [he5]; congr 1; funext t; simp
            · have two : (c = 34 ∨ c = 92) → appP 1 1 [.int .u8 0] x 1 [.int .u8 92] (fun w h' => ∃ new, Own h h' 1 w (bcells (34 :: (acc ++ new))) ∧ new.length ≤ 1 ∧ esc (BS s) = (esc r).map (fun t => acc ++ (new ++ c :: t))) h3 := fun hcc => by
                rw [if_pos hcc, Option.map_map] at he
                refine app_own hb (n := 1) rfl rfl rfl (by omega) (by omega) fun y h6 hy _ => ⟨[92], ?_, Nat.le_refl _, he⟩
                have e : bcells (34 :: (acc ++ [92])) = bcells (34 :: acc) ++ [.int .u8 92] := by simp [bcells]
                rw [e]; exact hy
              refine ifP_eq (fun h7 => two (.inl ((u8_eq (n := 34) (by decide)).1 h7))) (fun h7 => ifP_eq (fun h8 => two (.inr ((u8_eq (n := 92) (by decide)).1 h8))) (fun h8 => ?_))
              rw [if_neg (by rintro (hh | hh); exact h7 (by rw [hh]; rfl); exact h8 (by rw [hh]; rfl)), Option.map_map] at he
              exact ⟨[], by rw [List.append_nil]; exact hb, by simp, he⟩
  · simp only at h4
    have hd : (BS s).drop k = [] := List.drop_eq_nil_of_le (by omega)
    rw [hd] at he
    have he : esc (BS s) = some acc := by rw [he]; simp [esc]
    rw [quot_some he] at H
    refine app_own hb (n := 1) rfl rfl rfl (by simp only; omega) (by simp only; omega) fun y h6 hy hyl => ?_
    have e : bcells (34 :: acc) ++ [.int .u8 34] = bcells (34 :: (acc ++ [34])) := by simp [bcells]
    rw [e] at hy
    have hrd := hy.rd
    refine ⟨34 :: (acc ++ [34]), ?_, H _ hy.1⟩
    have h2 := hrd.2
    have h1 := hrd.1
    rw [← h1, Nat.mul_one] at h2
    exact h2
theorem law_quote (H : ∀ h', h.le h' → K true h') : F.law21_LexerQuote s K h := by
  unfold F.law21_LexerQuote
  have hlen := BS_len s
  refine joinP_inv (fun _ h1 => h.le h1 ∧ s.size ≤ 2000) ?_ ?_
  · rintro _ h1 ⟨hl1, hs⟩
    refine callP_of (fun r h' => r = ⟨(quot (BS s)).toArray⟩) (fun K' hk => Quote_of (by omega) fun h' hl => hk _ _ hl rfl) fun r1 h2 hl2 e1 => ?_
    refine callP_of (fun r h' => r = ⟨(quot (BS s)).toArray⟩) (fun K' hk => rQuote_of (by omega) fun h' hl => hk _ _ hl rfl) fun r2 h3 hl3 e2 => ?_
    subst e1 e2
    obtain ⟨q, hq⟩ : ∃ q : ByteArray, q = ⟨(quot (BS s)).toArray⟩ := ⟨_, rfl⟩
    rw [← hq]
    have bq : BS q = quot (BS s) := by rw [hq]
    have qlen : q.size ≤ 5000 := by
      rw [← BS_len, bq]
      cases he : esc (BS s) with
      | none => rw [quot_none he]; simp
      | some t => have := esc_len he; rw [quot_some he]; simp only [List.length_cons, List.length_append, List.length_nil]; omega
    refine ifP_false (by simp) ?_
    refine callP_of (fun r h' => r = (⟨(unq (BS q)).1.toArray⟩, (unq (BS q)).2)) (fun K' hk => Unquote_of (by omega) fun h' hl => hk _ _ hl rfl) fun r3 h4 hl4 e3 => ?_
    have l4 := Hp.le_trans hl1 (Hp.le_trans hl2 (Hp.le_trans hl3 hl4))
    subst e3
    rw [toList_empty, bq]
    cases he : esc (BS s) with
    | none =>
      rw [quot_none he]
      refine ifP_true (by simp) (ifP_true ?_ ?_)
      · rw [toList_empty]; simp [unq, BS]
      · exact H _ l4
    | some t =>
      have ht := esc_len he
      have hu := unq_quot he
      have hx := lex_quot he (by omega)
      refine ifP_false (by rw [quot_some he]; simp) ?_
      rw [hu]
      have eS : (⟨(BS s).toArray⟩ : ByteArray) = s := by simp [BS]
      simp only [eS]
      refine callP_of (fun r h' => LexR h' r (lex _)) (fun K' hk => Tokens_of hk) fun r5 h5 hl5 q5 => ?_
      rw [bq, hx] at q5
      obtain ⟨a1, a2, a3⟩ := q5
      have hl := rd_toks_len a1
      refine ifP_true (by simp) (ifP_true rfl (ifP_true (by rw [a3]; rfl) (ifP_true (by rw [hl]; rfl) ?_)))
      refine rd_tok 0 a1 rfl (by simp) fun a g1 g2 g3 => ⟨3, g1, ifP_true rfl (rd_tok 0 a1 rfl (by simp) fun a' g1' g2' g3' => ⟨⟨(quot (BS s)).toArray⟩, g2', ?_⟩)⟩
      have := H h5 (Hp.le_trans l4 hl5)
      rw [← hq]
      simpa using this
  · refine awake_callP fun h1 l1 => ?_
    refine ifP_false rfl (ifP_dec (fun _ => ?_) (fun h2 => ⟨l1, by omega⟩))
    exact awake_callP fun h2 l2 => H _ (Hp.le_trans l1 l2)
end
end Den
end
