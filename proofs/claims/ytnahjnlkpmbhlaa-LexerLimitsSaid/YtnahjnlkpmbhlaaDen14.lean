/-
  Code: 'den' is sound.
-/
import Derived.Test.YtnahjnlkpmbhlaaDen13
namespace Den
open Go
variable {ro : Option Nat} {nn : Nat}

section
variable {C : Cfg} {B : Base}

theorem wantE_wanted {ops : Array Oper} {o : Oper} {e : Env} {h : Hp} {a : Act} {w : World} (hR : Rel C B e h a w) {b : Bool} (hw : wantE C ops o e = some b) :
    Region.wanted o (yielded ops a.tmps) = b := by
  unfold wantE at hw
  cases hg : o.guard with
  | none => rw [hg] at hw; cases hw; exact wanted_true hg
  | some g =>
    obtain ⟨j, want⟩ := g
    rw [hg] at hw
    simp only at hw
    cases hd : (ops[j]?).bind (·.dst) with
    | none => rw [hd] at hw; cases hw
    | some d =>
      rw [hd] at hw
      simp only at hw
      split at hw
      · rename_i t hl hv
        cases hw
        exact wanted_bool hg hd (hR.vals d _ hv)
      · rename_i vs hl hv
        cases hw
        exact wanted_undef hg hd (hR.vals d _ hv)
      · cases hw

theorem step_sound (hC : CfgOK C) {ops : Array Oper} {i : Nat} {o : Oper} {e : Env} {h : Hp} {a : Act} {w : World} {K : Up → Hp → Prop} {Q : Exit → Act → World → Prop}
    (hi : ops[i]? = some o) (hR : Rel C B e h a w) (hk : stepT C ops o e h K) : wpOpIn (wideR ro) nn C.P ops Q i (After C B o e K) a w := by
  unfold wpOpIn
  rw [hi]
  simp only
  unfold stepT at hk
  cases hw : wantE C ops o e with
  | none => rw [hw] at hk; exact hk.elim
  | some b =>
    rw [hw] at hk
    rw [wantE_wanted hR hw]
    cases b with
    | true => simp only [if_true]; exact dcore_sound hC.tab hR hk
    | false => simp only [Bool.false_eq_true, if_false]; exact ⟨fun _ _ => trivial, skipV_after hR hk⟩

theorem ancs_listed {ops : Array Oper} {listed : Array Bool}
    (hdc : ∀ (i : Nat) (o : Oper), ops[i]? = some o → listed.getD i false = true → ∀ e ∈ o.after.toList, Region.binds .any e = true → listed.getD e.on false = true) :
    ∀ {d i : Nat} {o : Oper}, ops[i]? = some o → (∀ e ∈ o.after.toList, Region.binds .any e = true → listed.getD e.on false = true) → ∀ x ∈ ancs ops d i, listed.getD x false = true
  | 0, i, o, _, _, x, hx => by simp [ancs] at hx
  | d + 1, i, o, hi, ho, x, hx => by
    unfold ancs at hx
    rw [hi] at hx
    simp only [List.mem_flatMap] at hx
    obtain ⟨e, he, hx⟩ := hx
    split at hx
    · rename_i hb
      have hl := ho e he hb
      rcases List.mem_cons.1 hx with rfl | hx
      · exact hl
      · cases he' : ops[e.on]? with
        | none =>
          cases d with
          | zero => simp [ancs] at hx
          | succ d => unfold ancs at hx; rw [he'] at hx; cases hx
        | some oe => exact ancs_listed hdc he' (fun e2 he2 hb2 => hdc e.on oe he' hl e2 he2 hb2) x hx
    · cases hx

theorem pairs_of {ops : Array Oper} : ∀ {p r : List Nat} {y : Nat}, pairsOk C ops (p ++ y :: r) = true → (∀ x ∈ p, memN x (ancs ops ops.size y) = true ∨ swapOk C ops x y = true) ∧ pairsOk C ops (p ++ r) = true
  | [], r, y, hp => by
    simp only [List.nil_append, pairsOk, Bool.and_eq_true] at hp
    exact ⟨(fun x hx => by cases hx), hp.2⟩
  | z :: p, r, y, hp => by
    simp only [List.cons_append, pairsOk, Bool.and_eq_true, List.all_eq_true] at hp
    obtain ⟨h1, h2⟩ := hp
    obtain ⟨h3, h4⟩ := pairs_of h2
    refine ⟨fun x hx => ?_, ?_⟩
    · rcases List.mem_cons.1 hx with rfl | hx
      · have := h1 y (by simp); rw [Bool.or_eq_true] at this; exact this
      · exact h3 x hx
    · simp only [List.cons_append, pairsOk, Bool.and_eq_true, List.all_eq_true]
      exact ⟨fun q hq => h1 q (by rcases List.mem_append.1 hq with h | h <;> simp [h]), h4⟩

theorem draw_sound (hC : CfgOK C) {ops : Array Oper} {K : Env → Hp → Prop} {ms : List Nat} {e0 : Env} {Q : Exit → Act → World → Prop}
    (hms : ∀ (i : Nat) (o : Oper), ops[i]? = some o → ∀ d ∈ modsO C o, d ∈ ms) (hQ : ∀ x a w, Behind C B ms e0 K x a w → Q x a w)
    (hback : ∀ (i : Nat) (o : Oper), ops[i]? = some o → ∀ e ∈ o.after.toList, Region.binds .any e = true → e.on < i) :
    ∀ (fuel : Nat) (c : List Nat) (listed : Array Bool) (e : Env) (h : Hp) (a : Act) (w : World), c.length ≤ fuel → listed.size = ops.size → c.Nodup →
      (∀ i, i < ops.size → (listed.getD i false = false ↔ i ∈ c)) → (∀ i ∈ c, i < ops.size) →
      (∀ (i : Nat) (o : Oper), ops[i]? = some o → listed.getD i false = true → ∀ e ∈ o.after.toList, Region.binds .any e = true → listed.getD e.on false = true) →
      pairsOk C ops c = true → (∀ t, t ∉ ms → keep (e0 t) (e t)) → dops C ops K c e h → Rel C B e h a w → wpAnyIn (wideR ro) nn C.P .any ops Q fuel listed a w := by
  -- an operation that isn't listed and has no unlisted edge is ready
  have least : ∀ (c : List Nat) (listed : Array Bool), listed.size = ops.size → (∀ i, i < ops.size → (listed.getD i false = false ↔ i ∈ c)) → (∀ i ∈ c, i < ops.size) → c ≠ [] →
      Region.ready .any ops listed ≠ [] := by
    intro c listed hsz hiff hlt hne
    have : ∀ n, ∀ i ∈ c, i ≤ n → ∃ j ∈ c, ∀ k ∈ c, j ≤ k := by
      intro n
      induction n with
      | zero => intro i hi hn; exact ⟨i, hi, fun k _ => by omega⟩
      | succ n ih =>
        intro i hi hn
        by_cases hex : ∃ k ∈ c, k ≤ n
        · obtain ⟨k, hk, hkn⟩ := hex; exact ih k hk hkn
        · exact ⟨i, hi, fun k hk => by
            by_cases hkn : k ≤ n
            · exact absurd ⟨k, hk, hkn⟩ hex
            · omega⟩
    obtain ⟨i0, r0, hc⟩ : ∃ i r, c = i :: r := by cases c with | nil => exact absurd rfl hne | cons i r => exact ⟨i, r, rfl⟩
    obtain ⟨j, hj, hmin⟩ := this i0 i0 (by rw [hc]; simp) (Nat.le_refl _)
    have hjs := hlt j hj
    have hready : j ∈ Region.ready .any ops listed := by
      unfold Region.ready
      rw [List.mem_filter]
      refine ⟨List.mem_range.2 hjs, ?_⟩
      have hl := (hiff j hjs).2 hj
      have h1 : listed.getD j true = false := by
        rw [Array.getD_eq_getD_getElem?] at hl ⊢
        rw [Array.getElem?_eq_getElem (by omega)] at hl ⊢
        exact hl
      rw [h1]
      simp only [Bool.not_false, Bool.true_and]
      rw [Array.getElem?_eq_getElem hjs]
      simp only [Option.map_some, Option.getD_some]
      rw [Array.all_eq_true']
      intro e he
      rw [Bool.or_eq_true]
      cases hbe : Region.binds .any e with
      | false => left; rfl
      | true =>
      right
      have hlt' := hback j _ (Array.getElem?_eq_getElem hjs) e (by simpa using he) hbe
      cases hg : listed.getD e.on false with
      | true => rfl
      | false => have := hmin _ ((hiff e.on (by omega)).1 hg); omega
    intro hnil; rw [hnil] at hready; cases hready
  intro fuel
  induction fuel with
  | zero =>
    intro c listed e h a w hf hsz hnd hiff hlt hdc hp hkeep hk hR
    have hcn : c = [] := List.eq_nil_of_length_eq_zero (by omega)
    subst hcn
    refine ⟨?_, hQ _ _ _ ⟨rfl, e, h, hk, hR, hkeep⟩⟩
    unfold Region.ready
    rw [List.filter_eq_nil_iff]
    intro i hi
    have his := List.mem_range.1 hi
    have hl : listed.getD i false = true := by
      cases hg : listed.getD i false with
      | true => rfl
      | false => exact absurd ((hiff i his).1 hg) (by simp)
    have h1 : listed.getD i true = true := by
      rw [Array.getD_eq_getD_getElem?] at hl ⊢
      rw [Array.getElem?_eq_getElem (by omega)] at hl ⊢
      exact hl
    rw [h1]; simp
  | succ fuel ih =>
    intro c listed e h a w hf hsz hnd hiff hlt hdc hp hkeep hk hR
    refine ⟨fun hnil => ?_, fun i hi => ?_⟩
    · by_cases hcn : c = []
      · subst hcn; exact hQ _ _ _ ⟨rfl, e, h, hk, hR, hkeep⟩
      · exact absurd hnil (least c listed hsz hiff hlt hcn)
    · unfold Region.ready at hi
      rw [List.mem_filter] at hi
      obtain ⟨hi1, hi2⟩ := hi
      have his := List.mem_range.1 hi1
      rw [Bool.and_eq_true] at hi2
      obtain ⟨hi3, hi4⟩ := hi2
      have hl : listed.getD i false = false := by
        rw [Array.getD_eq_getD_getElem?] at hi3 ⊢
        rw [Array.getElem?_eq_getElem (by omega)] at hi3 ⊢
        simpa using hi3
      have hic := (hiff i his).1 hl
      obtain ⟨p, r, rfl⟩ := List.append_of_mem hic
      obtain ⟨o, ho⟩ : ∃ o, ops[i]? = some o := ⟨_, Array.getElem?_eq_getElem his⟩
      rw [ho] at hi4
      simp only [Option.map_some, Option.getD_some] at hi4
      have hedges : ∀ e ∈ o.after.toList, Region.binds .any e = true → listed.getD e.on false = true := fun e he hb => by
        have := (Array.all_eq_true'.1 hi4) e (by simpa using he)
        rw [hb] at this; simpa using this
      obtain ⟨hpo, hpr⟩ := pairs_of hp
      have hswap : ∀ x ∈ p, swapOk C ops x i = true := fun x hx => by
        rcases hpo x hx with h1 | h1
        · have h2 := ancs_listed hdc ho hedges x (memN_iff.1 h1)
          have hxs := hlt x (by simp [hx])
          have h3 := (hiff x hxs).2 (by simp [hx])
          rw [h2] at h3; cases h3
        · exact h1
      have hb := dops_bubble hC hR.sub.fin hswap hk
      rw [dops_cons ho] at hb
      refine wpOpIn_mono ?_ (step_sound hC ho hR hb)
      rintro a' w' ⟨u, h', hk', hR', hd'⟩
      have hnd' : (p ++ r).Nodup ∧ i ∉ p ++ r := by
        rw [List.nodup_append] at hnd
        obtain ⟨n1, n2, n3⟩ := hnd
        rw [List.nodup_cons] at n2
        refine ⟨List.nodup_append.2 ⟨n1, n2.2, fun a ha b hb => n3 a ha b (by simp [hb])⟩, fun hm => ?_⟩
        rcases List.mem_append.1 hm with hm | hm
        · exact n3 i hm i (by simp) rfl
        · exact n2.1 hm
      have hset : ∀ j, j < ops.size → (listed.setIfInBounds i true).getD j false = if j = i then true else listed.getD j false := fun j hj => by
        simp only [Array.getD_eq_getD_getElem?, Array.getElem?_setIfInBounds]
        by_cases hji : j = i
        · subst hji; simp [show j < listed.size by omega]
        · simp [Ne.symm hji, hji]
      refine ih (p ++ r) (listed.setIfInBounds i true) (e.upd C.rt u) h' a' w' ?_ (by simpa using hsz) hnd'.1 ?_ ?_ ?_ hpr ?_ hk' hR'
      · simp at hf ⊢; omega
      · intro j hj
        rw [hset j hj]
        by_cases hji : j = i
        · subst hji; simp only [if_true]; exact ⟨(fun hh => by cases hh), fun hh => absurd hh hnd'.2⟩
        · rw [if_neg hji, hiff j hj]
          simp only [List.mem_append, List.mem_cons]
          constructor
          · rintro (h1 | h1 | h1)
            · exact .inl h1
            · exact absurd h1 hji
            · exact .inr h1
          · rintro (h1 | h1)
            · exact .inl h1
            · exact .inr (.inr h1)
      · intro j hj
        exact hlt j (by rcases List.mem_append.1 hj with h1 | h1 <;> simp [h1])
      · intro j oj hoj hlj ed hed hbd
        have hjs : j < ops.size := by
          rcases Nat.lt_or_ge j ops.size with h1 | h1
          · exact h1
          · rw [Array.getElem?_eq_none h1] at hoj; cases hoj
        have hes : ed.on < ops.size := by have := hback j oj hoj ed hed hbd; omega
        rw [hset _ hes]
        by_cases hei : ed.on = i
        · simp [hei]
        · rw [if_neg hei]
          rw [hset j hjs] at hlj
          by_cases hji : j = i
          · subst hji
            rw [ho] at hoj; cases hoj
            exact hedges ed hed hbd
          · rw [if_neg hji] at hlj
            exact hdc j oj hoj hlj ed hed hbd
      · intro t ht
        exact (hkeep t ht).trans (keep_upd fun d hd hh => ht (by rw [hh]; exact hms i o ho d (hd' d hd)))

end
end Den
