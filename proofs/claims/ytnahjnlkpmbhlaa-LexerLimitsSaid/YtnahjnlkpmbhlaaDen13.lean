/-
  A list of operations may be put into another order; a region that draws its order.
-/
import Derived.Test.YtnahjnlkpmbhlaaDen12
namespace Den
open Go

section
variable {C : Cfg}

theorem memN_iff {t : Nat} : ∀ {l : List Nat}, memN t l = true ↔ t ∈ l
  | [] => by simp [memN]
  | x :: r => by
    unfold memN
    by_cases h : t = x
    · subst h; simp [beqT]
    · rw [beqF h]; simp [h, memN_iff (l := r)]

theorem disjN_iff {a b : List Nat} : disjN a b = true ↔ ∀ x ∈ a, x ∉ b := by
  unfold disjN
  rw [List.all_eq_true]
  constructor
  · intro h x hx hb
    have := h x hx
    rw [(memN_iff (t := x) (l := b)).2 hb] at this; cases this
  · intro h x hx
    cases hm : memN x b with
    | false => rfl
    | true => exact absurd (memN_iff.1 hm) (h x hx)

theorem upd_other {e : Env} {u : Up} {t : Nat} (ht : ∀ d, u.dst = some d → t ≠ d) (hr : ∀ d, u.dst = some d → C.rt t ≠ d) : e.upd C.rt u t = e t := by
  cases u with
  | none => rfl
  | set d s => exact Env.set_ne (ht d rfl)
  | alloc d s =>
    show (bif Nat.beq t d then s else match e t with | .ref o => bif Nat.beq (C.rt t) d then Slot.junk else .ref o | x => x) = e t
    rw [beqF (ht d rfl), beqF (hr d rfl)]
    cases e t <;> rfl

theorem upd_comm {e : Env} {u v : Up} (h1 : ∀ d d', u.dst = some d → v.dst = some d' → d ≠ d') (hu : ∀ d off, u = .set d (.ref off) → ∀ d', v.dst = some d' → C.rt d ≠ d')
    (hv : ∀ d off, v = .set d (.ref off) → ∀ d', u.dst = some d' → C.rt d ≠ d')
    (ha : ∀ d off, u ≠ .alloc d (.ref off)) (hb : ∀ d off, v ≠ .alloc d (.ref off)) : (e.upd C.rt u).upd C.rt v = (e.upd C.rt v).upd C.rt u := by
  cases u with
  | none => rfl
  | set d s =>
    cases v with
    | none => rfl
    | set d' s' =>
      have hd := h1 d d' rfl rfl
      funext t
      simp only [Env.upd]
      by_cases ht : t = d
      · subst ht; rw [Env.set_ne hd, Env.set_same, Env.set_same]
      · by_cases ht' : t = d'
        · subst ht'; rw [Env.set_same, Env.set_ne ht, Env.set_same]
        · rw [Env.set_ne ht', Env.set_ne ht, Env.set_ne ht, Env.set_ne ht']
    | alloc d' s' =>
      have hd := h1 d d' rfl rfl
      funext t
      simp only [Env.upd]
      by_cases ht : t = d
      · subst ht
        rw [Env.set_same]
        unfold Env.alloc
        rw [beqF hd, Env.set_same]
        cases s with
        | ref o => rw [beqF (hu t o rfl d' rfl)]; rfl
        | _ => rfl
      · rw [Env.set_ne ht]
        unfold Env.alloc
        rw [Env.set_ne ht]
  | alloc d s =>
    cases v with
    | none => rfl
    | set d' s' =>
      have hd := h1 d d' rfl rfl
      funext t
      simp only [Env.upd]
      by_cases ht : t = d'
      · subst ht
        rw [Env.set_same]
        unfold Env.alloc
        rw [beqF (Ne.symm hd), Env.set_same]
        cases s' with
        | ref o => rw [beqF (hv t o rfl d rfl)]; rfl
        | _ => rfl
      · rw [Env.set_ne ht]
        unfold Env.alloc
        rw [Env.set_ne ht]
    | alloc d' s' =>
      have hd := h1 d d' rfl rfl
      funext t
      simp only [Env.upd]
      unfold Env.alloc
      by_cases ht : t = d
      · subst ht
        rw [beqF hd, beqT]
        simp only [cond_true, cond_false]
        cases s with
        | ref o => exact absurd rfl (ha t o)
        | _ => rfl
      · rw [beqF ht]
        by_cases ht' : t = d'
        · subst ht'
          rw [beqT]
          simp only [cond_true, cond_false]
          cases s' with
          | ref o => exact absurd rfl (hb t o)
          | _ => rfl
        · rw [beqF ht']
          simp only [cond_false]
          cases e t with
          | ref o =>
            simp only
            cases Nat.beq (C.rt t) d <;> cases Nat.beq (C.rt t) d' <;> rfl
          | _ => rfl

/-! ### One step, its guard decided -/

def wantE (C : Cfg) (ops : Array Oper) (o : Oper) (e : Env) : Option Bool :=
  match o.guard with
  | none => some true
  | some (j, want) => match (ops[j]?).bind (·.dst) with
    | none => none
    | some d => match C.loc d, e d with
      | false, .val (.bool t) => some (t == want)
      | false, .val (.tuple _) => some false
      | _, _ => none

def stepT (C : Cfg) (ops : Array Oper) (o : Oper) (e : Env) : PT := fun h K =>
  match wantE C ops o e with
  | some true => dcore C o e h K
  | some false => skipV C o.dst h K
  | none => False

theorem dops_cons {ops : Array Oper} {i : Nat} {r : List Nat} {K : Env → Hp → Prop} {e : Env} {h : Hp} {o : Oper} (hi : ops[i]? = some o) :
    dops C ops K (i :: r) e h ↔ stepT C ops o e h fun u h' => dops C ops K r (e.upd C.rt u) h' := by
  conv => lhs; unfold dops
  rw [hi]
  unfold stepT wantE
  simp only
  cases hg : o.guard with
  | none => exact Iff.rfl
  | some g =>
    obtain ⟨j, want⟩ := g
    simp only
    cases hd : (ops[j]?).bind (·.dst) with
    | none => exact Iff.rfl
    | some d =>
      simp only
      cases hl : C.loc d with
      | true =>
        cases he : e d with
        | val v => cases v <;> exact Iff.rfl
        | _ => exact Iff.rfl
      | false =>
        cases he : e d with
        | val v =>
          cases v with
          | bool t =>
            have hset : e.set d (.val (.bool t)) = e := by
              funext x; by_cases hx : x = d
              · subst hx; rw [Env.set_same, he]
              · rw [Env.set_ne hx]
            cases t <;> cases want <;> simp only [ifP] <;> rw [hset] <;> exact Iff.rfl
          | _ => exact Iff.rfl
        | _ => exact Iff.rfl

theorem wantE_congr {ops : Array Oper} {o : Oper} {e e' : Env} (H : ∀ d ∈ guardD ops o, e d = e' d) : wantE C ops o e = wantE C ops o e' := by
  unfold wantE
  unfold guardD at H
  cases hg : o.guard with
  | none => rfl
  | some g =>
    obtain ⟨j, want⟩ := g
    rw [hg] at H
    simp only at H ⊢
    cases hd : (ops[j]?).bind (·.dst) with
    | none => rfl
    | some d =>
      rw [hd] at H
      simp only at H ⊢
      rw [H d (by simp)]

theorem stepT_congr {ops : Array Oper} {o : Oper} {e e' : Env} (H : ∀ t ∈ readsO C ops o, e t = e' t) : stepT C ops o e = stepT C ops o e' := by
  have h1 : wantE C ops o e = wantE C ops o e' := wantE_congr fun d hd => H d (by simp [readsO, hd])
  have h2 : dcore C o e = dcore C o e' := dcore_congr fun x hx t ht => by
    subst ht
    have hr : ∀ s ∈ readsX C (.tmp t), s ∈ readsO C ops o := fun s hs => by
      unfold readsO
      exact List.mem_append_left _ (List.mem_append_left _ (List.mem_flatMap.2 ⟨_, hx, hs⟩))
    exact ⟨H _ (hr _ (by simp [readsX])), H _ (hr _ (by simp [readsX]))⟩
  funext h K
  unfold stepT
  rw [h1, h2]

/-! ### Two steps change places -/

def NewS (M : Up → Prop) (T : PT) : Prop := ∃ (c : List Value) (f : Nat → Up), (∀ b, M (f b)) ∧ ∀ h K, T h K ↔ ∀ b el, h b = none → K (f b) (h.ins b ⟨c, el, (0, 0)⟩)

theorem newS (o : Oper) (e : Env) (hc : clsO C o = .new) (hn : newOk C o = true) : NewS (modsU C o) fun h K => dcore C o e h K := by
  unfold newOk at hn
  unfold clsO at hc
  unfold dcore
  cases ho : o.op <;> simp only [ho] at hc hn ⊢ <;> try (simp at hn; done)
  case alloc t =>
    rw [Bool.and_eq_true] at hn
    obtain ⟨h1, h2⟩ := hn
    cases hd : o.dst with
    | none => rw [hd] at hc; cases hc
    | some d =>
      rw [hd] at hc h2; simp only at hc h2
      cases hl : C.loc d with
      | true => rw [hl] at hc; cases hc
      | false =>
        unfold zeroC
        split at h1
        · rename_i i hi
          split at h1
          · rename_i z hz
            refine ⟨z.cells.toList, fun b => .set d (.val (.pointer (some ⟨b, 0, none⟩))), fun b => (dst_mods.2 d hd _).1, fun h K => ?_⟩
            simp only [hi, hz, retNew, hl, h2, newP]
          · cases h1
        · cases h1

theorem swap_pure {Mx My : Up → Prop} {Tx Ty : PT} (hx : PureLike Mx Tx) (hy : MonoU My Ty) {h : Hp} {F : Up → Up → Hp → Prop}
    (hk : Tx h fun u1 h1 => Ty h1 fun u2 h2 => F u1 u2 h2) : Ty h fun u2 h2 => Tx h2 fun u1 h1 => F u1 u2 h1 := by
  obtain ⟨p, _, h2⟩ := hx
  obtain ⟨u1, hp, hF⟩ := (h2 _ _).1 hk
  exact hy _ _ _ (fun u h' _ hh => (h2 _ _).2 ⟨u1, hp, hh⟩) hF

theorem swap_load {Mx My : Up → Prop} {Tx Ty : PT} (hx : LoadLike Mx Tx) (hy : MonoU My Ty) (hg : GrowU Ty) {h : Hp} {F : Up → Up → Hp → Prop}
    (hk : Tx h fun u1 h1 => Ty h1 fun u2 h2 => F u1 u2 h2) : Ty h fun u2 h2 => Tx h2 fun u1 h1 => F u1 u2 h1 := by
  obtain ⟨p, _, hm, h2⟩ := hx
  obtain ⟨u1, hp, hF⟩ := (h2 _ _).1 hk
  exact hy _ _ _ (fun u h' _ hh => (h2 _ _).2 ⟨u1, hm _ _ _ hp hh.2, hh.1⟩) (hg _ _ hF)

theorem callP_ins {α : Type} {G : (α → Hp → Prop) → Hp → Prop} {K : α → Hp → Prop} {h : Hp} {b : Nat} {x : Blk} (hb : h b = none)
    (hc : callP G (fun r h1 => h1 b = none → K r (h1.ins b x)) h) : callP G K (h.ins b x) := by
  obtain ⟨D, O, Q, h1, h2, h3, h4⟩ := hc
  subst h2
  rw [Hp.add_none] at hb
  refine ⟨D, O.ins b x, Q, Hp.dj_ins h1 hb.1, Hp.add_ins hb.1, h3, fun v D' hQ => ⟨(h4 v D' hQ).1, fun hd hfin => ?_⟩⟩
  have hdb : D' b = none := by
    rcases hd b with h5 | h5
    · exact h5
    · rw [Hp.ins_same] at h5; cases h5
  have hdj : D'.dj O := fun j => by
    by_cases hj : j = b
    · subst hj; exact .inl hdb
    · have := hd j; rw [Hp.ins_ne hj] at this; exact this
  have := (h4 v D' hQ).2 hdj (hfin.sub fun k hk => by
    rw [Hp.add_none] at hk ⊢
    refine ⟨hk.1, ?_⟩
    by_cases hkb : k = b
    · subst hkb; exact hb.2
    · rw [Hp.ins_ne hkb] at hk; exact hk.2) (Hp.add_none.2 ⟨hdb, hb.2⟩)
  rw [Hp.add_ins hdb] at this
  exact this

theorem swap_call {Mx My : Up → Prop} {Tx Ty : PT} (hx : CallLikeU Mx Tx) (hy : NewS My Ty) {h : Hp} {F : Up → Up → Hp → Prop}
    (hk : Tx h fun u1 h1 => Ty h1 fun u2 h2 => F u1 u2 h2) : Ty h fun u2 h2 => Tx h2 fun u1 h1 => F u1 u2 h1 := by
  obtain ⟨α, G, q, _, hG⟩ := hx
  obtain ⟨c, f, _, hN⟩ := hy
  rcases hG with hG | hG
  · refine (hN _ _).2 fun b el hb => (hG _ _).2 ?_
    have h1 := (hG _ _).1 hk
    refine callP_ins (x := ⟨c, el, (0, 0)⟩) hb (callP_mono ?_ h1)
    rintro r h' ⟨u, hq, hT⟩ _ _ hb'
    exact ⟨u, hq, (hN _ _).1 hT b el hb'⟩
  · exact (hG _ _ hk).elim


theorem swap_new {Mx My : Up → Prop} {Tx Ty : PT} (hx : NewLike Mx Tx) (hy : NewLike My Ty) {h : Hp} (hfin : h.Fin) {F : Up → Up → Hp → Prop}
    (hk : Tx h fun u1 h1 => Ty h1 fun u2 h2 => F u1 u2 h2) : Ty h fun u2 h2 => Tx h2 fun u1 h1 => F u1 u2 h1 := by
  obtain ⟨P1, c1, f1, _, h1⟩ := hx
  obtain ⟨P2, c2, f2, _, h2⟩ := hy
  obtain ⟨hp1, hk1⟩ := (h1 _ _).1 hk
  obtain ⟨b0, hb0⟩ := hfin.fresh
  have hp2 := ((h2 _ _).1 (hk1 b0 0 hb0)).1
  refine (h2 _ _).2 ⟨hp2, fun b2 el2 hb2 => (h1 _ _).2 ⟨hp1, fun b1 el1 hb1 => ?_⟩⟩
  have hne : b1 ≠ b2 := fun hh => by subst hh; rw [Hp.ins_same] at hb1; cases hb1
  rw [Hp.ins_ne hne] at hb1
  have := ((h2 _ _).1 (hk1 b1 el1 hb1)).2 b2 el2 (by rw [Hp.ins_ne (Ne.symm hne)]; exact hb2)
  rw [Hp.ins_comm (Ne.symm hne)]
  exact this

structure CfgOK (C : Cfg) : Prop where
  tab : TabOK C C.tab
  mono : ∀ g args K K' h, (∀ v h, K v h → K' v h) → C.f g args K h → C.f g args K' h

theorem skip_pure {o : Oper} : PureLike (modsU C o) fun h K => skipV C o.dst h K := pl_skipV dst_mods

theorem step_mono (hC : CfgOK C) {ops : Array Oper} {o : Oper} {e : Env} : MonoU (modsU C o) (stepT C ops o e) := by
  unfold stepT
  cases wantE C ops o e with
  | none => exact mono_false
  | some b => cases b
              · exact skip_pure.mono
              · exact dcore_mono hC.tab hC.mono

theorem step_swap (hC : CfgOK C) {ops : Array Oper} {ox oy : Oper} {e : Env} (hs : swapCls C ox oy = true) {h : Hp} (hfin : h.Fin) {F : Up → Up → Hp → Prop}
    (hk : stepT C ops ox e h fun u1 h1 => stepT C ops oy e h1 fun u2 h2 => F u1 u2 h2) :
    stepT C ops oy e h fun u2 h2 => stepT C ops ox e h2 fun u1 h1 => F u1 u2 h1 := by
  cases hwx : wantE C ops ox e with
  | none => unfold stepT at hk; rw [hwx] at hk; exact hk.elim
  | some bx =>
    cases bx with
    | false =>
      have ex : stepT C ops ox e = fun h K => skipV C ox.dst h K := by funext h K; unfold stepT; rw [hwx]
      have hp : PureLike (modsU C ox) (stepT C ops ox e) := by rw [ex]; exact skip_pure
      exact swap_pure hp (step_mono hC) hk
    | true =>
      have ex' : stepT C ops ox e = fun h K => dcore C ox e h K := by funext h K; unfold stepT; rw [hwx]
      have same : sameGuard ox.guard oy.guard = true → wantE C ops oy e = some true := fun hg => by
        unfold sameGuard at hg
        cases hgy : oy.guard with
        | none => unfold wantE; rw [hgy]
        | some gy =>
          cases hgx : ox.guard with
          | none => rw [hgx, hgy] at hg; cases hg
          | some gx =>
            rw [hgx, hgy] at hg
            obtain ⟨i, a⟩ := gx
            obtain ⟨j, b⟩ := gy
            simp only [Bool.and_eq_true] at hg
            have hij := Nat.eq_of_beq_eq_true hg.1
            have hab : a = b := by have := hg.2; cases a <;> cases b <;> simp_all
            subst hij hab
            unfold wantE at hwx ⊢
            rw [hgx] at hwx
            rw [hgy]
            exact hwx
      unfold swapCls at hs
      cases hcx : clsO C ox with
      | pure => exact swap_pure (by rw [ex']; exact pure_like hcx) (step_mono hC) hk
      | load =>
        rw [hcx] at hs
        refine swap_load (by rw [ex']; exact load_like hcx) (step_mono hC) ?_ hk
        unfold stepT
        cases wantE C ops oy e with
        | none => exact grow_false
        | some b =>
          cases b with
          | false => exact (skip_pure (o := oy)).grow
          | true =>
            simp only
            cases hcy : clsO C oy with
            | pure => exact (pure_like hcy).grow
            | load => exact (load_like hcy).grow
            | call => exact (call_like hC.tab hcy).grow
            | new => exact new_grow hcy
            | other => rw [hcy] at hs; cases hs
      | call =>
        rw [hcx] at hs
        cases hcy : clsO C oy with
        | new =>
          rw [hcy] at hs
          simp only [Bool.and_eq_true] at hs
          have hwy := same hs.2
          have ey : stepT C ops oy e = fun h K => dcore C oy e h K := by funext h K; unfold stepT; rw [hwy]
          exact swap_call (by rw [ex']; exact call_like hC.tab hcx) (by rw [ey]; exact newS oy e hcy hs.1) hk
        | _ => rw [hcy] at hs; cases hs
      | new =>
        rw [hcx] at hs
        cases hcy : clsO C oy with
        | new =>
          rw [hcy] at hs
          have hwy := same hs
          have ey : stepT C ops oy e = fun h K => dcore C oy e h K := by funext h K; unfold stepT; rw [hwy]
          exact swap_new (by rw [ex']; exact new_like hcx) (by rw [ey]; exact new_like hcy) hfin hk
        | _ => rw [hcy] at hs; cases hs
      | other => rw [hcx] at hs; cases hs

theorem stepT_upd {ops : Array Oper} {ox oy : Oper} {e : Env} {u : Up} (hu : modsU C ox u) (hd : disjN (modsO C ox) (readsA C ops oy) = true) :
    stepT C ops oy (e.upd C.rt u) = stepT C ops oy e := by
  rw [disjN_iff] at hd
  refine stepT_congr fun t ht => upd_other (fun d hdd hh => ?_) (fun d hdd hh => ?_)
  · exact hd d (hu.1 d hdd) (by rw [← hh]; exact List.mem_append_left _ ht)
  · exact hd d (hu.1 d hdd) (by rw [← hh]; exact List.mem_append_right _ (List.mem_map.2 ⟨t, ht, rfl⟩))

theorem upd_swap {ops : Array Oper} {ox oy : Oper} {e : Env} {u v : Up} (hu : modsU C ox u) (hv : modsU C oy v) (h1 : disjN (modsO C ox) (readsA C ops oy) = true)
    (h2 : disjN (modsO C oy) (readsA C ops ox) = true) (h3 : disjN (modsO C ox) (modsO C oy) = true) : (e.upd C.rt u).upd C.rt v = (e.upd C.rt v).upd C.rt u := by
  rw [disjN_iff] at h1 h2 h3
  have root : ∀ (o : Oper) (u : Up), modsU C o u → ∀ d off, u = .set d (.ref off) → C.rt d ∈ readsA C ops o := fun o u hu d off hh => by
    refine List.mem_append_left _ ?_
    unfold readsO
    rw [hu.2.1 d off hh]
    simp
  refine upd_comm (fun d d' hd hd' hh => ?_) (fun d off hh d' hd' hr => ?_) (fun d off hh d' hd' hr => ?_) hu.2.2 hv.2.2
  · subst hh; exact h3 d (hu.1 d hd) (hv.1 d hd')
  · exact h2 d' (hv.1 d' hd') (by rw [← hr]; exact root ox u hu d off hh)
  · exact h1 d' (hu.1 d' hd') (by rw [← hr]; exact root oy v hv d off hh)

theorem dops_swap (hC : CfgOK C) {ops : Array Oper} {K : Env → Hp → Prop} {x y : Nat} {r : List Nat} {e : Env} {h : Hp} (hfin : h.Fin) (hs : swapOk C ops x y = true)
    (hk : dops C ops K (x :: y :: r) e h) : dops C ops K (y :: x :: r) e h := by
  unfold swapOk at hs
  split at hs
  · rename_i ox oy hx hy
    simp only [Bool.and_eq_true] at hs
    obtain ⟨⟨⟨hc, h1⟩, h2⟩, h3⟩ := hs
    rw [dops_cons hx] at hk
    rw [dops_cons hy]
    have k1 : stepT C ops ox e h fun u1 h1 => stepT C ops oy e h1 fun u2 h2 => modsU C ox u1 ∧ modsU C oy u2 ∧ dops C ops K r ((e.upd C.rt u1).upd C.rt u2) h2 := by
      refine step_mono hC _ _ _ (fun u1 h' hu1 hk1 => ?_) hk
      rw [dops_cons hy, stepT_upd hu1 h1] at hk1
      exact step_mono hC _ _ _ (fun u2 h'' hu2 hk2 => ⟨hu1, hu2, hk2⟩) hk1
    refine step_mono hC _ _ _ (fun u2 h' hu2 hk2 => ?_) (step_swap hC hc hfin k1)
    rw [dops_cons hx, stepT_upd hu2 h2]
    refine step_mono hC _ _ _ (fun u1 h'' hu1 hk3 => ?_) hk2
    rw [← upd_swap hu1 hu2 h1 h2 h3]
    exact hk3.2.2
  · cases hs

theorem dops_mono (hC : CfgOK C) {ops : Array Oper} {K K' : Env → Hp → Prop} (hK : ∀ e h, K e h → K' e h) : ∀ {l : List Nat} {e : Env} {h : Hp}, dops C ops K l e h → dops C ops K' l e h
  | [], e, h, hk => hK e h hk
  | i :: r, e, h, hk => by
    cases hi : ops[i]? with
    | none => unfold dops at hk; rw [hi] at hk; exact hk.elim
    | some o =>
      rw [dops_cons hi] at hk ⊢
      exact step_mono hC _ _ _ (fun u h' _ hh => dops_mono hC hK hh) hk

/-- Under a prefix. -/
theorem dops_under (hC : CfgOK C) {ops : Array Oper} {K : Env → Hp → Prop} {l l' : List Nat} (H : ∀ e h, dops C ops K l e h → dops C ops K l' e h) :
    ∀ {p : List Nat} {e : Env} {h : Hp}, dops C ops K (p ++ l) e h → dops C ops K (p ++ l') e h
  | [], e, h, hk => H e h hk
  | i :: p, e, h, hk => by
    cases hi : ops[i]? with
    | none => rw [List.cons_append] at hk; unfold dops at hk; rw [hi] at hk; exact hk.elim
    | some o =>
      rw [List.cons_append, dops_cons hi] at hk ⊢
      exact step_mono hC _ _ _ (fun u h' _ hh => dops_under hC H hh) hk

theorem step_fin (hC : CfgOK C) {ops : Array Oper} {ox oy : Oper} {e : Env} (hs : swapCls C ox oy = true) : FinU (stepT C ops ox e) := by
  unfold stepT
  cases wantE C ops ox e with
  | none => exact fin_false
  | some b =>
    cases b with
    | false => exact (skip_pure (o := ox)).fin
    | true =>
      simp only
      unfold swapCls at hs
      cases hc : clsO C ox with
      | pure => exact (pure_like hc).fin
      | load => exact (load_like hc).fin
      | call => exact (call_like hC.tab hc).fin
      | new => exact (new_like hc).fin
      | other => rw [hc] at hs; cases hs

theorem dops_bubble (hC : CfgOK C) {ops : Array Oper} {K : Env → Hp → Prop} {y : Nat} {r : List Nat} : ∀ {p : List Nat} {e : Env} {h : Hp}, h.Fin → (∀ x ∈ p, swapOk C ops x y = true) →
    dops C ops K (p ++ y :: r) e h → dops C ops K (y :: (p ++ r)) e h
  | [], e, h, _, _, hk => hk
  | x :: p, e, h, hfin, hp, hk => by
    have hs := hp x (by simp)
    have h1 : dops C ops K (x :: (y :: (p ++ r))) e h := by
      cases hx : ops[x]? with
      | none => unfold swapOk at hs; rw [hx] at hs; cases hs
      | some ox =>
        rw [List.cons_append, dops_cons hx] at hk
        rw [dops_cons hx]
        have hcl : ∃ oy, swapCls C ox oy = true := by
          unfold swapOk at hs
          rw [hx] at hs
          split at hs
          · rename_i o1 o2 h1 h2
            cases h1
            simp only [Bool.and_eq_true] at hs
            exact ⟨o2, hs.1.1.1⟩
          · cases hs
        obtain ⟨oy, hcl⟩ := hcl
        refine step_mono hC _ _ _ (fun u h' _ hh => ?_) (step_fin hC hcl _ _ hfin hk)
        exact dops_bubble hC hh.2 (fun z hz => hp z (by simp [hz])) hh.1
    exact dops_swap hC hfin hs h1

end
end Den
