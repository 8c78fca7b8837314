/-
  Code and functions.
-/
import Derived.Test.YtnahjnlkpmbhlaaDen14
namespace Den
open Go
variable {ro : Option Nat} {nn : Nat}

/-- A loop's rule with a state that stands in no slot. -/
theorem wp_loop_g {P : Program} {Q : Exit → Act → World → Prop} {c : Code} {σ : Type} (I : σ → Act → World → Prop) (μ : σ → Nat)
    (round : ∀ s a w, I s a w → c.wpIn (wideR ro) nn P (Exit.then (fun a' w' => ∃ s', I s' a' w' ∧ μ s' < μ s) Q) a w) {s : σ} {a : Act} {w : World} (h0 : I s a w) : (Code.loop c).wpIn (wideR ro) nn P Q a w := by
  intro b k cs hro hb hr
  have key : ∀ n s a w, μ s = n → I s a w →
      ∃ e a' w', Q e a' w' ∧ ArrivesIn (Machine.fenced P (wideR ro)) P (lone (b.atR a (.code c :: .inLoop c :: k)) cs w) b k cs e a' w' := by
    intro n
    induction n using Nat.strongRecOn with
    | _ n ih =>
      intro s a w hn hI
      obtain ⟨e, a₁, w₁, hq, harr⟩ := round s a w hI b (.inLoop c :: k) cs hro hb hr
      cases e with
      | normal =>
        obtain ⟨s', hI₁, hlt⟩ := hq
        obtain ⟨e₂, a₂, w₂, hq₂, harr₂⟩ := ih (μ s') (hn ▸ hlt) s' a₁ w₁ rfl hI₁
        exact ⟨e₂, a₂, w₂, hq₂, .of_steps (StepsIn.trans harr (.one (fenced_calm hb hr rfl) stepR_inLoop)) harr₂⟩
      | exit id => exact ⟨_, a₁, w₁, hq, .pass (x := .inLoop c) rfl (fun _ _ => .inl (by simp)) harr⟩
      | goto l => exact ⟨_, a₁, w₁, hq, .pass (x := .inLoop c) rfl (fun _ _ => .inl (by simp)) harr⟩
      | ret => exact ⟨_, a₁, w₁, hq, .pass (x := .inLoop c) rfl (fun _ _ => .inl (by simp)) harr⟩
      | panic ch => exact ⟨_, a₁, w₁, hq, .pass (x := .inLoop c) rfl (fun _ _ => .inl (by simp)) harr⟩
      | outgrown => exact ⟨_, a₁, w₁, hq, .pass (x := .inLoop c) rfl (fun _ _ => .inl (by simp)) harr⟩
  obtain ⟨e, a', w', hq, harr⟩ := key _ s a w rfl h0
  exact ⟨e, a', w', hq, .of_steps (.one (fenced_calm hb hr rfl) stepR_loop) harr⟩

section
variable {C : Cfg} {B : Base}

def exM : Ex → Exit → Prop
  | .normal, .normal => True
  | .exit i, .exit j => i = j
  | .ret, .ret => True
  | _, _ => False

def Out (C : Cfg) (B : Base) (ms : List Nat) (e : Env) (K : Ex → Env → Hp → Prop) : Exit → Act → World → Prop := fun x a' w' =>
  ∃ ex e' h', exM ex x ∧ K ex e' h' ∧ Rel C B e' h' a' w' ∧ ∀ t, t ∉ ms → keep (e t) (e' t)

theorem LT.dn_iff : ∀ {ls : List Lf} {vs : List Value} {K : LT ls → Prop}, LT.dn ls vs K ↔ ∃ x, vs = LT.up ls x ∧ K x
  | [], [], K => by
    unfold LT.dn
    exact ⟨fun hk => ⟨(), rfl, hk⟩, fun ⟨x, _, hk⟩ => hk⟩
  | [], v :: vs, K => by
    simp only [LT.dn, false_iff]
    rintro ⟨x, hx, _⟩; cases hx
  | l :: r, [], K => by
    simp only [LT.dn, false_iff]
    rintro ⟨x, hx, _⟩; cases hx
  | l :: r, v :: vs, K => by
    unfold LT.dn
    rw [Lf.dn_iff]
    constructor
    · rintro ⟨x, rfl, hk⟩
      rw [LT.dn_iff] at hk
      obtain ⟨y, rfl, hk⟩ := hk
      exact ⟨(x, y), rfl, hk⟩
    · rintro ⟨⟨x, y⟩, hx, hk⟩
      have hx' : v :: vs = l.up x :: LT.up r y := hx
      cases hx'
      exact ⟨x, rfl, LT.dn_iff.2 ⟨y, rfl, hk⟩⟩

theorem STy.dn_iff {s : STy} {sl : Slot} {K : s.T → Prop} : s.dn sl K ↔ ∃ x, sl = s.up x ∧ K x := by
  cases s with
  | leaf l =>
    cases sl with
    | val v =>
      exact (Lf.dn_iff (l := l) (v := v) (K := K)).trans ⟨fun ⟨x, h1, h2⟩ => ⟨x, by rw [h1]; rfl, h2⟩, fun ⟨x, h1, h2⟩ => ⟨x, by cases h1; rfl, h2⟩⟩
    | _ => exact ⟨fun hh => hh.elim, fun ⟨x, hx, _⟩ => by cases hx⟩
  | agg ls =>
    cases sl with
    | val v =>
      cases v with
      | agg cs =>
        refine (LT.dn_iff (ls := ls) (vs := cs.toList) (K := K)).trans ⟨?_, ?_⟩
        · rintro ⟨x, h1, h2⟩
          refine ⟨x, ?_, h2⟩
          show Slot.val (.agg cs) = Slot.val (.agg (LT.up ls x).toArray)
          rw [← h1]
        · rintro ⟨x, h1, h2⟩
          have h1' : Slot.val (.agg cs) = Slot.val (.agg (LT.up ls x).toArray) := h1
          simp only [Slot.val.injEq, Value.agg.injEq] at h1'
          exact ⟨x, by rw [h1'], h2⟩
      | _ => exact ⟨fun hh => hh.elim, fun ⟨x, hx, _⟩ => by cases hx⟩
    | _ => exact ⟨fun hh => hh.elim, fun ⟨x, hx, _⟩ => by cases hx⟩
  | box ls =>
    cases sl with
    | box cs =>
      exact (LT.dn_iff (ls := ls) (vs := cs) (K := K)).trans ⟨fun ⟨x, h1, h2⟩ => ⟨x, by rw [h1]; rfl, h2⟩, fun ⟨x, h1, h2⟩ => ⟨x, by cases h1; rfl, h2⟩⟩
    | _ => exact ⟨fun hh => hh.elim, fun ⟨x, hx, _⟩ => by cases hx⟩

theorem packS_run : ∀ {L : List (Nat × STy)} {e : Env} {K : STup L → Prop}, packS L e K → ∃ s, (∀ t x, unpack L s t = some x → e t = x) ∧ K s
  | [], e, K, hk => ⟨(), (fun t x hx => by cases hx), hk⟩
  | (t, s) :: r, e, K, hk => by
    unfold packS at hk
    obtain ⟨x, hx, hk⟩ := STy.dn_iff.1 hk
    obtain ⟨xs, h1, h2⟩ := packS_run hk
    refine ⟨(x, xs), fun t' y hy => ?_, h2⟩
    have hy' : (bif Nat.beq t' t then some (s.up x) else unpack r xs t') = some y := hy
    by_cases ht : t' = t
    · subst ht; rw [beqT] at hy'; simp only [cond_true, Option.some.injEq] at hy'; rw [← hy']; exact hx
    · rw [beqF ht] at hy'; simp only [cond_false] at hy'; exact h1 t' y hy'

theorem mk_slot {e e' : Env} {ms : List Nat} {L : List (Nat × STy)} {s : STup L} (hs : ∀ t x, unpack L s t = some x → e' t = x) (hk : ∀ t, t ∉ ms → keep (e t) (e' t)) (t : Nat) :
    mkEnv e ms L s t = .junk ∨ (mkEnv e ms L s t = e' t) := by
  unfold mkEnv
  cases hu : unpack L s t with
  | some x => exact .inr (hs t x hu).symm
  | none =>
    simp only
    cases hm : memN t ms with
    | true => exact .inl rfl
    | false =>
      simp only [cond_false]
      have hkt := hk t (fun hh => by rw [memN_iff.2 hh] at hm; cases hm)
      cases he : e t with
      | val v => right; exact (hkt.2 v he).symm
      | box cs => right; have := hkt.1 ⟨by rw [he]; rfl, cs, he⟩; rw [this, he]
      | _ => exact .inl rfl

theorem mk_noref {e e' : Env} {ms : List Nat} {L : List (Nat × STy)} {s : STup L} (t off : Nat) : mkEnv e ms L s t ≠ .ref off := by
  unfold mkEnv
  cases hu : unpack L s t with
  | some x =>
    simp only
    intro hx
    subst hx
    revert hu s
    induction L with
    | nil => intro s hu; cases hu
    | cons p r ih =>
      intro s hu
      obtain ⟨t', sy⟩ := p
      unfold unpack at hu
      by_cases ht : t = t'
      · subst ht; rw [beqT] at hu
        simp only [cond_true, Option.some.injEq] at hu
        cases sy <;> cases hu
      · rw [beqF ht] at hu; exact ih hu
  | none =>
    simp only
    cases hm : memN t ms with
    | true => intro hh; cases hh
    | false =>
      simp only [cond_false]
      cases he : e t <;> intro hh <;> cases hh

theorem Rel.atMk {e e' : Env} {h : Hp} {a : Act} {w : World} (hR : Rel C B e' h a w) {ms : List Nat} {L : List (Nat × STy)} {s : STup L}
    (hs : ∀ t x, unpack L s t = some x → e' t = x) (hk : ∀ t, t ∉ ms → keep (e t) (e' t)) : Rel C B (mkEnv e ms L s) h a w where
  sub := hR.sub
  sz := hR.sz
  defers := hR.defers
  fr := hR.fr
  dom := hR.dom
  vals := fun t v ht => by
    rcases mk_slot hs hk t with h1 | h1
    · rw [h1] at ht; cases ht
    · rw [h1] at ht; exact hR.vals t v ht
  hid := fun t ht => by
    rcases mk_slot hs hk t with h1 | h1
    · rw [h1] at ht; cases ht
    · rw [h1] at ht ⊢; exact hR.hid t ht
  inj := fun t t' b i1 i2 i3 i4 => by
    rcases mk_slot hs hk t with h1 | h1
    · rw [h1] at i1; cases i1
    · rcases mk_slot hs hk t' with h2 | h2
      · rw [h2] at i2; cases i2
      · rw [h1] at i1 i3; rw [h2] at i2 i4; exact hR.inj t t' b i1 i2 i3 i4
  refs := fun t off ht => absurd ht (mk_noref (e' := e') t off)

theorem mk_keep {e e' : Env} {ms : List Nat} {L : List (Nat × STy)} {s : STup L} (hs : ∀ t x, unpack L s t = some x → e' t = x) (hk : ∀ t, t ∉ ms → keep (e t) (e' t)) {t : Nat}
    (ht : t ∉ ms) : keep (e t) (mkEnv e ms L s t) := by
  unfold mkEnv
  cases hu : unpack L s t with
  | some x => simp only; rw [← hs t x hu]; exact hk t ht
  | none =>
    simp only
    have hm : memN t ms = false := by
      cases hm : memN t ms with
      | false => rfl
      | true => exact absurd (memN_iff.1 hm) ht
    rw [hm]
    simp only [cond_false]
    cases he : e t with
    | val v => exact keep.refl _
    | box cs => exact keep.refl _
    | lit cs n => exact ⟨(fun ⟨_, cs', hh⟩ => by cases hh), (fun v hv => by cases hv)⟩
    | ref off => exact ⟨(fun ⟨hh, _⟩ => by cases hh), (fun v hv => by cases hv)⟩
    | junk => exact keep.refl _

theorem den_sound (hC : CfgOK C) : ∀ (c : Code) (an : An) (K : Ex → Env → Hp → Prop) (e : Env) (h : Hp) (a : Act) (w : World), den C c an K e h → Rel C B e h a w →
    c.wpIn (wideR ro) nn C.P (Out C B (modsC C c) e K) a w := by
  intro c
  induction c with
  | skip => intro an K e h a w hk hR; exact wpIn_skip ⟨.normal, e, h, trivial, (by cases an <;> exact hk), hR, fun _ _ => keep.refl _⟩
  | exit j => intro an K e h a w hk hR; exact wpIn_exit ⟨.exit j, e, h, rfl, (by cases an <;> exact hk), hR, fun _ _ => keep.refl _⟩
  | ret => intro an K e h a w hk hR; exact wpIn_ret ⟨.ret, e, h, trivial, (by cases an <;> exact hk), hR, fun _ _ => keep.refl _⟩
  | region id ops draw =>
    intro an K e h a w hk hR
    have hms : ∀ (i : Nat) (o : Oper), ops[i]? = some o → ∀ d ∈ modsO C o, d ∈ modsC C (.region id ops draw) := fun i o hi d hd => by
      unfold modsC
      rw [List.mem_flatMap]
      exact ⟨o, by have := Array.mem_of_getElem? hi; simpa using this, List.mem_append_left _ hd⟩
    have hQ : ∀ x a' w', Behind C B (modsC C (.region id ops draw)) e (K .normal) x a' w' → Out C B (modsC C (.region id ops draw)) e K x a' w' := by
      rintro x a' w' ⟨rfl, e', h', h1, h2, h3⟩
      exact ⟨.normal, e', h', trivial, h1, h2, h3⟩
    cases draw with
    | false =>
      have hk' : dops C ops (K .normal) (List.range ops.size) e h := by cases an <;> exact hk
      exact wpIn_region (dops_sound hC.tab hms hQ hR hk')
    | true =>
      cases an with
      | draw order =>
        unfold den at hk
        split at hk
        · rename_i hck
          unfold checkDraw at hck
          simp only [Bool.and_eq_true] at hck
          obtain ⟨⟨⟨⟨⟨⟨hm, hb⟩, hlen⟩, hnd⟩, hlt⟩, hall⟩, hp⟩ := hck
          have hback : ∀ (i : Nat) (o : Oper), ops[i]? = some o → ∀ e ∈ o.after.toList, Region.binds .any e = true → e.on < i := fun i o hi ed hed hbd => by
            unfold edgesBack at hb
            rw [List.all_eq_true] at hb
            have his : i < ops.size := by
              rcases Nat.lt_or_ge i ops.size with h1 | h1
              · exact h1
              · rw [Array.getElem?_eq_none h1] at hi; cases hi
            have := hb i (List.mem_range.2 his)
            rw [hi] at this
            simp only [List.all_eq_true] at this
            have := this ed hed
            rw [hbd] at this
            simp only [Bool.not_true, Bool.false_or] at this
            unfold Nat.blt at this
            have := Nat.le_of_ble_eq_true this
            omega
          have nd : ∀ {l : List Nat}, nodupN l = true → l.Nodup := by
            intro l
            induction l with
            | nil => intro _; exact List.nodup_nil
            | cons x r ih =>
              intro hh
              simp only [nodupN, Bool.and_eq_true] at hh
              refine List.nodup_cons.2 ⟨fun hm => ?_, ih hh.2⟩
              rw [memN_iff.2 hm] at hh; simp at hh
          have hltN : ∀ i ∈ order, i < ops.size := fun i hi => by
            have := (List.all_eq_true.1 hlt) i hi
            unfold Nat.blt at this
            have := Nat.le_of_ble_eq_true this
            omega
          replace hlen : order.length ≤ ops.size := Nat.le_of_ble_eq_true hlen
          refine wpIn_region_any hm (draw_sound hC hms hQ hback ops.size order (Array.replicate ops.size false) e h a _ hlen (by simp) (nd hnd) (fun i hi => ?_) hltN (fun i o hi hl => ?_) hp
            (fun _ _ => keep.refl _) hk hR.drew)
          · have h1 : (Array.replicate ops.size false).getD i false = false := by
              rw [Array.getD_eq_getD_getElem?]; simp [hi]
            have h2 := memN_iff.1 ((List.all_eq_true.1 hall) i (List.mem_range.2 hi))
            exact ⟨fun _ => h2, fun _ => h1⟩
          · have h1 : (Array.replicate ops.size false).getD i false = false := by
              rw [Array.getD_eq_getD_getElem?]
              by_cases hi' : i < ops.size <;> simp [hi']
            rw [h1] at hl; cases hl
        · exact hk.elim
      | _ => exact hk.elim
  | seq x y ihx ihy =>
    intro an K e h a w hk hR
    have tail : ∀ (Kx : Ex → Env → Hp → Prop), x.wpIn (wideR ro) nn C.P (Out C B (modsC C x) e Kx) a w →
        (∀ e' h' a' w', Kx .normal e' h' → Rel C B e' h' a' w' → (∀ t, t ∉ modsC C x → keep (e t) (e' t)) → y.wpIn (wideR ro) nn C.P (Out C B (modsC C (.seq x y)) e K) a' w') →
        (∀ ex e' h', ex ≠ .normal → Kx ex e' h' → K ex e' h') → (Code.seq x y).wpIn (wideR ro) nn C.P (Out C B (modsC C (.seq x y)) e K) a w := by
      intro Kx hx hn ho
      refine wpIn_seq (wpIn_mono_den ?_ hx)
      rintro xx a' w' ⟨ex, e', h', hm, hK, hR', hkp⟩
      cases xx with
      | normal =>
        cases ex <;> first | (exact hm.elim) | skip
        exact hn e' h' a' w' hK hR' hkp
      | _ =>
        cases ex <;> first | (exact hm.elim) | skip
        all_goals exact ⟨_, e', h', hm, ho _ _ _ (by simp) hK, hR', fun t ht => hkp t fun hh => ht (List.mem_append_left _ hh)⟩
    cases an with
    | seq a1 a2 =>
      unfold den at hk
      refine tail _ (ihx a1 _ e h a w hk hR) ?_ ?_
      · intro e' h' a' w' hK hR' hkp
        refine wpIn_mono_den ?_ (ihy a2 K e' h' a' w' hK hR')
        rintro xx a'' w'' ⟨ex, e'', h'', hm, hK, hR'', hkp'⟩
        exact ⟨ex, e'', h'', hm, hK, hR'', fun t ht => (hkp t fun hh => ht (List.mem_append_left _ hh)).trans (hkp' t fun hh => ht (List.mem_append_right _ hh))⟩
      · intro ex e' h' hne hK
        cases ex <;> first | (exact absurd rfl hne) | exact hK
    | join L a1 a2 =>
      unfold den at hk
      obtain ⟨J, hJ, hx⟩ := hk
      refine tail _ (ihx a1 _ e h a w hx hR) ?_ ?_
      · intro e' h' a' w' hK hR' hkp
        obtain ⟨s, hs, hJs⟩ := packS_run hK
        refine wpIn_mono_den ?_ (ihy a2 K _ h' a' w' (hJ s h' hJs) (hR'.atMk hs hkp))
        rintro xx a'' w'' ⟨ex, e'', h'', hm, hK, hR'', hkp'⟩
        exact ⟨ex, e'', h'', hm, hK, hR'', fun t ht => (mk_keep hs hkp fun hh => ht (List.mem_append_left _ hh)).trans (hkp' t fun hh => ht (List.mem_append_right _ hh))⟩
      · intro ex e' h' hne hK
        cases ex <;> first | (exact absurd rfl hne) | exact hK
    | _ => exact hk.elim
  | cond c x y ihx ihy =>
    intro an K e h a w hk hR
    cases an with
    | cond a1 a2 =>
      unfold den at hk
      replace hk := opv_run hR hk
      split at hk
      · rename_i t ht
        refine wpIn_cond ht ?_
        cases t with
        | true =>
          refine wpIn_mono_den ?_ (ihx a1 K e h a w hk hR)
          rintro xx a' w' ⟨ex, e', h', hm, hK, hR', hkp⟩
          exact ⟨ex, e', h', hm, hK, hR', fun t ht => hkp t fun hh => ht (List.mem_append_left _ hh)⟩
        | false =>
          refine wpIn_mono_den ?_ (ihy a2 K e h a w hk hR)
          rintro xx a' w' ⟨ex, e', h', hm, hK, hR', hkp⟩
          exact ⟨ex, e', h', hm, hK, hR', fun t ht => hkp t fun hh => ht (List.mem_append_right _ hh)⟩
      · exact hk.elim
    | _ => exact hk.elim
  | block id x ih =>
    intro an K e h a w hk hR
    cases an with
    | block a1 =>
      unfold den at hk
      refine wpIn_block (wpIn_mono_den ?_ (ih a1 _ e h a w hk hR))
      rintro xx a' w' ⟨ex, e', h', hm, hK, hR', hkp⟩
      cases xx with
      | exit j =>
        cases ex <;> first | (exact hm.elim) | skip
        rename_i i
        have hij : i = j := hm
        subst hij
        simp only [Exit.inBlock]
        by_cases hi : i = id
        · subst hi
          simp only [beqT] at hK
          rw [if_pos rfl]
          exact ⟨.normal, e', h', trivial, hK, hR', hkp⟩
        · simp only [beqF hi] at hK
          rw [if_neg hi]
          exact ⟨.exit i, e', h', rfl, hK, hR', hkp⟩
      | _ =>
        cases ex <;> first | (exact hm.elim) | skip
        all_goals exact ⟨_, e', h', hm, hK, hR', hkp⟩
    | _ => exact hk.elim
  | loop x ih =>
    intro an K e h a w hk hR
    cases an with
    | loop L a1 =>
      unfold den at hk
      obtain ⟨s0, hs0, hl⟩ := packS_run hk
      obtain ⟨I, μ, hI0, hround⟩ := hl
      refine wp_loop_g (σ := STup L × Hp) (fun p a w => I p.1 p.2 ∧ Rel C B (mkEnv e (modsC C x) L p.1) p.2 a w ∧ ∀ t, t ∉ modsC C x → keep (e t) (mkEnv e (modsC C x) L p.1 t)) (fun p => μ p.1 p.2)
        ?_ (s := (s0, h)) ⟨hI0, hR.atMk hs0 (fun _ _ => keep.refl _), fun t ht => mk_keep hs0 (fun _ _ => keep.refl _) ht⟩
      rintro ⟨s, h1⟩ a' w' ⟨hI, hR', hkp0⟩
      refine wpIn_mono_den ?_ (ih a1 _ _ h1 a' w' (hround s h1 hI) hR')
      rintro xx a'' w'' ⟨ex, e'', h'', hm, hK, hR'', hkp⟩
      have hkp2 : ∀ t, t ∉ modsC C x → keep (e t) (e'' t) := fun t ht => (hkp0 t ht).trans (hkp t ht)
      cases xx with
      | normal =>
        cases ex <;> first | (exact hm.elim) | skip
        obtain ⟨s', hs', hI', hlt⟩ := packS_run hK
        exact ⟨(s', h''), ⟨hI', hR''.atMk hs' hkp2, fun t ht => mk_keep hs' hkp2 ht⟩, hlt⟩
      | _ =>
        cases ex <;> first | (exact hm.elim) | skip
        all_goals exact ⟨_, e'', h'', hm, hK, hR'', hkp2⟩
    | _ => exact hk.elim
  | _ => intro an K e h a w hk hR; cases an <;> exact hk.elim

def resOne (tmps : Array Value) : ResultVar → Sem Value
  | .tmp t => Pure.pure (tmps.getD t undef)
  | .cell ad t => do loadVar t (← asAddr (tmps.getD ad undef))

theorem resP_run {rs : List ResultVar} {e : Env} {h : Hp} {a : Act} {w : World} (hR : Rel C B e h a w) : ∀ {K : List Value → Prop}, resP C rs e K →
    ∃ vs, K vs ∧ (rs.mapM (resOne a.tmps)).run C.P w = .ok vs w := by
  induction rs with
  | nil => intro K hk; exact ⟨[], hk, by simp⟩
  | cons r rs ih =>
    intro K hk
    cases r with
    | tmp t =>
      unfold resP at hk
      split at hk
      · rename_i v hv
        obtain ⟨vs, h1, h2⟩ := ih hk
        refine ⟨v :: vs, h1, ?_⟩
        have : a.tmps.getD t undef = v := by rw [Array.getD_eq_getD_getElem?, hR.vals t v hv]; rfl
        simp only [List.mapM_cons, Sem.run_bind, resOne, this, Sem.run_pure, Result.andThen_ok, h2]
      · exact hk.elim
    | cell t ty =>
      unfold resP at hk
      split at hk
      · rename_i cs hb
        obtain ⟨b, el, h3, h4⟩ : ∃ b el, a.tmps[t]? = some (.pointer (some ⟨b, 0, none⟩)) ∧ w.heap[b]? = some (.cells cs.toArray el (0, 0)) := by
          obtain ⟨_, b, el, h1, h2, _, _⟩ := hR.hid t (by rw [hb]; rfl)
          rw [hb] at h1 h2
          exact ⟨b, el, h1, h2⟩
        obtain ⟨v, hv, hrun⟩ := partT_load (P := C.P) h4 hk
        obtain ⟨vs, h1, h2⟩ := ih hv
        refine ⟨v :: vs, h1, ?_⟩
        have : a.tmps.getD t undef = .pointer (some ⟨b, 0, none⟩) := by rw [Array.getD_eq_getD_getElem?, h3]; rfl
        simp only [List.mapM_cons, Sem.run_bind, resOne, this, asAddr, Sem.run_pure, Result.andThen_ok, hrun, h2]
      · exact hk.elim

theorem fn_sound (hC : CfgOK C) {g : FuncId} {fn : Func} {c : Code} {an : An} (hf : C.P.funcs[g]? = some fn) (hb : fn.body = some c) (hn : fn.ntmps = C.n)
    {args : List Value} (ha : args.length ≤ C.n) {K : Value → Hp → Prop} {D : Hp} {w : World} (hs : Sub D w) (hk : denF C fn c an args K D) : Calls C.P g args.toArray w (Post K D w) := by
  refine calls_of_wp hf hb (wpIn_wide (n := 0).1 ?_)
  have hR : Rel C ⟨D, w⟩ (env0 args) D { tmps := args.toArray ++ Array.replicate (fn.ntmps - args.toArray.size) undef, defers := [] } w := by
    have hb : ∀ t, isHid (env0 args t) = true → False := fun t ht => by unfold env0 at ht; split at ht <;> cases ht
    refine ⟨hs, by simp [hn]; omega, rfl, Fr.refl D w, fun k h1 h2 => absurd h2 h1, fun t v hv => ?_, fun t ht => (hb t ht).elim, fun t t' b ht => (hb t ht).elim, fun t off ht => ?_⟩
    · unfold env0 at hv
      split at hv
      · rename_i u hu
        cases hv
        have hlt : t < args.length := by
          rcases Nat.lt_or_ge t args.length with h1 | h1
          · exact h1
          · rw [List.getElem?_eq_none h1] at hu; cases hu
        simp only
        rw [Array.getElem?_append_left (by simpa using hlt)]
        simpa using hu
      · cases hv
    · unfold env0 at ht; split at ht <;> cases ht
  unfold denF at hk
  refine wpIn_mono_den (ro := none) ?_ (den_sound hC c an _ _ D _ w hk hR)
  rintro x a' w' ⟨ex, e', h', hm, hK, hR', _⟩
  have fin : resP C fn.results.toList e' (fun vs => K (resV vs) h') → a'.defers = [] ∧ ∃ v, (results fn a'.tmps).run C.P w' = .ok v w' ∧ Post K D w (.returned v) w' := fun hh => by
    obtain ⟨vs, h1, h2⟩ := resP_run hR' hh
    refine ⟨hR'.defers, resV vs, ?_, resV vs, h', rfl, h1, hR'.sub, hR'.fr, hR'.dom⟩
    have hres : results fn a'.tmps = (do
        let vs ← fn.results.mapM (resOne a'.tmps)
        Pure.pure (if h : vs.size = 1 then vs[0] else .tuple vs)) := rfl
    rw [hres, Sem.run_bind, Array.mapM_eq_mapM_toList, Sem.run_map, h2]
    simp only [Result.andThen_ok, Sem.run_pure]
    congr 1
    match vs with
    | [] => rfl
    | [v] => rfl
    | u :: v :: r => simp [resV]
  cases x with
  | normal =>
    cases ex <;> first | (exact hm.elim) | skip
    exact fin hK
  | ret =>
    cases ex <;> first | (exact hm.elim) | skip
    exact fin hK
  | exit j =>
    cases ex <;> first | (exact hm.elim) | skip
    exact hK.elim
  | _ => cases ex <;> exact hm.elim

end
end Den
