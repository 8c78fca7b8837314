/-
  Loads, calls and new blocks as operations that may change places.
-/
import Derived.Test.YtnahjnlkpmbhlaaDen10
namespace Den
open Go

def GrowU (T : PT) : Prop := ∀ h K, T h K → T h fun u h' => K u h' ∧ h.le h'

section
variable {Φ : PT → Prop} (hF : Φ fun _ _ => False)
include hF
theorem cl_opv {e : Env} {x : Operand} {T : Value → PT} (hT : ∀ v, Φ (T v)) : Φ fun h K => opv e x fun v => T v h K := by
  unfold opv
  split
  · exact hT _
  · exact hT _
  · exact hF
  · split
    · exact hT _
    · exact hF
theorem cl_opvs {e : Env} : ∀ {l : List Operand} {T : List Value → PT}, (∀ v, Φ (T v)) → Φ fun h K => opvs e l fun v => T v h K
  | [], T, hT => hT []
  | x :: r, T, hT => by
    unfold opvs
    exact cl_opv hF fun v => cl_opvs (l := r) (T := fun vs => T (v :: vs)) fun vs => hT _
theorem cl_ptrK {p : Option Addr} {T : Addr → PT} (hT : ∀ a, Φ (T a)) : Φ fun h K => ptrK p fun a => T a h K := by
  cases p with
  | none => exact hF
  | some a => exact hT a
theorem cl_zeroC {P : Program} {t : TypeId} {T : List Value → PT} (hT : ∀ a, Φ (T a)) : Φ fun h K => zeroC P t fun a => T a h K := by
  unfold zeroC
  split
  · split
    · exact hT _
    · exact hF
  · exact hF
theorem cl_elemOf {P : Program} {t : TypeId} {T : TypeId → PT} (hT : ∀ a, Φ (T a)) : Φ fun h K => elemOf? P t fun a => T a h K := by
  unfold elemOf?
  split
  · split
    · exact hT _
    · exact hF
  · exact hF
theorem cl_fillP {pl : Nat → Option (Nat × Nat)} {z : List Value} {ps : List (Nat × Value)} {T : List Value → PT} (hT : ∀ a, Φ (T a)) : Φ fun h K => fillP pl z ps fun a => T a h K := by
  unfold fillP
  split
  · exact hT _
  · exact hF
end

theorem mono_false {M : Up → Prop} : MonoU M fun _ _ => False := fun _ _ _ _ h => h
theorem grow_false : GrowU fun _ _ => False := fun _ _ h => h

theorem PureLike.mono {M : Up → Prop} {T : PT} (hT : PureLike M T) : MonoU M T := by
  obtain ⟨p, h1, h2⟩ := hT
  intro h K K' hk ht
  obtain ⟨u, h3, h4⟩ := (h2 h K).1 ht
  exact (h2 h K').2 ⟨u, h3, hk _ _ (h1 _ h3) h4⟩
theorem PureLike.grow {M : Up → Prop} {T : PT} (hT : PureLike M T) : GrowU T := by
  obtain ⟨p, _, h2⟩ := hT
  intro h K ht
  obtain ⟨u, h3, h4⟩ := (h2 h K).1 ht
  exact (h2 h _).2 ⟨u, h3, h4, Hp.le_refl h⟩
theorem LoadLike.mono {M : Up → Prop} {T : PT} (hT : LoadLike M T) : MonoU M T := by
  obtain ⟨p, h1, _, h2⟩ := hT
  intro h K K' hk ht
  obtain ⟨u, h3, h4⟩ := (h2 h K).1 ht
  exact (h2 h K').2 ⟨u, h3, hk _ _ (h1 _ _ h3) h4⟩
theorem LoadLike.grow {M : Up → Prop} {T : PT} (hT : LoadLike M T) : GrowU T := by
  obtain ⟨p, _, _, h2⟩ := hT
  intro h K ht
  obtain ⟨u, h3, h4⟩ := (h2 h K).1 ht
  exact (h2 h _).2 ⟨u, h3, h4, Hp.le_refl h⟩

theorem callP_mono {α : Type} {G : (α → Hp → Prop) → Hp → Prop} {K K' : α → Hp → Prop} {h : Hp} (hk : ∀ v h', K v h' → h.le h' → h'.Fin → K' v h') (hc : callP G K h) : callP G K' h := by
  obtain ⟨D, O, Q, h1, h2, h3, h4⟩ := hc
  refine ⟨D, O, Q, h1, h2, h3, fun v D' hQ => ⟨(h4 v D' hQ).1, fun hd hfin => hk _ _ ((h4 v D' hQ).2 hd hfin) ?_ hfin⟩⟩
  rw [h2]
  exact Hp.add_mono (h4 v D' hQ).1 hd
theorem callM_mono {α : Type} {G : (α → Hp → Prop) → Hp → Prop} {K K' : α → Hp → Prop} {h : Hp} (hk : ∀ v h', K v h' → K' v h') (hc : callM G K h) : callM G K' h := by
  obtain ⟨D, O, Q, h1, h2, h3, h4⟩ := hc
  exact ⟨D, O, Q, h1, h2, h3, fun v D' hQ hd => hk _ _ (h4 v D' hQ hd)⟩

theorem CallLikeU.mono {M : Up → Prop} {T : PT} (hT : CallLikeU M T) : MonoU M T := by
  obtain ⟨α, G, q, h1, h2⟩ := hT
  intro h K K' hk ht
  rcases h2 with h2 | h2
  · refine (h2 h K').2 (callP_mono ?_ ((h2 h K).1 ht))
    rintro v h' ⟨u, h3, h4⟩ _ _
    exact ⟨u, h3, hk _ _ (h1 _ _ h3) h4⟩
  · exact (h2 _ _ ht).elim
theorem CallLikeU.grow {M : Up → Prop} {T : PT} (hT : CallLikeU M T) : GrowU T := by
  obtain ⟨α, G, q, _, h2⟩ := hT
  intro h K ht
  rcases h2 with h2 | h2
  · refine (h2 h _).2 (callP_mono ?_ ((h2 h K).1 ht))
    rintro v h' ⟨u, h3, h4⟩ hl _
    exact ⟨u, h3, h4, hl⟩
  · exact (h2 _ _ ht).elim

/-- The heap stays finite. -/
def FinU (T : PT) : Prop := ∀ h K, h.Fin → T h K → T h fun u h' => K u h' ∧ h'.Fin
theorem fin_false : FinU fun _ _ => False := fun _ _ _ h => h
theorem PureLike.fin {M : Up → Prop} {T : PT} (hT : PureLike M T) : FinU T := by
  obtain ⟨p, _, h2⟩ := hT
  intro h K hf ht
  obtain ⟨u, h3, h4⟩ := (h2 h K).1 ht
  exact (h2 h _).2 ⟨u, h3, h4, hf⟩
theorem LoadLike.fin {M : Up → Prop} {T : PT} (hT : LoadLike M T) : FinU T := by
  obtain ⟨p, _, _, h2⟩ := hT
  intro h K hf ht
  obtain ⟨u, h3, h4⟩ := (h2 h K).1 ht
  exact (h2 h _).2 ⟨u, h3, h4, hf⟩
theorem CallLikeU.fin {M : Up → Prop} {T : PT} (hT : CallLikeU M T) : FinU T := by
  obtain ⟨α, G, q, _, h2⟩ := hT
  intro h K _ ht
  rcases h2 with h2 | h2
  · refine (h2 h _).2 (callP_mono ?_ ((h2 h K).1 ht))
    rintro v h' ⟨u, h3, h4⟩ _ hf
    exact ⟨u, h3, h4, hf⟩
  · exact (h2 _ _ ht).elim
theorem NewLike.fin {M : Up → Prop} {T : PT} (hT : NewLike M T) : FinU T := by
  obtain ⟨P0, c, f, _, h2⟩ := hT
  intro h K hf ht
  obtain ⟨h3, h4⟩ := (h2 h K).1 ht
  exact (h2 h _).2 ⟨h3, fun b el hb => ⟨h4 b el hb, hf.ins⟩⟩
theorem nl_false {M : Up → Prop} (hM : M .none) : NewLike M fun _ _ => False := ⟨False, [], fun _ => .none, fun _ => hM, fun _ _ => ⟨fun h => h.elim, fun h => h.1.elim⟩⟩

section
variable {C : Cfg} {o : Oper} {e : Env}

theorem PureLike.load {M : Up → Prop} {T : PT} (hT : PureLike M T) : LoadLike M T := by
  obtain ⟨p, h1, h2⟩ := hT
  exact ⟨fun u _ => p u, fun u _ hu => h1 u hu, fun _ _ _ hu _ => hu, h2⟩

theorem ll_ldL {M : Up → Prop} {l : Lf} {a : Addr} {T : l.T → PT} (hT : ∀ x, LoadLike M (T x)) : LoadLike M fun h K => ldL l a (fun x => T x h K) h := by
  refine ⟨fun u h => ∃ x, h.cell a = some (l.up x) ∧ (hT x).choose u h, fun u h ⟨x, _, hx⟩ => (hT x).choose_spec.1 u h hx,
    fun u h h' ⟨x, h1, h2⟩ hl => ⟨x, Hp.cell_le hl h1, (hT x).choose_spec.2.1 u h h' h2 hl⟩, fun h K => ⟨?_, ?_⟩⟩
  · rintro ⟨x, h1, h2⟩
    obtain ⟨u, h3, h4⟩ := ((hT x).choose_spec.2.2 h K).1 h2
    exact ⟨u, ⟨x, h1, h3⟩, h4⟩
  · rintro ⟨u, ⟨x, h1, h2⟩, h3⟩
    exact ⟨x, h1, ((hT x).choose_spec.2.2 h K).2 ⟨u, h2, h3⟩⟩

theorem ll_ldLs {M : Up → Prop} : ∀ {ls : List Lf} {a : Addr} {i : Nat} {T : List Value → PT}, (∀ x, LoadLike M (T x)) → LoadLike M fun h K => ldLs ls a i (fun x => T x h K) h
  | [], _, _, _, hT => hT []
  | l :: r, a, i, T, hT => by
    unfold ldLs
    exact ll_ldL fun x => ll_ldLs (ls := r) (T := fun vs => T (l.up x :: vs)) fun vs => hT _

theorem ll_ldT {M : Up → Prop} {P : Program} {t : TypeId} {a : Addr} {T : Value → PT} (hT : ∀ x, LoadLike M (T x)) : LoadLike M fun h K => ldT P t a (fun x => T x h K) h := by
  unfold ldT
  split
  · split
    · exact pl_false.load
    · split
      · exact ll_ldLs fun vs => hT _
      · exact pl_false.load
    · split
      · exact ll_ldL fun x => hT _
      · exact pl_false.load
  · exact pl_false.load

theorem load_like (hc : clsO C o = .load) : LoadLike (modsU C o) fun h K => dcore C o e h K := by
  unfold clsO at hc
  unfold dcore
  cases ho : o.op <;> simp only [ho] at hc ⊢ <;> try (cases hc; done)
  case load t x =>
    split
    · split
      · exact (pl_partT fun v => pl_retV dst_mods).load
      · split
        · exact (pl_partT fun v => pl_retV dst_mods).load
        · exact pl_false.load
      · split
        · exact pl_false.load
        exact cl_ptrK (Φ := LoadLike _) pl_false.load fun ad => ll_ldT fun v => (pl_retV dst_mods).load
      · exact pl_false.load
    · exact pl_false.load
  all_goals
    exfalso
    revert hc
    repeat' split
    all_goals (intro hc; first | (cases hc; done) | (cases hc; contradiction))

theorem call_op (hc : clsO C o = .call) : ∃ c g, o.op = .call c ∧ c.callee = .value (.func g) ∧ C.muts g = false := by
  unfold clsO at hc
  cases ho : o.op <;> simp only [ho] at hc <;> try (cases hc; done)
  case call c =>
    cases hcal : c.callee with
    | builtin b => rw [hcal] at hc; cases b <;> cases hc
    | invoke r m => rw [hcal] at hc; cases hc
    | value f =>
      rw [hcal] at hc
      cases f with
      | func g =>
        simp only at hc
        cases hm : C.muts g with
        | true => rw [hm] at hc; cases hc
        | false => exact ⟨c, g, rfl, hcal, hm⟩
      | _ => cases hc
  all_goals
    exfalso
    revert hc
    repeat' split
    all_goals (intro hc; first | (cases hc; done) | (cases hc; contradiction))

theorem cl_never {M : Up → Prop} {T : PT} (hT : ∀ h K, ¬ T h K) : CallLikeU M T := ⟨Unit, fun _ _ => False, fun _ _ => False, fun _ _ hh => hh.elim, .inr hT⟩

theorem call_like (hC : TabOK C C.tab) (hc : clsO C o = .call) : CallLikeU (modsU C o) fun h K => dcore C o e h K := by
  obtain ⟨c, g, ho, hcal, hm⟩ := call_op hc
  unfold dcore
  simp only [ho, hcal, opv]
  refine cl_opvs (Φ := CallLikeU _) (cl_never fun _ _ hh => hh) fun vs => ?_
  rcases hC.get g with ⟨_, hl⟩ | hno
  · rcases hl hm ((#[] : Array Value).toList ++ vs ++ (#[] : Array Value).toList) with ⟨α, G, up, hG⟩ | hno
    · have hp : ∀ r, PureLike (modsU C o) fun h K => retV C o.dst (up r) h K := fun r => pl_retV dst_mods
      refine ⟨α, G, fun r => (hp r).choose, fun r u hu => (hp r).choose_spec.1 u hu, .inl fun h K => ?_⟩
      have : ∀ r h', retV C o.dst (up r) h' K ↔ ∃ u, (hp r).choose u ∧ K u h' := fun r h' => (hp r).choose_spec.2 h' K
      show lookF g C.tab _ (fun r h' => retV C o.dst r h' K) h ↔ _
      rw [hG]
      constructor
      · exact callP_mono fun r h' hh _ _ => (this r h').1 hh
      · exact callP_mono fun r h' hh _ _ => (this r h').2 hh
    · exact cl_never fun h K => hno _ _
  · exact cl_never fun h K => hno _ _ _

theorem grow_newP {M : Up → Prop} {cs : List Value} {T : Addr → PT} (hm : ∀ a, MonoU M (T a)) (hg : ∀ a, GrowU (T a)) : GrowU fun h K => newP cs (fun a h' => T a h' K) h := by
  intro h K ht b el hb
  refine hm _ _ _ _ ?_ (hg _ _ _ (ht b el hb))
  rintro u h' _ ⟨h1, h2⟩
  exact ⟨h1, Hp.le_trans (Hp.le_ins hb) h2⟩
theorem mono_newP {M : Up → Prop} {cs : List Value} {T : Addr → PT} (hm : ∀ a, MonoU M (T a)) : MonoU M fun h K => newP cs (fun a h' => T a h' K) h :=
  fun h K K' hk ht b el hb => hm _ _ _ _ hk (ht b el hb)

theorem mono_retV {M : Up → Prop} {dst : Option Nat} {v : Value} (hd : DstM M dst) : MonoU M fun h K => retV C dst v h K := (pl_retV hd).mono
theorem mono_set {M : Up → Prop} {u : Up} (hu : M u) : MonoU M fun h K => K u h := fun _ _ _ hk ht => hk _ _ hu ht
theorem grow_set {u : Up} : GrowU fun h K => K u h := fun h _ ht => ⟨ht, Hp.le_refl h⟩

theorem mono_retNew {M : Up → Prop} {dst : Option Nat} {cs : List Value} {mk : Addr → Value} {hid : Slot} (hd : DstM M dst) (hh : ∀ o, hid ≠ .ref o) : MonoU M fun h K => retNew C dst cs mk hid h K := by
  unfold retNew
  cases dst with
  | none => exact mono_false
  | some d =>
    simp only
    split
    · exact mono_set ((hd.2 _ rfl _).2 hh)
    · exact mono_newP fun a => mono_set (hd.2 _ rfl _).1
    · exact mono_false
theorem grow_retNew {dst : Option Nat} {cs : List Value} {mk : Addr → Value} {hid : Slot} : GrowU fun h K => retNew C dst cs mk hid h K := by
  unfold retNew
  cases dst with
  | none => exact grow_false
  | some d =>
    simp only
    split
    · exact grow_set
    · exact grow_newP (M := fun _ => True) (fun a => mono_set trivial) (fun a => grow_set)
    · exact grow_false

theorem new_grow (hc : clsO C o = .new) : GrowU fun h K => dcore C o e h K := by
  unfold clsO at hc
  unfold dcore
  cases ho : o.op <;> simp only [ho] at hc ⊢ <;> try (cases hc; done)
  case alloc t => exact cl_zeroC grow_false fun cs => grow_retNew
  case box t x => exact cl_opv grow_false fun v => grow_retNew
  case buildSlice t n p =>
    refine cl_opvs grow_false fun vs => cl_elemOf grow_false fun el => cl_zeroC grow_false fun z => ?_
    split
    · exact cl_fillP grow_false fun cs => grow_retNew
    · exact grow_false
  all_goals
    exfalso
    revert hc
    repeat' split
    all_goals (intro hc; first | (cases hc; done) | (cases hc; contradiction))

theorem nl_retNew {dst : Option Nat} {cs : List Value} {mk : Addr → Value} {hid : Slot} (hd : DstM (modsU C o) dst) (hc : ∀ d, dst = some d → C.loc d = false) :
    NewLike (modsU C o) fun h K => retNew C dst cs mk hid h K := by
  unfold retNew
  cases dst with
  | none => exact nl_false hd.1
  | some d =>
    simp only
    rw [hc d rfl]
    split
    · contradiction
    · exact ⟨True, cs, fun b => .set d (.val (mk ⟨b, 0, none⟩)), fun b => (hd.2 d rfl _).1, fun h K => ⟨fun h1 => ⟨trivial, h1⟩, fun h1 => h1.2⟩⟩
    · exact nl_false hd.1

theorem new_like (hc : clsO C o = .new) : NewLike (modsU C o) fun h K => dcore C o e h K := by
  have hl : ∀ d, o.dst = some d → C.loc d = false := by
    intro d hd
    unfold clsO at hc
    cases ho : o.op <;> simp only [ho] at hc <;> try (cases hc; done)
    all_goals first
      | (rw [hd] at hc; simp only at hc; cases hl : C.loc d with
         | false => rfl
         | true => rw [hl] at hc; cases hc)
      | (exfalso; revert hc; repeat' split
         all_goals (intro hc; first | (cases hc; done) | (cases hc; contradiction)))
  have hF : NewLike (modsU C o) fun _ _ => False := nl_false (dst_mods (C := C) (o := o)).1
  unfold clsO at hc
  unfold dcore
  cases ho : o.op <;> simp only [ho] at hc ⊢ <;> try (cases hc; done)
  case alloc t => exact cl_zeroC hF fun cs => nl_retNew dst_mods hl
  case box t x => exact cl_opv hF fun v => nl_retNew dst_mods hl
  case buildSlice t n p =>
    refine cl_opvs hF fun vs => cl_elemOf hF fun el => cl_zeroC hF fun z => ?_
    split
    · exact cl_fillP hF fun cs => nl_retNew dst_mods hl
    · exact hF
  all_goals
    exfalso
    revert hc
    repeat' split
    all_goals (intro hc; first | (cases hc; done) | (cases hc; contradiction))

theorem mono_stP {M : Up → Prop} {a : Addr} {vs : List Value} {T : PT} (hT : MonoU M T) : MonoU M fun h K => stP a vs (fun h' => T h' K) h := by
  rintro h K K' hk ⟨b, h1, h2, h3, h4, h5, h6⟩
  exact ⟨b, h1, h2, h3, h4, h5, hT _ _ _ hk h6⟩
theorem mono_stO {M : Up → Prop} {a : Option Addr} {off : Nat} {vs : List Value} {T : PT} (hT : MonoU M T) : MonoU M fun h K => stO a off vs (fun h' => T h' K) h := by
  cases a with
  | none => exact hT
  | some a => exact mono_stP hT
theorem mono_appP {M : Up → Prop} {size bytes : Nat} {z : List Value} {x : Sl} {n : Nat} {new : List Value} {T : Sl → PT} (hT : ∀ s, MonoU M (T s)) :
    MonoU M fun h K => appP size bytes z x n new (fun s h' => T s h' K) h := by
  rintro h K K' hk ⟨h1, h2, h3, h4⟩
  refine ⟨h1, h2, fun hh => mono_stO (hT _) h K K' hk (h3 hh), fun hh => ?_⟩
  obtain ⟨old, h5, h6⟩ := h4 hh
  exact ⟨old, h5, fun b el c hc hb => hT _ _ _ _ hk (h6 b el c hc hb)⟩
theorem mono_mkP {M : Up → Prop} {len cap : Int} {bytes : Nat} {z : List Value} {T : Sl → PT} (hT : ∀ s, MonoU M (T s)) : MonoU M fun h K => mkP len cap bytes z (fun s h' => T s h' K) h := by
  rintro h K K' hk ⟨h1, h2, h3, h4, h5⟩
  exact ⟨h1, h2, h3, h4, mono_newP (T := fun a => T ⟨some a, len.toNat, cap.toNat⟩) (fun a => hT _) h K K' hk h5⟩

theorem mono_rdO {M : Up → Prop} {a : Option Addr} {n : Nat} {T : List Value → PT} (hT : ∀ vs, MonoU M (T vs)) : MonoU M fun h K => rdO a n (fun vs => T vs h K) h := by
  rintro h K K' hk ⟨l, h1, h2⟩
  exact ⟨l, h1, hT _ _ _ _ hk h2⟩
theorem mono_srcP {M : Up → Prop} {x : Operand} {size : Nat} {T : Nat → List Value → PT} (hT : ∀ n vs, MonoU M (T n vs)) : MonoU M fun h K => srcP e x size (fun n vs => T n vs h K) h := by
  unfold srcP
  split
  · split
    · split
      · exact hT _ _
      · exact mono_false
    · exact mono_rdO fun vs => hT _ _
    · split
      · exact hT _ _
      · exact mono_false
    · exact mono_false
  · exact mono_rdO fun vs => hT _ _
  · split
    · exact hT _ _
    · exact mono_false
  · exact mono_false
theorem mono_toStr {M : Up → Prop} {x : Sl} {T : ByteArray → PT} (hT : ∀ vs, MonoU M (T vs)) : MonoU M fun h K => toStr x (fun vs => T vs h K) h := by
  rintro h K K' hk ⟨l, h1, h2⟩
  exact ⟨l, h1, hT _ _ _ _ hk h2⟩
theorem mono_bytesP {M : Up → Prop} {s : ByteArray} {T : Sl → PT} (hT : ∀ s, MonoU M (T s)) : MonoU M fun h K => bytesP s (fun s h' => T s h' K) h := by
  intro h K K' hk hh b el c fz hc hb
  exact hT _ _ _ _ hk (hh b el c fz hc hb)
theorem mono_noInt {M : Up → Prop} {P : Program} {t : TypeId} {T : PT} (hT : MonoU M T) : MonoU M fun h K => noInt P t (T h K) := by
  unfold noInt
  split
  · exact hT
  · exact hT
  · exact mono_false

theorem dcore_mono (hC : TabOK C C.tab) (hmt : ∀ g args K K' h, (∀ v h, K v h → K' v h) → C.f g args K h → C.f g args K' h) : MonoU (modsU C o) fun h K => dcore C o e h K := by
  cases hc : clsO C o with
  | pure => exact (pure_like hc).mono
  | load => exact (load_like hc).mono
  | call => exact (call_like hC hc).mono
  | _ =>
    clear hc
    by_cases hp : clsO C o = .pure
    · exact (pure_like hp).mono
    by_cases hl : clsO C o = .load
    · exact (load_like hl).mono
    unfold dcore
    unfold clsO at hp hl
    cases ho : o.op <;> simp only [ho] at hp hl ⊢ <;> try (first | exact absurd trivial hp | exact absurd trivial hl | exact absurd rfl hp | exact absurd rfl hl | exact mono_false)
    case alloc t => exact cl_zeroC (Φ := MonoU _) mono_false fun cs => mono_retNew dst_mods (fun _ hh => by cases hh)
    case box t x => exact cl_opv (Φ := MonoU _) mono_false fun v => mono_retNew dst_mods (fun _ hh => by cases hh)
    case buildSlice t n p =>
      refine cl_opvs (Φ := MonoU _) mono_false fun vs => cl_elemOf (Φ := MonoU _) mono_false fun el => cl_zeroC (Φ := MonoU _) mono_false fun z => ?_
      split
      · exact cl_fillP (Φ := MonoU _) mono_false fun cs => mono_retNew dst_mods (fun _ hh => by cases hh)
      · exact mono_false
    case load t x =>
      exfalso
      cases x with
      | tmp s => cases hl' : C.loc (C.rt s) with
        | true => exact hp (by simp only [hl'])
        | false => exact hl (by simp only [hl'])
      | _ => exact hl rfl
    case store t x y =>
      refine cl_opv (Φ := MonoU _) mono_false fun v => ?_
      split
      · split
        · split
          · split
            · exact mono_set ⟨(fun d hd => by simp only [Up.dst, Option.some.injEq] at hd; subst hd; simp [modsO, ho]), (fun d off hd => by cases hd), (fun d off hd => by cases hd)⟩
            · exact mono_false
          · split
            · split
              · exact mono_set ⟨(fun d hd => by simp only [Up.dst, Option.some.injEq] at hd; subst hd; simp [modsO, ho]), (fun d off hd => by cases hd), (fun d off hd => by cases hd)⟩
              · exact mono_false
            · exact mono_false
          · split
            · exact mono_false
            refine cl_ptrK (Φ := MonoU _) mono_false fun ad => ?_
            split
            · exact mono_stP (mono_set dst_mods.1)
            · exact mono_false
          · exact mono_false
        · exact mono_false
      · exact mono_false
    case convert s t x =>
      refine cl_opv (Φ := MonoU _) mono_false fun v => ?_
      split
      · rename_i hu
        exfalso; exact hp (by rw [hu])
      · split
        · split
          · exact mono_toStr fun s => mono_retV dst_mods
          · exact mono_false
        · exact mono_false
      · split
        · exact mono_bytesP fun s => mono_retV dst_mods
        · exact mono_false
      · exact mono_false
    case makeSlice t l c =>
      refine cl_opv (Φ := MonoU _) mono_false fun lv => cl_opv (Φ := MonoU _) mono_false fun cv => ?_
      split
      · refine cl_elemOf (Φ := MonoU _) mono_false fun el => cl_zeroC (Φ := MonoU _) mono_false fun z => ?_
        split
        · exact mono_mkP fun s => mono_retV dst_mods
        · exact mono_false
      · exact mono_false
    case call c =>
      split
      · rename_i b hb
        unfold builtinP
        split
        · exact absurd (by rw [hb]) hp
        · exact absurd (by rw [hb]) hp
        · exact absurd (by rw [hb]) hp
        · split
          · refine mono_noInt <| cl_elemOf (Φ := MonoU _) mono_false fun el => cl_zeroC (Φ := MonoU _) mono_false fun z => ?_
            split
            · refine cl_opv (Φ := MonoU _) mono_false fun v => ?_
              split
              · exact mono_srcP fun n vs => mono_appP fun s => mono_retV dst_mods
              · exact mono_false
            · exact mono_false
          · exact mono_false
        · exact mono_false
      · rename_i f hf
        refine cl_opv (Φ := MonoU _) mono_false fun fv => ?_
        split
        · refine cl_opvs (Φ := MonoU _) mono_false fun vs => ?_
          intro h K K' hk ht
          exact hmt _ _ _ _ _ (fun r h' hr => mono_retV dst_mods h' K K' hk hr) ht
        · exact mono_false
      · exact mono_false

end
end Den
