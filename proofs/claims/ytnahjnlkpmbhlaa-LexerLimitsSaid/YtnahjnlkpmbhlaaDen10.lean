/-
  Which operations may change places.
-/
import Derived.Test.YtnahjnlkpmbhlaaDen9
namespace Den
open Go

abbrev PT := Hp → (Up → Hp → Prop) → Prop

abbrev rng (M : Up → Prop) (u : Up) : Prop := M u

/-- What an operation may do to the symbolic state. -/
def modsU (C : Cfg) (o : Oper) (u : Up) : Prop := (∀ d, u.dst = some d → d ∈ modsO C o) ∧ (∀ d off, u = .set d (.ref off) → o.dst = some d) ∧ ∀ d off, u ≠ .alloc d (.ref off)

def DstM (M : Up → Prop) (dst : Option Nat) : Prop := M .none ∧ ∀ d, dst = some d → ∀ s, M (.set d s) ∧ ((∀ o, s ≠ .ref o) → M (.alloc d s))

def PureLike (M : Up → Prop) (T : PT) : Prop := ∃ p : Up → Prop, (∀ u, p u → rng M u) ∧ ∀ h K, T h K ↔ ∃ u, p u ∧ K u h
def LoadLike (M : Up → Prop) (T : PT) : Prop := ∃ p : Up → Hp → Prop, (∀ u h, p u h → rng M u) ∧ (∀ u h h', p u h → Hp.le h h' → p u h') ∧ ∀ h K, T h K ↔ ∃ u, p u h ∧ K u h
def CallLikeU (M : Up → Prop) (T : PT) : Prop := ∃ (α : Type) (G : (α → Hp → Prop) → Hp → Prop) (q : α → Up → Prop), (∀ r u, q r u → rng M u) ∧
  ((∀ h K, T h K ↔ callP G (fun r h' => ∃ u, q r u ∧ K u h') h) ∨ ∀ h K, ¬ T h K)
def NewLike (M : Up → Prop) (T : PT) : Prop := ∃ (P0 : Prop) (c : List Value) (f : Nat → Up), (∀ b, rng M (f b)) ∧ ∀ h K, T h K ↔ P0 ∧ ∀ b el, h b = none → K (f b) (h.ins b ⟨c, el, (0, 0)⟩)
def MonoU (M : Up → Prop) (T : PT) : Prop := ∀ h K K', (∀ u h, M u → K u h → K' u h) → T h K → T h K'

section
variable {M : Up → Prop}

theorem pl_false : PureLike M fun _ _ => False := ⟨fun _ => False, fun _ hh => hh.elim, fun h K => ⟨fun hh => hh.elim, fun ⟨_, hh, _⟩ => hh⟩⟩
theorem pl_one {u : Up} (hu : rng M u) : PureLike M fun h K => K u h := ⟨fun v => v = u, fun v hv => hv ▸ hu, fun h K => ⟨fun hh => ⟨u, rfl, hh⟩, fun ⟨_, e, hh⟩ => e ▸ hh⟩⟩
theorem pl_ex {ι : Type} {T : ι → PT} (hT : ∀ i, PureLike M (T i)) : PureLike M fun h K => ∃ i, T i h K := by
  refine ⟨fun u => ∃ i, (hT i).choose u, fun u ⟨i, hi⟩ => (hT i).choose_spec.1 u hi, fun h K => ⟨fun ⟨i, hi⟩ => ?_, fun ⟨u, ⟨i, hi⟩, hk⟩ => ⟨i, ?_⟩⟩⟩
  · obtain ⟨u, h1, h2⟩ := ((hT i).choose_spec.2 h K).1 hi
    exact ⟨u, ⟨i, h1⟩, h2⟩
  · exact ((hT i).choose_spec.2 h K).2 ⟨u, hi, hk⟩
theorem pl_and {c : Prop} {T : PT} (hT : PureLike M T) : PureLike M fun h K => c ∧ T h K := by
  obtain ⟨p, h1, h2⟩ := hT
  refine ⟨fun u => c ∧ p u, fun u hu => h1 u hu.2, fun h K => ⟨fun ⟨hc, hh⟩ => ?_, fun ⟨u, ⟨hc, hu⟩, hk⟩ => ⟨hc, (h2 h K).2 ⟨u, hu, hk⟩⟩⟩⟩
  obtain ⟨u, hu, hk⟩ := (h2 h K).1 hh
  exact ⟨u, ⟨hc, hu⟩, hk⟩
theorem pl_sameK {k k' : IntKind} {T : PT} (hT : PureLike M T) : PureLike M fun h K => sameK k k' (T h K) := by
  have := pl_and (c := k = k') hT
  obtain ⟨p, h1, h2⟩ := this
  exact ⟨p, h1, fun h K => sameK_iff.trans (h2 h K)⟩
theorem pl_retV {C : Cfg} {dst : Option Nat} {v : Value} (hd : DstM M dst) : PureLike M fun h K => retV C dst v h K := by
  unfold retV
  cases dst with
  | none => exact pl_one hd.1
  | some d =>
    simp only
    split
    · exact pl_one (hd.2 _ rfl _).1
    · exact pl_false
theorem pl_retR {C : Cfg} {dst : Option Nat} {root off : Nat} (hd : DstM M dst) : PureLike M fun h K => retR C dst root off h K := by
  unfold retR
  cases dst with
  | none => exact pl_false
  | some d =>
    simp only
    split
    · exact pl_one (hd.2 _ rfl _).1
    · exact pl_false
theorem pl_skipV {C : Cfg} {dst : Option Nat} (hd : DstM M dst) : PureLike M fun h K => skipV C dst h K := by
  unfold skipV
  cases dst with
  | none => exact pl_one hd.1
  | some d =>
    simp only
    split
    · exact pl_one ((hd.2 _ rfl _).2 (fun _ hh => by cases hh))
    · exact pl_retV hd
theorem pl_opv {e : Env} {x : Operand} {T : Value → PT} (hT : ∀ v, PureLike M (T v)) : PureLike M fun h K => opv e x fun v => T v h K := by
  unfold opv
  split
  · exact hT _
  · exact hT _
  · exact pl_false
  · split
    · exact hT _
    · exact pl_false
theorem pl_opvs {e : Env} : ∀ {l : List Operand} {T : List Value → PT}, (∀ v, PureLike M (T v)) → PureLike M fun h K => opvs e l fun v => T v h K
  | [], T, hT => hT []
  | x :: r, T, hT => by
    unfold opvs
    exact pl_opv fun v => pl_opvs (l := r) (T := fun vs => T (v :: vs)) fun vs => hT _
theorem pl_ptrK {p : Option Addr} {T : Addr → PT} (hT : ∀ a, PureLike M (T a)) : PureLike M fun h K => ptrK p fun a => T a h K := by
  cases p with
  | none => exact pl_false
  | some a => exact hT a
theorem pl_okT {P : Program} {t : TypeId} {T : PT} (hT : PureLike M T) : PureLike M fun h K => okT P t (T h K) := by
  unfold okT
  split
  · exact hT
  · exact pl_false
theorem pl_idxC {n : Int} {len : Nat} {T : PT} (hT : PureLike M T) : PureLike M fun h K => idxC n len (T h K) := by
  unfold idxC
  split
  · exact hT
  · exact pl_false
theorem pl_zeroC {P : Program} {t : TypeId} {T : List Value → PT} (hT : ∀ a, PureLike M (T a)) : PureLike M fun h K => zeroC P t fun a => T a h K := by
  unfold zeroC
  split
  · split
    · exact hT _
    · exact pl_false
  · exact pl_false
theorem pl_elemOf {P : Program} {t : TypeId} {T : TypeId → PT} (hT : ∀ a, PureLike M (T a)) : PureLike M fun h K => elemOf? P t fun a => T a h K := by
  unfold elemOf?
  split
  · split
    · exact hT _
    · exact pl_false
  · exact pl_false
theorem pl_asField {P : Program} {t : TypeId} {f : Nat} {T : Nat → PT} (hT : ∀ a, PureLike M (T a)) : PureLike M fun h K => asField P t f fun a => T a h K := by
  unfold asField
  split
  · split
    · split
      · exact pl_false
      · exact hT _
    · exact pl_false
  · exact pl_false
theorem pl_fillP {pl : Nat → Option (Nat × Nat)} {z : List Value} {ps : List (Nat × Value)} {T : List Value → PT} (hT : ∀ a, PureLike M (T a)) : PureLike M fun h K => fillP pl z ps fun a => T a h K := by
  unfold fillP
  split
  · exact hT _
  · exact pl_false
theorem pl_partT {P : Program} {t : TypeId} {cs : List Value} {off : Nat} {T : Value → PT} (hT : ∀ a, PureLike M (T a)) : PureLike M fun h K => partT P t cs off fun a => T a h K := by
  unfold partT
  split
  · exact pl_false
  · split
    · exact hT _
    · exact pl_false
  · split
    · exact hT _
    · exact pl_false
theorem pl_aggC {v : Value} {T : List Value → PT} (hT : ∀ a, PureLike M (T a)) : PureLike M fun h K => aggC v fun a => T a h K := by
  cases v <;> first | exact hT _ | exact pl_false
theorem pl_boP {e : Env} {lo : Option Operand} {d : Int} {T : Int → PT} (hT : ∀ a, PureLike M (T a)) : PureLike M fun h K => boP e lo d fun a => T a h K := by
  unfold boP
  split
  · exact hT _
  · refine pl_opv fun v => ?_
    split
    · exact hT _
    · exact pl_false
theorem pl_ifP {t : Bool} {S T : PT} (hS : PureLike M S) (hT : PureLike M T) : PureLike M fun h K => ifP t (S h K) (T h K) := by
  cases t
  · exact hT
  · exact hS
theorem pl_intBin {op : BinOp} {k k' : IntKind} {a b : Int} {T : Value → PT} (hT : ∀ a, PureLike M (T a)) : PureLike M fun h K => intBin op k k' a b fun v => T v h K := by
  cases op <;> simp only [intBin] <;> first
    | exact pl_and (hT _)
    | exact pl_sameK (pl_and (hT _))
    | exact pl_sameK (hT _)
theorem pl_binP {P : Program} {t : TypeId} {op : BinOp} {x y : Value} {T : Value → PT} (hT : ∀ a, PureLike M (T a)) : PureLike M fun h K => binP P t op x y fun v => T v h K := by
  unfold binP
  split
  · exact pl_intBin hT
  · split <;> first | exact pl_and (hT _) | exact hT _ | exact pl_false
  · split <;> first | exact hT _ | exact pl_false
  · split <;> first | exact hT _ | exact pl_false
  · exact pl_false
theorem pl_unP {op : UnOp} {x : Value} {T : Value → PT} (hT : ∀ a, PureLike M (T a)) : PureLike M fun h K => unP op x fun v => T v h K := by
  unfold unP
  split <;> first | exact hT _ | exact pl_false

end

section
variable {C : Cfg} {o : Oper} {e : Env}

theorem dst_mods : DstM (modsU C o) o.dst := by
  refine ⟨⟨(fun d hd => by cases hd), (fun d off hd => by cases hd), (fun d off hd => by cases hd)⟩, fun d hd s => ⟨⟨fun d' hd' => ?_, fun d' off hd' => ?_, (fun d' off hd' => by cases hd')⟩,
    fun hs => ⟨fun d' hd' => ?_, (fun d' off hd' => by cases hd'), fun d' off hd' => ?_⟩⟩⟩
  · simp only [Up.dst, Option.some.injEq] at hd'; subst hd'; simp [modsO, hd]
  · simp only [Up.set.injEq] at hd'; rw [← hd'.1]; exact hd
  · simp only [Up.dst, Option.some.injEq] at hd'; subst hd'; simp [modsO, hd]
  · simp only [Up.alloc.injEq] at hd'; exact hs _ hd'.2

theorem pl_builtin {b : Builtin} (hb : b = .len ∨ b = .max ∨ b = .min) {ts : List TypeId} {xs : List Operand} :
    PureLike (modsU C o) fun h K => builtinP C b ts xs e h o.dst K := by
  unfold builtinP
  split
  · refine pl_opv fun v => ?_
    split
    · split
      · exact pl_retV dst_mods
      · exact pl_false
    · split
      · exact pl_retV dst_mods
      · exact pl_false
    · exact pl_false
  · refine pl_opv fun u => pl_opv fun v => ?_
    cases u <;> cases v <;> first
      | exact pl_false
      | exact pl_sameK (T := fun h K => retV C o.dst (.int _ (maxI _ _)) h K) (pl_retV dst_mods)
  · refine pl_opv fun u => pl_opv fun v => ?_
    cases u <;> cases v <;> first
      | exact pl_false
      | exact pl_sameK (T := fun h K => retV C o.dst (.int _ (minI _ _)) h K) (pl_retV dst_mods)
  · rcases hb with hb | hb | hb <;> cases hb
  · exact pl_false

theorem pure_like (hc : clsO C o = .pure) : PureLike (modsU C o) fun h K => dcore C o e h K := by
  unfold clsO at hc
  unfold dcore
  cases ho : o.op <;> simp only [ho] at hc ⊢ <;> try (cases hc; done)
  case load t x =>
    split
    · rename_i s
      simp only at hc
      split
      · exact pl_partT fun v => pl_retV dst_mods
      · split
        · exact pl_partT fun v => pl_retV dst_mods
        · exact pl_false
      · cases hl : C.loc (C.rt s) with
        | true => exact pl_false
        | false => rw [hl] at hc; cases hc
      · exact pl_false
    · exact pl_false
  case store t x y =>
    refine pl_opv fun v => ?_
    split
    · split
      · rename_i s
        simp only at hc
        split
        · split
          · exact pl_one ⟨(fun d hd => by simp only [Up.dst, Option.some.injEq] at hd; subst hd; simp [modsO, ho]), (fun d off hd => by cases hd), (fun d off hd => by cases hd)⟩
          · exact pl_false
        · split
          · split
            · exact pl_one ⟨(fun d hd => by simp only [Up.dst, Option.some.injEq] at hd; subst hd; simp [modsO, ho]), (fun d off hd => by cases hd), (fun d off hd => by cases hd)⟩
            · exact pl_false
          · exact pl_false
        · cases hl : C.loc (C.rt s) with
          | true => exact pl_false
          | false => rw [hl] at hc; cases hc
        · exact pl_false
      · exact pl_false
    · exact pl_false
  case move x => exact pl_opv fun v => pl_retV dst_mods
  case assign x => exact pl_opv fun v => pl_retV dst_mods
  case pick c x y =>
    refine pl_opv fun v => ?_
    split
    · exact pl_ifP (pl_opv fun v => pl_retV dst_mods) (pl_opv fun v => pl_retV dst_mods)
    · exact pl_false
  case alloc t =>
    refine pl_zeroC fun cs => ?_
    unfold retNew
    cases hd : o.dst with
    | none => exact pl_false
    | some d =>
      rw [hd] at hc; simp only at hc ⊢
      cases hl : C.loc d with
      | false => rw [hl] at hc; cases hc
      | true =>
        split
        · exact pl_one ((dst_mods.2 _ hd _).2 (fun _ hh => by cases hh))
        · contradiction
        · exact pl_false
  case box t x =>
    refine pl_opv fun v => ?_
    unfold retNew
    cases hd : o.dst with
    | none => exact pl_false
    | some d =>
      rw [hd] at hc; simp only at hc ⊢
      cases hl : C.loc d with
      | false => rw [hl] at hc; cases hc
      | true =>
        split
        · exact pl_one ((dst_mods.2 _ hd _).2 (fun _ hh => by cases hh))
        · contradiction
        · exact pl_false
  case build t p =>
    refine pl_opvs fun vs => ?_
    split
    · exact pl_retV dst_mods
    · exact pl_false
  case buildSlice t n p =>
    refine pl_opvs fun vs => pl_elemOf fun el => pl_zeroC fun z => ?_
    split
    · refine pl_fillP fun cs => ?_
      unfold retNew
      cases hd : o.dst with
      | none => exact pl_false
      | some d =>
        rw [hd] at hc; simp only at hc ⊢
        cases hl : C.loc d with
        | false => rw [hl] at hc; cases hc
        | true =>
          split
          · exact pl_one ((dst_mods.2 _ hd _).2 (fun _ hh => by cases hh))
          · contradiction
          · exact pl_false
    · exact pl_false
  case nilCheck x =>
    refine pl_opv fun v => ?_
    split
    · exact pl_ptrK fun ad => pl_retV dst_mods
    · exact pl_retV dst_mods
    · exact pl_false
  case binOp op t x y t' => exact pl_opv fun u => pl_opv fun v => pl_binP fun r => pl_retV dst_mods
  case unOp op t x => exact pl_opv fun u => pl_unP fun r => pl_retV dst_mods
  case convert s t x =>
    refine pl_opv fun v => ?_
    split
    · split
      · exact pl_retV dst_mods
      · exact pl_false
    · rename_i hu
      rw [hu] at hc; cases hc
    · rename_i hu
      rw [hu] at hc; cases hc
    · exact pl_false
  case makeFunc fn u v =>
    cases fn with
    | func g => exact pl_opvs fun us => pl_opvs fun vs => pl_retV dst_mods
    | _ => exact pl_false
  case slice t x lo hi mx =>
    cases mx with
    | some m => exact pl_false
    | none =>
      refine pl_opv fun v => ?_
      split
      · split
        · refine pl_boP fun l => pl_boP fun u => ?_
          unfold strCut
          exact pl_and (pl_and (pl_and (pl_retV dst_mods)))
        · exact pl_false
      · refine pl_elemOf fun el => pl_boP fun l => pl_boP fun u => ?_
        unfold slP
        exact pl_and (pl_and (pl_and (pl_retV dst_mods)))
      · exact pl_false
  case fieldAddr t x f =>
    refine pl_asField fun off => ?_
    split
    · split
      · exact pl_retR dst_mods
      · exact pl_retR dst_mods
      · exact pl_ptrK fun ad => pl_retV dst_mods
      · exact pl_false
    · exact pl_false
  case field t x f =>
    refine pl_asField fun off => pl_opv fun v => pl_aggC fun cs => ?_
    split
    · split
      · exact pl_partT fun r => pl_retV dst_mods
      · exact pl_false
    · exact pl_false
  case indexAddr t x ix =>
    refine pl_opv fun iv => ?_
    split
    · split
      · refine pl_okT (pl_opv fun v => ?_)
        split
        · unfold idxP
          exact pl_and (pl_and (pl_ptrK fun ad => pl_retV dst_mods))
        · exact pl_false
      · refine pl_okT (pl_idxC ?_)
        split
        · split
          · exact pl_retR dst_mods
          · exact pl_retR dst_mods
          · exact pl_ptrK fun ad => pl_retV dst_mods
          · exact pl_false
        · exact pl_false
      · exact pl_false
    · exact pl_false
  case index t x ix =>
    refine pl_opv fun iv => pl_opv fun v => ?_
    split
    · split
      · unfold strIdx
        exact pl_and (pl_ex fun b => pl_and (pl_retV dst_mods))
      · exact pl_false
    · split
      · exact pl_okT (pl_idxC (pl_partT fun r => pl_retV dst_mods))
      · exact pl_false
    · exact pl_false
  case extract x i =>
    refine pl_opv fun v => ?_
    split
    · split
      · exact pl_retV dst_mods
      · exact pl_false
    · exact pl_false
  case call c =>
    cases hcal : c.callee with
    | builtin b =>
      rw [hcal] at hc
      simp only
      cases b with
      | len => exact pl_builtin (.inl rfl)
      | max => exact pl_builtin (.inr (.inl rfl))
      | min => exact pl_builtin (.inr (.inr rfl))
      | _ => cases hc
    | value f =>
      exfalso
      rw [hcal] at hc
      cases f with
      | func g =>
        simp only at hc
        cases hm : C.muts g <;> rw [hm] at hc <;> cases hc
      | _ => cases hc
    | invoke r m => rw [hcal] at hc; cases hc

end
end Den
