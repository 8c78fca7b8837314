/-
  The model's operations on values: what the combinators of 'den' promise, the model's runs keep.
-/
import Derived.Test.YtnahjnlkpmbhlaaDen1
import Derived.WalkKit
namespace Den
open Go

def Sub (h : Hp) (w : World) : Prop := ∀ k b, h k = some b → w.heap[k]? = some (.cells b.cells.toArray b.elem b.fz)

theorem Sub.cell {h : Hp} {w : World} (hs : Sub h w) {a : Addr} {v : Value} (e : h.cell a = some v) : w.cell? a = some v := by
  unfold Hp.cell at e
  unfold World.cell?
  cases hsp : a.spot with
  | some x => rw [hsp] at e; cases e
  | none =>
    rw [hsp] at e; simp only at e
    cases hb : h a.block with
    | none => rw [hb] at e; cases e
    | some b => rw [hb] at e; simp only at e; rw [hs _ _ hb]; simpa using e

theorem Sub.mono {h h' : Hp} {w : World} (hs : Sub h' w) (hl : h.le h') : Sub h w := fun k b e => hs k b (hl k b e)
theorem Sub.lt {h : Hp} {w : World} (hs : Sub h w) {k : Nat} {b : Blk} (e : h k = some b) : k < w.heap.size := by
  rcases Nat.lt_or_ge k w.heap.size with h' | h'
  · exact h'
  · have := hs k b e; rw [Array.getElem?_eq_none h'] at this; cases this
theorem Sub.fresh {h : Hp} {w : World} (hs : Sub h w) {k : Nat} (e : w.heap.size ≤ k) : h k = none := by
  cases hk : h k with
  | none => rfl
  | some b => have := hs.lt hk; omega

section
variable {P : Program} {w : World}

theorem Sub.fin {h : Hp} {w : World} (hs : Sub h w) : h.Fin := ⟨w.heap.size, fun _ hk => hs.fresh hk⟩
theorem intBin_sound {op : BinOp} {k k' : IntKind} {a b : Int} {K : Value → Prop} (h : intBin op k k' a b K) (t : TypeId) :
    ∃ r, K r ∧ (binOp op t (.int k a) (.int k' b)).run P w = .ok r w := by
  cases op
  case shl =>
    obtain ⟨hb, hK⟩ : 0 ≤ b ∧ K (.int k (k.wrap (a * 2 ^ (min b.toNat k.bits)))) := h
    refine ⟨_, hK, ?_⟩
    show (Op.shift .shl k a k' b).run P w = _
    unfold Op.shift
    rw [if_neg (by omega)]
    rfl
  case shr =>
    obtain ⟨hb, hK⟩ : 0 ≤ b ∧ K (.int k (a.fdiv (2 ^ (min b.toNat k.bits)))) := h
    refine ⟨_, hK, ?_⟩
    show (Op.shift .shr k a k' b).run P w = _
    unfold Op.shift
    rw [if_neg (by omega)]
    rfl
  case quo =>
    obtain ⟨rfl, hb, hK⟩ : k = k' ∧ b ≠ 0 ∧ K (.int k (k.wrap (a.tdiv b))) := sameK_iff.1 h
    refine ⟨_, hK, ?_⟩
    show (if k ≠ k then stuck "BinOp: operands of different kinds" else Op.intDiv .quo k a b).run P w = _
    rw [if_neg (by simp)]; unfold Op.intDiv; rw [if_neg hb]; rfl
  case rem =>
    obtain ⟨rfl, hb, hK⟩ : k = k' ∧ b ≠ 0 ∧ K (.int k (a.tmod b)) := sameK_iff.1 h
    refine ⟨_, hK, ?_⟩
    show (if k ≠ k then stuck "BinOp: operands of different kinds" else Op.intDiv .rem k a b).run P w = _
    rw [if_neg (by simp)]; unfold Op.intDiv; rw [if_neg hb]; rfl
  case add =>
    obtain ⟨rfl, hK⟩ : k = k' ∧ K (.int k (k.wrap (a + b))) := sameK_iff.1 h
    refine ⟨_, hK, ?_⟩
    show (if k ≠ k then stuck "BinOp: operands of different kinds" else Op.intArith .add k a b).run P w = _
    rw [if_neg (by simp)]; rfl
  case sub =>
    obtain ⟨rfl, hK⟩ : k = k' ∧ K (.int k (k.wrap (a - b))) := sameK_iff.1 h
    refine ⟨_, hK, ?_⟩
    show (if k ≠ k then stuck "BinOp: operands of different kinds" else Op.intArith .sub k a b).run P w = _
    rw [if_neg (by simp)]; rfl
  case mul =>
    obtain ⟨rfl, hK⟩ : k = k' ∧ K (.int k (k.wrap (a * b))) := sameK_iff.1 h
    refine ⟨_, hK, ?_⟩
    show (if k ≠ k then stuck "BinOp: operands of different kinds" else Op.intArith .mul k a b).run P w = _
    rw [if_neg (by simp)]; rfl
  case and =>
    obtain ⟨rfl, hK⟩ : k = k' ∧ K (.int k (ibits .and k a b)) := sameK_iff.1 h
    refine ⟨_, hK, ?_⟩
    show (if k ≠ k then stuck "BinOp: operands of different kinds" else Op.intBits .and k a b).run P w = _
    rw [if_neg (by simp)]; rfl
  case or =>
    obtain ⟨rfl, hK⟩ : k = k' ∧ K (.int k (ibits .or k a b)) := sameK_iff.1 h
    refine ⟨_, hK, ?_⟩
    show (if k ≠ k then stuck "BinOp: operands of different kinds" else Op.intBits .or k a b).run P w = _
    rw [if_neg (by simp)]; rfl
  case xor =>
    obtain ⟨rfl, hK⟩ : k = k' ∧ K (.int k (ibits .xor k a b)) := sameK_iff.1 h
    refine ⟨_, hK, ?_⟩
    show (if k ≠ k then stuck "BinOp: operands of different kinds" else Op.intBits .xor k a b).run P w = _
    rw [if_neg (by simp)]; rfl
  case andNot =>
    obtain ⟨rfl, hK⟩ : k = k' ∧ K (.int k (ibits .andNot k a b)) := sameK_iff.1 h
    refine ⟨_, hK, ?_⟩
    show (if k ≠ k then stuck "BinOp: operands of different kinds" else Op.intBits .andNot k a b).run P w = _
    rw [if_neg (by simp)]; rfl
  all_goals
    obtain ⟨rfl, hK⟩ := sameK_iff.1 h
    refine ⟨_, hK, ?_⟩
    show (if k ≠ k then stuck "BinOp: operands of different kinds" else Op.intCmp _ a b).run P w = _
    rw [if_neg (by simp)]; rfl

theorem underlying_run {t : TypeId} {d : TypeDesc} (h : P.underlying t = some d) : (underlying t).run P w = .ok d w := by
  unfold Go.underlying
  simp only [Sem.run_bind, run_program, Result.andThen_ok, h, Sem.run_pure]

theorem equalIn_bool (d : Nat) {t : TypeId} {a b : Bool} (hu : P.underlying t = some .bool) : (Op.equalIn (d + 1) t (.bool a) (.bool b)).run P w = .ok (a == b) w := by
  unfold Op.equalIn
  simp only [Sem.run_bind, underlying_run hu, Result.andThen_ok, Sem.run_pure]

theorem equal_bool {t : TypeId} {a b : Bool} (hu : P.underlying t = some .bool) : (Op.equal t (.bool a) (.bool b)).run P w = .ok (a == b) w :=
  equalIn_bool 9999 hu

theorem equalIn_nil (d : Nat) {t e : TypeId} {a : Option Addr} {l c l' c' : Nat} (hu : P.underlying t = some (.slice e)) :
    (Op.equalIn (d + 1) t (.slice a l c) (.slice none l' c')).run P w = .ok a.isNone w := by
  unfold Op.equalIn
  cases a <;> simp only [Sem.run_bind, underlying_run hu, Result.andThen_ok, Sem.run_pure] <;> rfl

theorem equal_nil {t e : TypeId} {a : Option Addr} {l c l' c' : Nat} (hu : P.underlying t = some (.slice e)) :
    (Op.equal t (.slice a l c) (.slice none l' c')).run P w = .ok a.isNone w :=
  equalIn_nil 9999 hu

theorem binP_sound {op : BinOp} {t : TypeId} {x y : Value} {K : Value → Prop} (h : binP P t op x y K) (ox oy : Operand) :
    ∃ r, K r ∧ (eqGuard op t ox oy x y >>= fun _ => binOp op t x y).run P w = .ok r w := by
  unfold binP at h
  split at h
  · rename_i k a k' b
    obtain ⟨r, hK, hr⟩ := intBin_sound (P := P) (w := w) h t
    refine ⟨r, hK, ?_⟩
    have : (eqGuard op t ox oy (.int k a) (.int k' b)).run P w = .ok () w := by
      unfold eqGuard; split <;> simp
    simp [this, hr]
  · rename_i a b
    have hg : (eqGuard op t ox oy (.string a) (.string b)).run P w = .ok () w := by
      unfold eqGuard; split <;> simp
    split at h
    · refine ⟨_, h.2, ?_⟩
      simp only [Sem.run_bind, hg, Result.andThen_ok, binOp, Op.stringOp]
      rw [if_neg (by have := h.1; simp [IntKind.max, IntKind.signed, IntKind.bits]; omega)]
      rfl
    · exact ⟨_, h, by simp [hg, binOp, Op.stringOp]⟩
    · exact ⟨_, h, by simp [hg, binOp, Op.stringOp]⟩
    · exact h.elim
  · rename_i a b
    have hg : (eqGuard op t ox oy (.bool a) (.bool b)).run P w = .ok () w := by
      unfold eqGuard; split <;> simp
    split at h
    · rename_i hu
      refine ⟨_, h, ?_⟩
      simp only [Sem.run_bind, hg, Result.andThen_ok]
      show (Op.equal t (.bool a) (.bool b) >>= fun r => Pure.pure (Value.bool r)).run P w = _
      simp only [Sem.run_bind, equal_bool hu, Result.andThen_ok, Sem.run_pure]
    · rename_i hu
      refine ⟨_, h, ?_⟩
      simp only [Sem.run_bind, hg, Result.andThen_ok]
      show (Op.equal t (.bool a) (.bool b) >>= fun r => Pure.pure (Value.bool (!r))).run P w = _
      simp only [Sem.run_bind, equal_bool hu, Result.andThen_ok, Sem.run_pure]
    · exact h.elim
  · rename_i a l c l' c'
    have hg : (eqGuard op t ox oy (.slice a l c) (.slice none l' c')).run P w = .ok () w := by
      unfold eqGuard; split <;> simp
    split at h
    · rename_i hu
      refine ⟨_, h, ?_⟩
      simp only [Sem.run_bind, hg, Result.andThen_ok]
      show (Op.equal t (.slice a l c) (.slice none l' c') >>= fun r => Pure.pure (Value.bool r)).run P w = _
      simp only [Sem.run_bind, equal_nil hu, Result.andThen_ok, Sem.run_pure]
    · rename_i hu
      refine ⟨_, h, ?_⟩
      simp only [Sem.run_bind, hg, Result.andThen_ok]
      show (Op.equal t (.slice a l c) (.slice none l' c') >>= fun r => Pure.pure (Value.bool (!r))).run P w = _
      simp only [Sem.run_bind, equal_nil hu, Result.andThen_ok, Sem.run_pure]
    · exact h.elim
  · exact h.elim

theorem unP_sound {op : UnOp} {x : Value} {K : Value → Prop} (h : unP op x K) : ∃ r, K r ∧ (Op.unary op x).run P w = .ok r w := by
  unfold unP at h
  split at h
  · exact ⟨_, h, by simp [Op.unary]⟩
  · exact ⟨_, h, by simp [Op.unary, Op.intArith]⟩
  · exact h.elim

theorem isAgg_run {t : TypeId} {b : Bool} (h : isAgg? P t = some b) : (isAgg t).run P w = .ok b w := by
  unfold isAgg? at h
  cases hd : P.underlying t with
  | none => rw [hd] at h; cases h
  | some d =>
    rw [hd] at h
    simp only [isAgg, Sem.run_bind, underlying_run hd, Result.andThen_ok]
    cases d <;> simp_all

theorem sizeOf_run {t : TypeId} {i : TypeInfo} (h : P.info? t = some i) : (Go.sizeOf t).run P w = .ok i.size w := by
  simp [Go.sizeOf, typeInfo, h]

theorem cellsOf_info {t : TypeId} {i : TypeInfo} (h : P.info? t = some i) : P.cellsOf t = i.size := by simp [Program.cellsOf, h]
theorem bytesOf_info {t : TypeId} {i : TypeInfo} (h : P.info? t = some i) : P.bytesOf t = i.bytes := by simp [Program.bytesOf, h]
theorem info_of_underlying {t : TypeId} {d : TypeDesc} (h : P.underlying t = some d) : ∃ i, P.info? t = some i := by
  cases hi : P.info? t with
  | none => simp [Program.underlying, hi] at h
  | some i => exact ⟨i, rfl⟩

theorem leaves_under {n : Nat} {t : TypeId} {ls : List Lf} (h : leaves P n t = some ls) : ∃ d, P.underlying t = some d := by
  cases n with
  | zero => simp [leaves] at h
  | succ n =>
    cases hd : P.underlying t with
    | none => simp [leaves, hd] at h
    | some d => exact ⟨d, rfl⟩

theorem ldLs_sound {h : Hp} (hs : Sub h w) : ∀ {ls : List Lf} {a : Addr} {i : Nat} {K : List Value → Prop}, ldLs ls a i K h →
    ∃ vs, K vs ∧ vs.length = ls.length ∧ ∀ acc, (loadCellsFrom a i ls.length acc).run P w = .ok (acc ++ vs.toArray) w
  | [], a, i, K, hk => ⟨[], hk, rfl, fun acc => by simp [loadCellsFrom]⟩
  | l :: r, a, i, K, hk => by
    obtain ⟨x, hx, hk⟩ := hk
    obtain ⟨vs, h1, h2, h3⟩ := ldLs_sound hs hk
    refine ⟨l.up x :: vs, h1, by simp [h2], fun acc => ?_⟩
    have hc := hs.cell hx
    simp only [List.length_cons, loadCellsFrom, Sem.run_bind, run_load, hc, Result.andThen_ok]
    rw [h3]
    simp

theorem ldT_sound {h : Hp} (hs : Sub h w) {t : TypeId} {a : Addr} {K : Value → Prop} (hk : ldT P t a K h) :
    ∃ v, K v ∧ (loadVar t a).run P w = .ok v w := by
  unfold ldT at hk
  split at hk
  · rename_i ls hl
    obtain ⟨d, hd⟩ := leaves_under hl
    obtain ⟨i, hi⟩ := info_of_underlying hd
    split at hk
    · exact hk.elim
    · rename_i hagg
      split at hk
      · rename_i hlen
        obtain ⟨vs, h1, h2, h3⟩ := ldLs_sound (P := P) hs hk
        refine ⟨_, h1, ?_⟩
        have hlen' : ls.length = i.size := by have := Nat.eq_of_beq_eq_true hlen; rw [this, cellsOf_info hi]
        simp only [loadVar, Sem.run_bind, isAgg_run hagg, Result.andThen_ok, if_true, sizeOf_run hi, loadCells, ← hlen', h3, Sem.run_pure]
        simp
      · exact hk.elim
    · rename_i hagg
      split at hk
      · rename_i l
        obtain ⟨x, hx, hk⟩ := hk
        refine ⟨_, hk, ?_⟩
        simp [loadVar, isAgg_run hagg, hs.cell hx]
      · exact hk.elim
  · exact hk.elim

end
end Den
