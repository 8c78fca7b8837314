/-
  Operations that look at different slots change places; a region that draws its order.
-/
import Derived.Test.YtnahjnlkpmbhlaaDen11
namespace Den
open Go

section
variable {C : Cfg} {o : Oper} {e e' : Env}

theorem opv_congr {x : Operand} (hx : ∀ t, x = .tmp t → e t = e' t) : opv e x = opv e' x := by
  funext K
  unfold opv
  cases x <;> try rfl
  rename_i t
  simp only [hx t rfl]

theorem opvs_congr : ∀ {l : List Operand}, (∀ x ∈ l, ∀ t, x = .tmp t → e t = e' t) → opvs e l = opvs e' l
  | [], _ => rfl
  | x :: r, hx => by
    funext K
    unfold opvs
    rw [opv_congr (hx x (by simp)), opvs_congr (l := r) fun y hy => hx y (by simp [hy])]

theorem boP_congr {lo : Option Operand} {d : Int} (hx : ∀ x, lo = some x → ∀ t, x = .tmp t → e t = e' t) : boP e lo d = boP e' lo d := by
  funext K
  unfold boP
  cases lo with
  | none => rfl
  | some x => simp only; rw [opv_congr (hx x rfl)]

theorem srcP_congr {x : Operand} {size : Nat} (hx : ∀ t, x = .tmp t → e t = e' t) : srcP e x size = srcP e' x size := by
  funext K h
  unfold srcP
  cases x with
  | tmp t => simp only [hx t rfl]
  | const v => cases v <;> rfl
  | _ => rfl

theorem dcore_congr (H : ∀ x ∈ o.op.operands.toList, ∀ t, x = .tmp t → e t = e' t ∧ e (C.rt t) = e' (C.rt t)) : dcore C o e = dcore C o e' := by
  funext h K
  have hv : ∀ x ∈ o.op.operands.toList, opv e x = opv e' x := fun x hx => opv_congr fun t ht => (H x hx t ht).1
  have hvs : ∀ l : List Operand, (∀ x ∈ l, x ∈ o.op.operands.toList) → opvs e l = opvs e' l := fun l hl => opvs_congr fun x hx t ht => (H x (hl x hx) t ht).1
  unfold dcore
  cases ho : o.op <;> simp only [ho, Op.operands] at H hv hvs ⊢
  case move x => rw [hv x (by simp)]
  case assign x => rw [hv x (by simp)]
  case pick c x y => rw [hv c (by simp), hv x (by simp), hv y (by simp)]
  case box t x => rw [hv x (by simp)]
  case build t p => rw [hvs _ (by simp)]
  case buildSlice t n p => rw [hvs _ (by simp)]
  case load t x =>
    cases x <;> try rfl
    rename_i s
    have := H (.tmp s) (by simp) s rfl
    simp only [this.1, this.2]
  case store t x y =>
    rw [hv y (by simp)]
    cases x <;> try rfl
    rename_i s
    have := H (.tmp s) (by simp) s rfl
    simp only [this.1, this.2]
  case nilCheck x => rw [hv x (by simp)]
  case binOp op t x y t' => rw [hv x (by simp), hv y (by simp)]
  case unOp op t x => rw [hv x (by simp)]
  case convert s t x => rw [hv x (by simp)]
  case makeFunc fn u v =>
    cases fn <;> try rfl
    simp only
    rw [hvs _ (by simp; intro x hx; exact .inl hx), hvs _ (by simp; intro x hx; exact .inr hx)]
  case makeSlice t l c => rw [hv l (by simp), hv c (by simp)]
  case slice t x lo hi mx =>
    cases mx with
    | some m => rfl
    | none =>
      simp only
      have hb : ∀ (q : Option Operand) (d : Int), (q = lo ∨ q = hi) → boP e q d = boP e' q d := fun q d hq => boP_congr fun y hy t ht => by
        refine (H y ?_ t ht).1
        rcases hq with rfl | rfl <;> simp [hy]
      rw [hv x (by simp)]
      simp only [hb lo _ (.inl rfl), hb hi _ (.inr rfl)]
  case fieldAddr t x f =>
    cases x <;> try rfl
    rename_i s
    have := H (.tmp s) (by simp) s rfl
    simp only [this.1]
  case field t x f => rw [hv x (by simp)]
  case indexAddr t x ix =>
    rw [hv ix (by simp), hv x (by simp)]
    cases x <;> try rfl
    rename_i s
    have := H (.tmp s) (by simp) s rfl
    simp only [this.1]
  case index t x ix => rw [hv ix (by simp), hv x (by simp)]
  case extract x i => rw [hv x (by simp)]
  case call c =>
    split
    · rename_i b hb
      have hv' : ∀ x ∈ c.args.toList, opv e x = opv e' x := fun x hx => hv x (by simp [Call.operands, hb]; simpa using hx)
      unfold builtinP
      split
      · rw [hv' _ (by simp [*])]
      · rw [hv' _ (by simp [*])]; congr; funext u; rw [hv' _ (by simp [*])]
      · rw [hv' _ (by simp [*])]; congr; funext u; rw [hv' _ (by simp [*])]
      · rename_i x y hxy
        have hy : y ∈ c.operands.toList := by
          have : y ∈ c.args.toList := by simp [hxy]
          simp [Call.operands, hb]; simpa using this
        have hs : ∀ n, srcP e y n = srcP e' y n := fun n => srcP_congr fun t ht => (H y hy t ht).1
        rw [hv' x (by simp [hxy])]
        simp only [hs]
      · rfl
    · rename_i f hf
      rw [hv f (by simp [Call.operands, hf]), hvs c.args.toList (by intro x hx; simp [Call.operands, hf]; exact .inr (by simpa using hx))]
    · rfl

end
end Den
