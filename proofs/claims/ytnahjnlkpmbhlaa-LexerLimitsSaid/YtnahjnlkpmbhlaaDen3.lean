/-
  The relation between the symbolic state of 'den' and a frame and world of the model; how it is kept.
-/
import Derived.Test.YtnahjnlkpmbhlaaDen2
namespace Den
open Go

def Fr (D : Hp) (w w' : World) : Prop :=
  w.heap.size ≤ w'.heap.size ∧ (∀ k, k < w.heap.size → D k = none → w'.heap[k]? = w.heap[k]?) ∧ w'.tape = w.tape ∧ w'.os = w.os ∧ w'.output = w.output ∧ w.drawn ≤ w'.drawn

theorem Fr.refl (D : Hp) (w : World) : Fr D w w := ⟨Nat.le_refl _, fun _ _ _ => rfl, rfl, rfl, rfl, Nat.le_refl _⟩

def Post (K : Value → Hp → Prop) (D : Hp) (w : World) : Ending → World → Prop := fun e w' =>
  ∃ v h', e = .returned v ∧ K v h' ∧ Sub h' w' ∧ Fr D w w' ∧ ∀ k, h' k ≠ none → D k = none → w.heap.size ≤ k

def isHid : Slot → Bool
  | .box _ | .lit _ _ => true
  | _ => false
def hidV (b : Nat) : Slot → Value
  | .lit _ n => .slice (some ⟨b, 0, none⟩) n n
  | _ => .pointer (some ⟨b, 0, none⟩)
def hidC : Slot → List Value
  | .box cs => cs
  | .lit cs _ => cs
  | _ => []

structure Base where
  D : Hp
  w : World

structure Rel (C : Cfg) (B : Base) (e : Env) (h : Hp) (a : Act) (w : World) : Prop where
  sub : Sub h w
  sz : a.tmps.size = C.n
  defers : a.defers = []
  fr : Fr B.D B.w w
  dom : ∀ k, h k ≠ none → B.D k = none → B.w.heap.size ≤ k
  vals : ∀ t v, e t = .val v → a.tmps[t]? = some v
  hid : ∀ t, isHid (e t) = true → C.loc t = true ∧ ∃ b el, a.tmps[t]? = some (hidV b (e t)) ∧ w.heap[b]? = some (.cells (hidC (e t)).toArray el (0, 0)) ∧ h b = none ∧ B.w.heap.size ≤ b
  inj : ∀ t t' b, isHid (e t) = true → isHid (e t') = true → a.tmps[t]? = some (hidV b (e t)) → a.tmps[t']? = some (hidV b (e t')) → t = t'
  refs : ∀ t off, e t = .ref off → ∃ cs b, e (C.rt t) = .box cs ∧ a.tmps[C.rt t]? = some (.pointer (some ⟨b, 0, none⟩)) ∧ a.tmps[t]? = some (.pointer (some ⟨b, off, none⟩))

section
variable {C : Cfg} {B : Base} {e : Env} {h : Hp} {a : Act} {w : World}

theorem beqF {t d : Nat} (hn : t ≠ d) : Nat.beq t d = false := by
  cases hb : Nat.beq t d with
  | false => rfl
  | true => exact absurd (Nat.eq_of_beq_eq_true hb) hn
theorem beqT (t : Nat) : Nat.beq t t = true := Nat.beq_refl t

@[simp] theorem Env.set_same (e : Env) (d : Nat) (s : Slot) : e.set d s d = s := by simp [Env.set]
theorem Env.set_ne {e : Env} {d t : Nat} {s : Slot} (hn : t ≠ d) : e.set d s t = e t := by simp [Env.set, beqF hn]

theorem put_same {d : Nat} {v : Value} (hd : d < a.tmps.size) : (a.put (some d) v).tmps[d]? = some v := by
  simp [Act.put, Array.getElem?_setIfInBounds, hd]
theorem put_ne {d t : Nat} {v : Value} (hn : t ≠ d) : (a.put (some d) v).tmps[t]? = a.tmps[t]? := by
  simp [Act.put, Array.getElem?_setIfInBounds, Ne.symm hn]
theorem put_size {d : Option Nat} {v : Value} : (a.put d v).tmps.size = a.tmps.size := by cases d <;> simp [Act.put]
theorem put_defers {d : Option Nat} {v : Value} : (a.put d v).defers = a.defers := by cases d <;> simp [Act.put]

theorem hidV_inj {b b' : Nat} {s : Slot} (h : hidV b s = hidV b' s) : b = b' := by
  cases s <;> simp [hidV] at h <;> exact h

theorem Rel.setVal (hR : Rel C B e h a w) {d : Nat} {v : Value} (hl : C.loc d = false) (hd : d < C.n) : Rel C B (e.set d (.val v)) h (a.put (some d) v) w where
  sub := hR.sub
  sz := by rw [put_size]; exact hR.sz
  defers := by rw [put_defers]; exact hR.defers
  fr := hR.fr
  dom := hR.dom
  vals := fun t u ht => by
    by_cases htd : t = d
    · subst htd; rw [Env.set_same] at ht; cases ht; exact put_same (by rw [hR.sz]; exact hd)
    · rw [Env.set_ne htd] at ht; rw [put_ne htd]; exact hR.vals t u ht
  hid := fun t ht => by
    by_cases htd : t = d
    · subst htd; rw [Env.set_same] at ht; cases ht
    · rw [Env.set_ne htd] at ht ⊢; rw [put_ne htd]; exact hR.hid t ht
  inj := fun t t' b h1 h2 h3 h4 => by
    by_cases htd : t = d
    · subst htd; rw [Env.set_same] at h1; cases h1
    · by_cases htd' : t' = d
      · subst htd'; rw [Env.set_same] at h2; cases h2
      · rw [Env.set_ne htd] at h1 h3; rw [Env.set_ne htd'] at h2 h4; rw [put_ne htd] at h3; rw [put_ne htd'] at h4
        exact hR.inj t t' b h1 h2 h3 h4
  refs := fun t off ht => by
    by_cases htd : t = d
    · subst htd; rw [Env.set_same] at ht; cases ht
    · rw [Env.set_ne htd] at ht
      obtain ⟨cs, b, h1, h2, h3⟩ := hR.refs t off ht
      have hr : C.rt t ≠ d := fun hh => by
        have := (hR.hid (C.rt t) (by rw [h1]; rfl)).1
        rw [hh, hl] at this; cases this
      exact ⟨cs, b, by rw [Env.set_ne hr]; exact h1, by rw [put_ne hr]; exact h2, by rw [put_ne htd]; exact h3⟩

theorem Rel.setRef (hR : Rel C B e h a w) {d b off : Nat} {cs : List Value} (hl : C.loc d = false) (hd : d < C.n) (hb : e (C.rt d) = .box cs)
    (hp : a.tmps[C.rt d]? = some (.pointer (some ⟨b, 0, none⟩))) : Rel C B (e.set d (.ref off)) h (a.put (some d) (.pointer (some ⟨b, off, none⟩))) w where
  sub := hR.sub
  sz := by rw [put_size]; exact hR.sz
  defers := by rw [put_defers]; exact hR.defers
  fr := hR.fr
  dom := hR.dom
  vals := fun t u ht => by
    by_cases htd : t = d
    · subst htd; rw [Env.set_same] at ht; cases ht
    · rw [Env.set_ne htd] at ht; rw [put_ne htd]; exact hR.vals t u ht
  hid := fun t ht => by
    by_cases htd : t = d
    · subst htd; rw [Env.set_same] at ht; cases ht
    · rw [Env.set_ne htd] at ht ⊢; rw [put_ne htd]; exact hR.hid t ht
  inj := fun t t' b h1 h2 h3 h4 => by
    by_cases htd : t = d
    · subst htd; rw [Env.set_same] at h1; cases h1
    · by_cases htd' : t' = d
      · subst htd'; rw [Env.set_same] at h2; cases h2
      · rw [Env.set_ne htd] at h1 h3; rw [Env.set_ne htd'] at h2 h4; rw [put_ne htd] at h3; rw [put_ne htd'] at h4
        exact hR.inj t t' b h1 h2 h3 h4
  refs := fun t off' ht => by
    have hrd : ∀ t', (∃ cs, e t' = .box cs) → t' ≠ d := fun t' ⟨cs, h1⟩ hh => by
      have := (hR.hid t' (by rw [h1]; rfl)).1
      rw [hh, hl] at this; cases this
    by_cases htd : t = d
    · subst htd; rw [Env.set_same] at ht; cases ht
      have hr := hrd _ ⟨cs, hb⟩
      exact ⟨cs, b, by rw [Env.set_ne hr]; exact hb, by rw [put_ne hr]; exact hp, put_same (by rw [hR.sz]; exact hd)⟩
    · rw [Env.set_ne htd] at ht
      obtain ⟨cs, b, h1, h2, h3⟩ := hR.refs t off' ht
      have hr := hrd _ ⟨cs, h1⟩
      exact ⟨cs, b, by rw [Env.set_ne hr]; exact h1, by rw [put_ne hr]; exact h2, by rw [put_ne htd]; exact h3⟩

theorem block_lt {o : Obj} {b : Nat} (hb : w.heap[b]? = some o) : b < w.heap.size := by
  rcases Nat.lt_or_ge b w.heap.size with h' | h'
  · exact h'
  · rw [Array.getElem?_eq_none h'] at hb; cases hb

/-- The known part of the memory has changed, and the rest has not. -/
theorem Rel.step (hR : Rel C B e h a w) {h' : Hp} {w' : World} (hs : Sub h' w') (hf : Fr h w w') (hd : ∀ k, h' k ≠ none → h k = none → w.heap.size ≤ k) : Rel C B e h' a w' where
  sub := hs
  sz := hR.sz
  defers := hR.defers
  fr := by
    obtain ⟨a1, a2, a3, a4, a5, a6⟩ := hR.fr
    obtain ⟨b1, b2, b3, b4, b5, b6⟩ := hf
    refine ⟨Nat.le_trans a1 b1, fun k hk hD => ?_, b3.trans a3, b4.trans a4, b5.trans a5, Nat.le_trans a6 b6⟩
    have hk' : h k = none := by
      cases hh : h k with
      | none => rfl
      | some x => have := hR.dom k (by simp [hh]) hD; omega
    rw [b2 k (by omega) hk', a2 k hk hD]
  dom := fun k hk hD => by
    cases hh : h k with
    | none => have := hd k hk hh; have := hR.fr.1; omega
    | some x => exact hR.dom k (by simp [hh]) hD
  vals := hR.vals
  hid := fun t ht => by
    obtain ⟨h1, b, el, h2, h3, h4, h5⟩ := hR.hid t ht
    have hlt := block_lt h3
    refine ⟨h1, b, el, h2, by rw [hf.2.1 b hlt h4]; exact h3, ?_, h5⟩
    cases hh : h' b with
    | none => rfl
    | some x => have := hd b (by simp [hh]) h4; omega
  inj := hR.inj
  refs := hR.refs

theorem Env.alloc_same (rt : Nat → Nat) (e : Env) (d : Nat) (s : Slot) : e.alloc rt d s d = s := by simp [Env.alloc]
theorem Env.alloc_ne {rt : Nat → Nat} {e : Env} {d t : Nat} {s : Slot} (hn : t ≠ d) (hx : ∀ o, e t ≠ .ref o) : e.alloc rt d s t = e t := by
  unfold Env.alloc; rw [beqF hn]
  show (match e t with | .ref o => bif Nat.beq (rt t) d then Slot.junk else .ref o | x => x) = e t
  cases he : e t with
  | ref o => exact absurd he (hx o)
  | _ => rfl
theorem Env.alloc_val {rt : Nat → Nat} {e : Env} {d t : Nat} {s x : Slot} (hn : t ≠ d) (hx : e.alloc rt d s t = x) (hj : x ≠ .junk) : e t = x ∧ (∀ o, x = .ref o → rt t ≠ d) := by
  unfold Env.alloc at hx; simp only [beqF hn, cond_false] at hx
  cases he : e t with
  | ref o =>
    rw [he] at hx; simp only at hx
    by_cases hr : rt t = d
    · have : Nat.beq (rt t) d = true := by simp [hr]
      rw [this] at hx; simp at hx; exact absurd hx.symm hj
    · rw [beqF hr] at hx; simp at hx; exact ⟨hx, fun _ _ => hr⟩
  | _ => rw [he] at hx; simp only at hx; exact ⟨hx, fun o ho => by rw [ho] at hx; cases hx⟩

theorem alloc_old {o : Obj} {k : Nat} (hk : k < w.heap.size) : (w.alloc o).heap[k]? = w.heap[k]? := by
  show (w.heap.push o)[k]? = _
  rw [Array.getElem?_push, if_neg (Nat.ne_of_lt hk)]
theorem alloc_new {o : Obj} : (w.alloc o).heap[w.heap.size]? = some o := by
  show (w.heap.push o)[w.heap.size]? = _
  simp

theorem Fr.alloc (D : Hp) (w : World) (o : Obj) : Fr D w (w.alloc o) :=
  ⟨by simp, fun k hk _ => alloc_old hk, rfl, rfl, rfl, Nat.le_refl _⟩
theorem Sub.alloc (hs : Sub h w) (o : Obj) : Sub h (w.alloc o) := fun k b hk => by rw [alloc_old (hs.lt hk)]; exact hs k b hk

/-- A hidden block is made. -/
theorem Rel.allocHid (hR : Rel C B e h a w) {d : Nat} {s : Slot} {el : TypeId} (hl : C.loc d = true) (hd : d < C.n) (hs : isHid s = true) :
    Rel C B (e.alloc C.rt d s) h (a.put (some d) (hidV w.heap.size s)) (w.alloc (.cells (hidC s).toArray el (0, 0))) where
  sub := hR.sub.alloc _
  sz := by rw [put_size]; exact hR.sz
  defers := by rw [put_defers]; exact hR.defers
  fr := (hR.step (hR.sub.alloc _) (Fr.alloc h w _) (fun k h1 h2 => absurd h2 h1)).fr
  dom := hR.dom
  vals := fun t u ht => by
    by_cases htd : t = d
    · subst htd; rw [Env.alloc_same] at ht; subst ht; cases hs
    · rw [put_ne htd]; exact hR.vals t u (Env.alloc_val htd ht (by simp)).1
  hid := fun t ht => by
    by_cases htd : t = d
    · subst htd
      rw [Env.alloc_same]
      refine ⟨hl, w.heap.size, el, put_same (by rw [hR.sz]; exact hd), alloc_new, ?_, hR.fr.1⟩
      exact hR.sub.fresh (Nat.le_refl _)
    · have he := Env.alloc_val htd (rfl : e.alloc C.rt d s t = _) (by intro hh; rw [hh] at ht; cases ht)
      rw [← he.1] at ht ⊢
      obtain ⟨h1, b, el', h2, h3, h4, h5⟩ := hR.hid t ht
      exact ⟨h1, b, el', by rw [put_ne htd]; exact h2, by rw [alloc_old (block_lt h3)]; exact h3, h4, h5⟩
  inj := fun t t' b h1 h2 h3 h4 => by
    have old : ∀ t b, t ≠ d → isHid (e.alloc C.rt d s t) = true → (a.put (some d) (hidV w.heap.size s)).tmps[t]? = some (hidV b (e.alloc C.rt d s t)) →
        isHid (e t) = true ∧ a.tmps[t]? = some (hidV b (e t)) ∧ b < w.heap.size := fun t b htd i1 i2 => by
      have he := Env.alloc_val htd (rfl : e.alloc C.rt d s t = _) (by intro hh; rw [hh] at i1; cases i1)
      rw [← he.1] at i1 i2; rw [put_ne htd] at i2
      obtain ⟨_, b', el', j2, j3, _, _⟩ := hR.hid t i1
      rw [i2] at j2
      have := hidV_inj (Option.some.inj j2)
      subst this
      exact ⟨i1, i2, block_lt j3⟩
    have new : ∀ b, (a.put (some d) (hidV w.heap.size s)).tmps[d]? = some (hidV b (e.alloc C.rt d s d)) → b = w.heap.size := fun b i2 => by
      rw [put_same (by rw [hR.sz]; exact hd), Env.alloc_same] at i2
      exact (hidV_inj (Option.some.inj i2)).symm
    by_cases htd : t = d
    · by_cases htd' : t' = d
      · rw [htd, htd']
      · subst htd; have := new b h3; have := (old t' b htd' h2 h4).2.2; omega
    · by_cases htd' : t' = d
      · subst htd'; have := new b h4; have := (old t b htd h1 h3).2.2; omega
      · obtain ⟨i1, i2, _⟩ := old t b htd h1 h3
        obtain ⟨j1, j2, _⟩ := old t' b htd' h2 h4
        exact hR.inj t t' b i1 j1 i2 j2
  refs := fun t off ht => by
    by_cases htd : t = d
    · subst htd; rw [Env.alloc_same] at ht; subst ht; cases hs
    · obtain ⟨he, hr⟩ := Env.alloc_val htd ht (by simp)
      have hr := hr off rfl
      obtain ⟨cs, b, h1, h2, h3⟩ := hR.refs t off he
      refine ⟨cs, b, ?_, by rw [put_ne hr]; exact h2, by rw [put_ne htd]; exact h3⟩
      rw [Env.alloc_ne hr (by intro o ho; rw [h1] at ho; cases ho)]; exact h1

/-- A slot of a hidden block is forgotten. -/
theorem Rel.allocJunk (hR : Rel C B e h a w) {d : Nat} {v : Value} (hl : C.loc d = true) : Rel C B (e.alloc C.rt d .junk) h (a.put (some d) v) w where
  sub := hR.sub
  sz := by rw [put_size]; exact hR.sz
  defers := by rw [put_defers]; exact hR.defers
  fr := hR.fr
  dom := hR.dom
  vals := fun t u ht => by
    by_cases htd : t = d
    · subst htd; rw [Env.alloc_same] at ht; cases ht
    · rw [put_ne htd]; exact hR.vals t u (Env.alloc_val htd ht (by simp)).1
  hid := fun t ht => by
    by_cases htd : t = d
    · subst htd; rw [Env.alloc_same] at ht; cases ht
    · have he := Env.alloc_val htd (rfl : e.alloc C.rt d .junk t = _) (by intro hh; rw [hh] at ht; cases ht)
      rw [← he.1] at ht ⊢
      rw [put_ne htd]; exact hR.hid t ht
  inj := fun t t' b h1 h2 h3 h4 => by
    by_cases htd : t = d
    · subst htd; rw [Env.alloc_same] at h1; cases h1
    · by_cases htd' : t' = d
      · subst htd'; rw [Env.alloc_same] at h2; cases h2
      · have he := Env.alloc_val htd (rfl : e.alloc C.rt d .junk t = _) (by intro hh; rw [hh] at h1; cases h1)
        have he' := Env.alloc_val htd' (rfl : e.alloc C.rt d .junk t' = _) (by intro hh; rw [hh] at h2; cases h2)
        rw [← he.1] at h1 h3; rw [← he'.1] at h2 h4; rw [put_ne htd] at h3; rw [put_ne htd'] at h4
        exact hR.inj t t' b h1 h2 h3 h4
  refs := fun t off ht => by
    by_cases htd : t = d
    · subst htd; rw [Env.alloc_same] at ht; cases ht
    · obtain ⟨he, hr⟩ := Env.alloc_val htd ht (by simp)
      have hr := hr off rfl
      obtain ⟨cs, b, h1, h2, h3⟩ := hR.refs t off he
      refine ⟨cs, b, ?_, by rw [put_ne hr]; exact h2, by rw [put_ne htd]; exact h3⟩
      rw [Env.alloc_ne hr (by intro o ho; rw [h1] at ho; cases ho)]; exact h1

/-- A hidden block is written. -/
theorem Rel.setBox (hR : Rel C B e h a w) {s b : Nat} {cs cs' : List Value} {el : TypeId} (hb : e s = .box cs) (hp : a.tmps[s]? = some (.pointer (some ⟨b, 0, none⟩))) {w' : World}
    (hn : w'.heap[b]? = some (.cells cs'.toArray el (0, 0))) (ho : ∀ k, k ≠ b → w'.heap[k]? = w.heap[k]?) (hz : w'.heap.size = w.heap.size)
    (ht : w'.tape = w.tape) (hos : w'.os = w.os) (hout : w'.output = w.output) (hdr : w.drawn ≤ w'.drawn) : Rel C B (e.set s (.box cs')) h a w' := by
  obtain ⟨hl, b', el', h2, h3, h4, h5⟩ := hR.hid s (by rw [hb]; rfl)
  rw [hb] at h2; simp only [hidV] at h2
  have hbb : b' = b := by rw [hp] at h2; simpa using h2.symm
  subst hbb
  have hsub : Sub h w' := fun k x hk => by
    have hne : k ≠ b' := fun hh => by rw [hh, h4] at hk; cases hk
    rw [ho k hne]; exact hR.sub k x hk
  refine ⟨hsub, hR.sz, hR.defers, ?_, hR.dom, ?_, ?_, ?_, ?_⟩
  · obtain ⟨a1, a2, a3, a4, a5, a6⟩ := hR.fr
    refine ⟨by omega, fun k hk hD => ?_, ht.trans a3, hos.trans a4, hout.trans a5, Nat.le_trans a6 hdr⟩
    rw [ho k (by omega)]; exact a2 k hk hD
  · intro t u htu
    by_cases hts : t = s
    · subst hts; rw [Env.set_same] at htu; cases htu
    · rw [Env.set_ne hts] at htu; exact hR.vals t u htu
  · intro t hh
    by_cases hts : t = s
    · subst hts; rw [Env.set_same]; exact ⟨hl, b', el, hp, hn, h4, h5⟩
    · rw [Env.set_ne hts] at hh ⊢
      obtain ⟨i1, c, el2, i2, i3, i4, i5⟩ := hR.hid t hh
      refine ⟨i1, c, el2, i2, ?_, i4, i5⟩
      rw [ho c ?_]; exact i3
      intro hcb; subst hcb
      exact hts (hR.inj t s c hh (by rw [hb]; rfl) i2 (by rw [hb]; exact hp))
  · intro t t' c i1 i2 i3 i4
    have back : ∀ t c, isHid (e.set s (.box cs') t) = true → a.tmps[t]? = some (hidV c (e.set s (.box cs') t)) → isHid (e t) = true ∧ a.tmps[t]? = some (hidV c (e t)) := fun t c j1 j2 => by
      by_cases hts : t = s
      · subst hts; rw [Env.set_same] at j1 j2; rw [hb]; exact ⟨rfl, j2⟩
      · rw [Env.set_ne hts] at j1 j2; exact ⟨j1, j2⟩
    obtain ⟨k1, k2⟩ := back t c i1 i3
    obtain ⟨l1, l2⟩ := back t' c i2 i4
    exact hR.inj t t' c k1 l1 k2 l2
  · intro t off hto
    have hts : t ≠ s := fun hh => by subst hh; rw [Env.set_same] at hto; cases hto
    rw [Env.set_ne hts] at hto
    obtain ⟨cs2, c, i1, i2, i3⟩ := hR.refs t off hto
    by_cases hrs : C.rt t = s
    · exact ⟨cs', c, by rw [hrs, Env.set_same], i2, i3⟩
    · exact ⟨cs2, c, by rw [Env.set_ne hrs]; exact i1, i2, i3⟩

theorem Rel.setSame (hR : Rel C B e h a w) {d : Nat} {s : Slot} (hs : e d = s) : e.set d s = e := by
  funext t; by_cases ht : t = d
  · subst ht; rw [Env.set_same, hs]
  · rw [Env.set_ne ht]

end
end Den
