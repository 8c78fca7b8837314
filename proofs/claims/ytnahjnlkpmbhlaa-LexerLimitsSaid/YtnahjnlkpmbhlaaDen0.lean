/-
  Partial heaps, leaf types and the shallow combinators in which the bodies of Go functions are written down. No program in sight.
-/
import Derived.Calls
import Derived.Orders
import Derived.OrdersIn
import Derived.ControlIn
import Derived.RangeFuncIn
import Derived.KernelRfl
namespace Den
open Go

/-- A block of cells. -/
structure Blk where
  cells : List Value
  elem : TypeId
  fz : Nat × Nat

/-- A partial heap: a part of the memory. -/
abbrev Hp := Nat → Option Blk

/-- A slice value. -/
structure Sl where
  a : Option Addr
  len : Nat
  cap : Nat

inductive Lf where
  | int (k : IntKind) | bool | str | sl | ptr | val

abbrev Lf.T : Lf → Type
  | .int _ => Int
  | .bool => Bool
  | .str => ByteArray
  | .sl => Sl
  | .ptr => Option Addr
  | .val => Value

def Lf.up : (l : Lf) → l.T → Value
  | .int k, n => .int k n
  | .bool, b => .bool b
  | .str, s => .string s
  | .sl, s => .slice s.a s.len s.cap
  | .ptr, p => .pointer p
  | .val, v => v

def sameK (k k' : IntKind) (p : Prop) : Prop := match decide (k = k') with | true => p | false => False

def Lf.dn : (l : Lf) → Value → (l.T → Prop) → Prop
  | .int k, .int k' n, K => sameK k k' (K n)
  | .bool, .bool b, K => K b
  | .str, .string s, K => K s
  | .sl, .slice a l c, K => K ⟨a, l, c⟩
  | .ptr, .pointer p, K => K p
  | .val, v, K => K v
  | _, _, _ => False

theorem sameK_iff {k k' : IntKind} {p : Prop} : sameK k k' p ↔ k = k' ∧ p := by
  unfold sameK; by_cases h : k = k' <;> simp [h]

theorem Lf.dn_iff {l : Lf} {v : Value} {K : l.T → Prop} : l.dn v K ↔ ∃ x, v = l.up x ∧ K x := by
  cases l <;> cases v <;> simp [Lf.dn, Lf.up, sameK_iff]
  case int.int k k' n => exact ⟨fun ⟨h, hk⟩ => ⟨n, ⟨h.symm, rfl⟩, hk⟩, fun ⟨x, ⟨h, hx⟩, hk⟩ => ⟨h.symm, hx ▸ hk⟩⟩
  case sl.slice a l c => exact ⟨fun h => ⟨⟨a, l, c⟩, ⟨rfl, rfl, rfl⟩, h⟩, fun ⟨⟨a', l', c'⟩, ⟨h1, h2, h3⟩, h⟩ => by subst h1 h2 h3; exact h⟩

namespace Hp
def le (h h' : Hp) : Prop := ∀ k b, h k = some b → h' k = some b
def cell (h : Hp) (a : Addr) : Option Value :=
  match a.spot with
  | none => (match h a.block with | some b => b.cells[a.off]? | none => none)
  | some _ => none
def add (h g : Hp) : Hp := fun k => match h k with | some b => some b | none => g k
def dj (h g : Hp) : Prop := ∀ k, h k = none ∨ g k = none
def ins (h : Hp) (k : Nat) (b : Blk) : Hp := fun j => if j = k then some b else h j
def emp : Hp := fun _ => none

theorem le_refl (h : Hp) : h.le h := fun _ _ e => e
theorem le_trans {a b c : Hp} (h : a.le b) (h' : b.le c) : a.le c := fun k x e => h' k x (h k x e)
theorem le_add (h g : Hp) : h.le (h.add g) := fun k b e => by simp [add, e]
theorem le_add_right {h g : Hp} (hd : h.dj g) : g.le (h.add g) := fun k b e => by
  rcases hd k with h1 | h1
  · simp [add, h1, e]
  · rw [h1] at e; cases e
theorem add_mono {a b g : Hp} (h : a.le b) (hd : b.dj g) : (a.add g).le (b.add g) := by
  intro k x e
  unfold add at *
  cases ha : a k with
  | some y => rw [ha] at e; simp only at e; rw [h k y ha]; exact e
  | none =>
    rw [ha] at e; simp only at e
    rcases hd k with h1 | h1
    · rw [h1]; exact e
    · rw [h1] at e; cases e
theorem add_emp (h : Hp) : h.add emp = h := by funext k; unfold add emp; cases h k <;> rfl
theorem dj_emp (h : Hp) : h.dj emp := fun _ => .inr rfl
theorem ins_same (h : Hp) (k : Nat) (b : Blk) : h.ins k b k = some b := by simp [ins]
theorem ins_ne {h : Hp} {k j : Nat} {b : Blk} (e : j ≠ k) : h.ins k b j = h j := by simp [ins, e]
theorem le_ins {h : Hp} {k : Nat} {b : Blk} (e : h k = none) : h.le (h.ins k b) := fun j x hx => by
  by_cases hj : j = k
  · subst hj; rw [e] at hx; cases hx
  · rw [ins_ne hj]; exact hx
theorem ins_add {h g : Hp} {k : Nat} {b : Blk} : (h.add g).ins k b = (h.ins k b).add g := by
  funext j; unfold ins add; by_cases hj : j = k <;> simp [hj]
theorem add_ins {h g : Hp} {k : Nat} {b : Blk} (e : h k = none) : (h.add g).ins k b = h.add (g.ins k b) := by
  funext j; unfold ins add; by_cases hj : j = k
  · subst hj; simp [e]
  · simp [hj]
theorem ins_ins {h : Hp} {k : Nat} {b c : Blk} : (h.ins k b).ins k c = h.ins k c := by
  funext j; unfold ins; by_cases hj : j = k <;> simp [hj]
theorem ins_comm {h : Hp} {k j : Nat} {b c : Blk} (e : k ≠ j) : (h.ins k b).ins j c = (h.ins j c).ins k b := by
  funext i; unfold ins; by_cases h1 : i = j
  · subst h1; have : i ≠ k := fun h => e h.symm; simp [this]
  · simp [h1]
theorem dj_ins {h g : Hp} {k : Nat} {b : Blk} (hd : h.dj g) (e : h k = none) : h.dj (g.ins k b) := fun j => by
  by_cases hj : j = k
  · subst hj; exact .inl e
  · rw [ins_ne hj]; exact hd j
theorem add_none {h g : Hp} {k : Nat} : (h.add g) k = none ↔ h k = none ∧ g k = none := by
  unfold add; cases h k <;> simp
/-- A heap has finitely many blocks. -/
def Fin (h : Hp) : Prop := ∃ n, ∀ k, n ≤ k → h k = none
theorem Fin.ins {h : Hp} (hf : h.Fin) {k : Nat} {b : Blk} : (h.ins k b).Fin := by
  obtain ⟨n, hn⟩ := hf
  refine ⟨n + k + 1, fun j hj => ?_⟩
  rw [ins_ne (by omega)]; exact hn j (by omega)
theorem Fin.fresh {h : Hp} (hf : h.Fin) : ∃ b, h b = none := by
  obtain ⟨n, hn⟩ := hf
  exact ⟨n, hn n (Nat.le_refl _)⟩
theorem Fin.sub {h h' : Hp} (hf : h'.Fin) (H : ∀ k, h' k = none → h k = none) : h.Fin := by
  obtain ⟨n, hn⟩ := hf
  exact ⟨n, fun k hk => H k (hn k hk)⟩
theorem cell_le {h h' : Hp} (hl : h.le h') {a : Addr} {v : Value} (e : h.cell a = some v) : h'.cell a = some v := by
  unfold cell at *
  cases hs : a.spot with
  | some x => rw [hs] at e; cases e
  | none =>
    rw [hs] at e; simp only at e ⊢
    cases hb : h a.block with
    | none => rw [hb] at e; cases e
    | some b => rw [hb] at e; rw [hl _ _ hb]; exact e
end Hp

/-- The cells from an address on. -/
def cellsAt (h : Hp) (a : Addr) : Nat → Option (List Value)
  | 0 => some []
  | n + 1 => match cellsAt h a n with
    | some l => (match h.cell (a.add n) with | some v => some (l ++ [v]) | none => none)
    | none => none

def cellsAtO (h : Hp) (a : Option Addr) (n : Nat) : Option (List Value) :=
  match a with
  | some a => cellsAt h a n
  | none => if n = 0 then some [] else none

theorem cellsAt_le {h h' : Hp} (hl : h.le h') {a : Addr} : ∀ {n : Nat} {l : List Value}, cellsAt h a n = some l → cellsAt h' a n = some l
  | 0, _, e => e
  | n + 1, l, e => by
    unfold cellsAt at *
    cases h1 : cellsAt h a n with
    | none => rw [h1] at e; cases e
    | some l1 =>
      rw [h1] at e; rw [cellsAt_le hl h1]; simp only at e ⊢
      cases h2 : h.cell (a.add n) with
      | none => rw [h2] at e; cases e
      | some v => rw [h2] at e; rw [Hp.cell_le hl h2]; exact e

theorem cellsAtO_le {h h' : Hp} (hl : h.le h') {a : Option Addr} {n : Nat} {l : List Value} (e : cellsAtO h a n = some l) : cellsAtO h' a n = some l := by
  cases a with
  | none => exact e
  | some a => exact cellsAt_le hl e

def splice (cs : List Value) (off : Nat) (vs : List Value) : List Value := cs.take off ++ vs ++ cs.drop (off + vs.length)
def repl (n : Nat) (zero : List Value) : List Value := (List.replicate n zero).flatten

def Sl.cut (s : Sl) (l h size : Nat) : Sl := ⟨if s.cap = l then s.a else s.a.map (·.add (l * size)), h - l, s.cap - l⟩

/-- bits of two integers -/
def ibits (op : BinOp) (k : IntKind) (x y : Int) : Int :=
  let a := BitVec.ofInt k.bits x
  let b := BitVec.ofInt k.bits y
  match op with
  | .and => k.wrap (a &&& b).toNat
  | .or => k.wrap (a ||| b).toNat
  | .xor => k.wrap (a ^^^ b).toNat
  | _ => k.wrap (a &&& ~~~b).toNat

/-! ### The combinators -/

def ifP (t : Bool) (A B : Prop) : Prop := match t with | true => A | false => B
theorem ifP_intro {t : Bool} {A B : Prop} (ha : t = true → A) (hb : t = false → B) : ifP t A B := by
  cases t
  · exact hb rfl
  · exact ha rfl

def ldL (l : Lf) (a : Addr) (K : l.T → Prop) (h : Hp) : Prop := ∃ x : l.T, h.cell a = some (l.up x) ∧ K x
def ptrK (p : Option Addr) (K : Addr → Prop) : Prop := match p with | some a => K a | none => False
def idxP (x : Sl) (i : Int) (size : Nat) (K : Addr → Prop) : Prop := 0 ≤ i ∧ i < x.len ∧ ptrK x.a fun a => K (a.add (i.toNat * size))
def slP (x : Sl) (lo hi : Int) (size : Nat) (K : Sl → Prop) : Prop := 0 ≤ lo ∧ lo ≤ hi ∧ hi ≤ x.cap ∧ K (x.cut lo.toNat hi.toNat size)
def strIdx (s : ByteArray) (i : Int) (K : Int → Prop) : Prop := 0 ≤ i ∧ ∃ b, s[i.toNat]? = some b ∧ K (b.toNat : Int)
def strCut (s : ByteArray) (lo hi : Int) (K : ByteArray → Prop) : Prop := 0 ≤ lo ∧ lo ≤ hi ∧ hi ≤ s.size ∧ K (s.extract lo.toNat hi.toNat)
def Value.leaf : Value → Bool
  | .agg _ | .tuple _ => false
  | _ => true
def stP (a : Addr) (vs : List Value) (K : Hp → Prop) (h : Hp) : Prop :=
  ∃ b, h a.block = some b ∧ a.spot = none ∧ b.fz = (0, 0) ∧ a.off + vs.length ≤ b.cells.length ∧ vs.all Value.leaf = true ∧ K (h.ins a.block { b with cells := splice b.cells a.off vs })
def newP (cells : List Value) (K : Addr → Hp → Prop) (h : Hp) : Prop :=
  ∀ b e, h b = none → K ⟨b, 0, none⟩ (h.ins b ⟨cells, e, (0, 0)⟩)
def mkP (len cap : Int) (bytes : Nat) (zero : List Value) (K : Sl → Hp → Prop) (h : Hp) : Prop :=
  0 ≤ len ∧ len ≤ cap ∧ bytes * cap ≤ 140737488355328 ∧ cap ≤ 140737488355328 ∧ newP (repl cap.toNat zero) (fun a => K ⟨some a, len.toNat, cap.toNat⟩) h
def stO (a : Option Addr) (off : Nat) (vs : List Value) (K : Hp → Prop) (h : Hp) : Prop :=
  match a with
  | some a => stP (a.add off) vs K h
  | none => K h
def appP (size bytes : Nat) (zero : List Value) (x : Sl) (n : Nat) (new : List Value) (K : Sl → Hp → Prop) (h : Hp) : Prop :=
  (x.len + n) * bytes ≤ 140737488355328 ∧ x.len + n ≤ 140737488355328 ∧
  (x.len + n ≤ x.cap → stO x.a (x.len * size) new (K ⟨x.a, x.len + n, x.cap⟩) h) ∧
  (x.cap < x.len + n → ∃ old, cellsAtO h x.a (x.len * size) = some old ∧ ∀ b e c, x.len + n ≤ c → h b = none →
    K ⟨some ⟨b, 0, none⟩, x.len + n, c⟩ (h.ins b ⟨old ++ new ++ repl (c - (x.len + n)) zero, e, (0, 0)⟩))
def rdO (a : Option Addr) (n : Nat) (K : List Value → Prop) (h : Hp) : Prop := ∃ l, cellsAtO h a n = some l ∧ K l

/-- The text of a slice of bytes. -/
def toStr (x : Sl) (K : ByteArray → Prop) (h : Hp) : Prop := ∃ bs : List UInt8, cellsAtO h x.a x.len = some (bs.map fun b => .int .u8 b.toNat) ∧ K ⟨bs.toArray⟩
/-- The bytes of a text, in memory of their own. -/
def bytesOfS (s : ByteArray) : List Value := s.data.toList.map fun b => .int .u8 b.toNat
def bytesP (s : ByteArray) (K : Sl → Hp → Prop) (h : Hp) : Prop :=
  ∀ b e c fz, s.size ≤ c → h b = none → K ⟨some ⟨b, 0, none⟩, s.size, c⟩ (h.ins b ⟨bytesOfS s ++ List.replicate (c - s.size) (.int .u8 0), e, fz⟩)

/-- A call of a function that changes nothing that was there. What the callee does not need may be framed off. -/
def callP {α : Type} (G : (α → Hp → Prop) → Hp → Prop) (K : α → Hp → Prop) (h : Hp) : Prop :=
  ∃ (D O : Hp) (Q : α → Hp → Prop), D.dj O ∧ h = D.add O ∧ G Q D ∧ ∀ v D', Q v D' → D.le D' ∧ (D'.dj O → (D'.add O).Fin → K v (D'.add O))
/-- A call of a function that may change what was there. -/
def callM {α : Type} (G : (α → Hp → Prop) → Hp → Prop) (K : α → Hp → Prop) (h : Hp) : Prop :=
  ∃ (D O : Hp) (Q : α → Hp → Prop), D.dj O ∧ h = D.add O ∧ G Q D ∧ ∀ v D', Q v D' → D'.dj O → K v (D'.add O)

def joinP {S : Type} (k : S → Hp → Prop) (body : (S → Hp → Prop) → Prop) : Prop :=
  ∃ J : S → Hp → Prop, (∀ s h, J s h → k s h) ∧ body J
def loopP {S : Type} (body : S → (S → Hp → Prop) → Hp → Prop) (s0 : S) (h0 : Hp) : Prop :=
  ∃ (I : S → Hp → Prop) (μ : S → Hp → Nat), I s0 h0 ∧ ∀ s h, I s h → body s (fun s' h' => I s' h' ∧ μ s' h' < μ s h) h

end Den
