/-
  Types of arguments and results.
-/
import Derived.Test.YtnahjnlkpmbhlaaDen16
namespace Den
open Go

def Ty.leaf (l : Lf) : Ty l.T where
  up := l.up
  dn := l.dn
  snd _ _ h := Lf.dn_iff.1 h
  cmp x K := ⟨fun h => by
    obtain ⟨y, h1, h2⟩ := Lf.dn_iff.1 h
    have : x = y := by
      cases l with
      | int k => injection h1
      | bool => injection h1
      | str => injection h1
      | ptr => injection h1
      | val => exact h1
      | sl => injection h1 with h1 h3 h4; cases x; cases y; simp only at h1 h3 h4; subst h1 h3 h4; rfl
    exact this ▸ h2, fun h => Lf.dn_iff.2 ⟨x, rfl, h⟩⟩

theorem Lf.up_inj {l : Lf} {x y : l.T} (h : l.up x = l.up y) : x = y :=
  ((Ty.leaf l).cmp x (fun z => z = y)).1 (Lf.dn_iff.2 ⟨y, h, rfl⟩)
theorem LT.up_inj : ∀ {ls : List Lf} {x y : LT ls}, LT.up ls x = LT.up ls y → x = y
  | [], _, _, _ => rfl
  | _ :: _, x, y, h => by
    injection h with h1 h2
    exact Prod.ext (Lf.up_inj h1) (LT.up_inj h2)

def Ty.agg {α : Type} (ls : List Lf) (f : α → LT ls) (g : LT ls → α) (h1 : ∀ x, g (f x) = x) (h2 : ∀ y, f (g y) = y) : Ty α where
  up x := .agg (LT.up ls (f x)).toArray
  dn v K := match v with
    | .agg cs => LT.dn ls cs.toList fun y => K (g y)
    | _ => False
  snd v K h := by
    cases v <;> simp only at h <;> try exact h.elim
    obtain ⟨y, h3, h4⟩ := LT.dn_iff.1 h
    exact ⟨g y, by rw [h2, ← h3], h4⟩
  cmp x K := ⟨fun h => by
    obtain ⟨y, h3, h4⟩ := LT.dn_iff.1 h
    rw [← LT.up_inj h3, h1] at h4; exact h4, fun h => LT.dn_iff.2 ⟨f x, rfl, by rw [h1]; exact h⟩⟩

def ArgT.nil : ArgT Unit where
  up _ := []
  dn vs K := match vs with | [] => K () | _ => False
  snd vs K h := by cases vs <;> simp only at h; exact ⟨(), rfl, h⟩
  cmp _ _ := Iff.rfl

def ArgT.cons {α β : Type} (T : Ty α) (A : ArgT β) : ArgT (α × β) where
  up x := T.up x.1 :: A.up x.2
  dn vs K := match vs with | v :: r => T.dn v fun x => A.dn r fun y => K (x, y) | _ => False
  snd vs K h := by
    cases vs <;> simp only at h
    obtain ⟨x, rfl, h1⟩ := T.snd _ _ h
    obtain ⟨y, rfl, h2⟩ := A.snd _ _ h1
    exact ⟨(x, y), rfl, h2⟩
  cmp x K := by
    show T.dn (T.up x.1) _ ↔ _
    rw [T.cmp, A.cmp]

/-- A closed function as an argument. -/
def ArgT.fn {α : Type} (g : Nat) (A : ArgT α) : ArgT α where
  up x := .func (.func g) #[] #[] :: A.up x
  dn vs K := match vs with
    | .func (.func g') ⟨[]⟩ ⟨[]⟩ :: r => (match decide (g' = g) with | true => A.dn r K | false => False)
    | _ => False
  snd vs K h := by
    split at h
    · split at h
      · rename_i hg
        obtain ⟨y, rfl, h2⟩ := A.snd _ _ h
        rw [of_decide_eq_true hg]
        exact ⟨y, rfl, h2⟩
      · exact h.elim
    · exact h.elim
  cmp x K := by
    show (match decide (g = g) with | true => A.dn (A.up x) K | false => False) ↔ _
    rw [decide_eq_true (rfl : g = g)]
    exact A.cmp x K

def Ty.tup {α β : Type} (A : ArgT α) (f : β → α) (g : α → β) (h1 : ∀ x, g (f x) = x) (h2 : ∀ y, f (g y) = y) : Ty β where
  up x := .tuple (A.up (f x)).toArray
  dn v K := match v with
    | .tuple vs => A.dn vs.toList fun y => K (g y)
    | _ => False
  snd v K h := by
    cases v <;> simp only at h <;> try exact h.elim
    obtain ⟨y, h3, h4⟩ := A.snd _ _ h
    exact ⟨g y, by rw [h2, ← h3], h4⟩
  cmp x K := by
    show A.dn (A.up (f x)) _ ↔ _
    rw [A.cmp, h1]

/-- Two instances of one function: argument i tells which. -/
def selE (i g1 : Nat) (e1 e2 : FSem) : FSem := fun args =>
  match args[i]? with
  | some (.func (.func g) _ _) => bif Nat.beq g g1 then e1 args else e2 args
  | _ => e2 args
theorem selE_entry {P : Program} {g : Nat} {e1 e2 : FSem} {m : Bool} (i g1 : Nat) (h1 : Entry P g e1 m) (h2 : Entry P g e2 m) : Entry P g (selE i g1 e1 e2) m := by
  have hs : ∀ args, selE i g1 e1 e2 args = e1 args ∨ selE i g1 e1 e2 args = e2 args := fun args => by
    unfold selE
    split
    · rename_i g' _ _ _
      cases Nat.beq g' g1
      · exact .inr rfl
      · exact .inl rfl
    · exact .inr rfl
  refine ⟨⟨h1.fn.1, fun args K h w hsub hk => ?_⟩, fun hm args => ?_, fun args K K' h hkk hk => ?_⟩
  · rcases hs args with ha | ha <;> rw [ha] at hk
    · exact h1.fn.2 args K h w hsub hk
    · exact h2.fn.2 args K h w hsub hk
  · rcases hs args with ha | ha <;> rw [ha]
    · exact h1.like hm args
    · exact h2.like hm args
  · rcases hs args with ha | ha <;> rw [ha] at hk ⊢
    · exact h1.mono args K K' h hkk hk
    · exact h2.mono args K K' h hkk hk

def Ty.unit : Ty Unit where
  up _ := .tuple #[]
  dn v K := match v with | .tuple ⟨[]⟩ => K () | _ => False
  snd v K h := by split at h; exact ⟨(), rfl, h⟩; exact h.elim
  cmp _ _ := Iff.rfl

end Den
