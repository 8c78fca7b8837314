/-
  'den': what a piece of code means over partial heaps, as a predicate transformer that the kernel can unfold.
-/
import Derived.Test.YtnahjnlkpmbhlaaDen0
import Derived.Laws.Tables
namespace Den
open Go

inductive Slot where
  | val (v : Value)
  | box (cs : List Value)
  | lit (cs : List Value) (n : Nat)
  | ref (off : Nat)
  | junk

abbrev Env := Nat → Slot

inductive Up where
  | none
  | set (d : Nat) (s : Slot)
  | alloc (d : Nat) (s : Slot)

abbrev FSem := List Value → (Value → Hp → Prop) → Hp → Prop

def memN (t : Nat) : List Nat → Bool
  | [] => false
  | x :: r => bif Nat.beq t x then true else memN t r
def lookN (t : Nat) : List (Nat × Nat) → Nat
  | [] => t
  | (x, y) :: r => bif Nat.beq t x then y else lookN t r
def lookF (g : Nat) : List (Nat × FSem) → FSem
  | [] => fun _ _ _ => False
  | (x, y) :: r => bif Nat.beq g x then y else lookF g r

/-- The program, the number of slots, what the callees mean, the callees that change what was there, the roots of references, the local slots. -/
structure Cfg where
  P : Program
  n : Nat
  tab : List (Nat × FSem)
  mutL : List Nat
  rtL : List (Nat × Nat)
  locL : List Nat

def Cfg.f (C : Cfg) (g : FuncId) : FSem := lookF g C.tab
def Cfg.muts (C : Cfg) (g : FuncId) : Bool := memN g C.mutL
def Cfg.rt (C : Cfg) (t : Nat) : Nat := lookN t C.rtL
def Cfg.loc (C : Cfg) (t : Nat) : Bool := memN t C.locL

def Env.set (e : Env) (d : Nat) (s : Slot) : Env := fun j => bif Nat.beq j d then s else e j
def Env.alloc (rt : Nat → Nat) (e : Env) (d : Nat) (s : Slot) : Env := fun j =>
  bif Nat.beq j d then s else match e j with
    | .ref o => bif Nat.beq (rt j) d then .junk else .ref o
    | x => x
def Env.upd (rt : Nat → Nat) (e : Env) : Up → Env
  | .none => e
  | .set d s => e.set d s
  | .alloc d s => e.alloc rt d s

def opv (e : Env) (x : Operand) (K : Value → Prop) : Prop :=
  match x with
  | .const v => K v
  | .func f => K (.func (.func f) #[] #[])
  | .global _ => False
  | .tmp t => match e t with
    | .val v => K v
    | _ => False

def opvs (e : Env) : List Operand → (List Value → Prop) → Prop
  | [], K => K []
  | x :: r, K => opv e x fun v => opvs e r fun vs => K (v :: vs)

def intBin (op : BinOp) (k k' : IntKind) (a b : Int) (K : Value → Prop) : Prop :=
  match op with
  | .shl => 0 ≤ b ∧ K (.int k (k.wrap (a * 2 ^ (min b.toNat k.bits))))
  | .shr => 0 ≤ b ∧ K (.int k (a.fdiv (2 ^ (min b.toNat k.bits))))
  | .add => sameK k k' (K (.int k (k.wrap (a + b))))
  | .sub => sameK k k' (K (.int k (k.wrap (a - b))))
  | .mul => sameK k k' (K (.int k (k.wrap (a * b))))
  | .quo => sameK k k' (b ≠ 0 ∧ K (.int k (k.wrap (a.tdiv b))))
  | .rem => sameK k k' (b ≠ 0 ∧ K (.int k (a.tmod b)))
  | .and => sameK k k' (K (.int k (ibits .and k a b)))
  | .or => sameK k k' (K (.int k (ibits .or k a b)))
  | .xor => sameK k k' (K (.int k (ibits .xor k a b)))
  | .andNot => sameK k k' (K (.int k (ibits .andNot k a b)))
  | .eql => sameK k k' (K (.bool (a == b)))
  | .neq => sameK k k' (K (.bool (a != b)))
  | .lss => sameK k k' (K (.bool (decide (a < b))))
  | .leq => sameK k k' (K (.bool (decide (a ≤ b))))
  | .gtr => sameK k k' (K (.bool (decide (a > b))))
  | .geq => sameK k k' (K (.bool (decide (a ≥ b))))

/-- Whether a slice or a pointer is nil. -/
def binP (P : Program) (t : TypeId) (op : BinOp) (x y : Value) (K : Value → Prop) : Prop :=
  match x, y with
  | .int k a, .int k' b => intBin op k k' a b K
  | .string a, .string b =>
    (match op with
    | .add => ((a.size + b.size : Nat) : Int) ≤ 9223372036854775807 ∧ K (.string (a ++ b))
    | .eql => K (.bool (a.toList == b.toList))
    | .neq => K (.bool (!(a.toList == b.toList)))
    | _ => False)
  | .bool a, .bool b =>
    (match P.underlying t, op with
    | some .bool, .eql => K (.bool (a == b))
    | some .bool, .neq => K (.bool (!(a == b)))
    | _, _ => False)
  | .slice a _ _, .slice none _ _ =>
    (match P.underlying t, op with
    | some (.slice _), .eql => K (.bool a.isNone)
    | some (.slice _), .neq => K (.bool (!a.isNone))
    | _, _ => False)
  | _, _ => False

def unP (op : UnOp) (x : Value) (K : Value → Prop) : Prop :=
  match op, x with
  | .not, .bool b => K (.bool (!b))
  | .neg, .int k n => K (.int k (k.wrap (0 - n)))
  | _, _ => False

def isAgg? (P : Program) (t : TypeId) : Option Bool :=
  match P.underlying t with
  | some (.struct _) | some (.array _ _) => some true
  | some _ => some false
  | none => none

/-- The leaves of a type, cell by cell. -/
def leaves (P : Program) : Nat → TypeId → Option (List Lf)
  | 0, _ => none
  | d + 1, t =>
    match P.underlying t with
    | some .bool => some [.bool]
    | some (.int k) => some [.int k]
    | some .string => some [.str]
    | some (.slice _) => some [.sl]
    | some (.pointer _) => some [.ptr]
    | some (.struct fs) => fs.toList.foldr (fun f acc => match leaves P d f.type, acc with | some l, some r => some (l ++ r) | _, _ => none) (some [])
    | some (.array n t') => (match leaves P d t' with | some l => some ((List.replicate n l).flatten) | none => none)
    | some (.func _ _ _) => some [.val]
    | _ => none

def ldLs : List Lf → Addr → Nat → (List Value → Prop) → Hp → Prop
  | [], _, _, K, _ => K []
  | l :: r, a, i, K, h => ldL l (a.add i) (fun x => ldLs r a (i + 1) (fun vs => K (l.up x :: vs)) h) h

/-- Load a variable of type t. -/
def ldT (P : Program) (t : TypeId) (a : Addr) (K : Value → Prop) (h : Hp) : Prop :=
  match leaves P 8 t with
  | some ls => (match isAgg? P t with
    | none => False
    | some true => (match Nat.beq ls.length (P.cellsOf t) with
      | true => ldLs ls a 0 (fun vs => K (.agg vs.toArray)) h
      | false => False)
    | some false => (match ls with
      | [l] => ldL l a (fun x => K (l.up x)) h
      | _ => False))
  | none => False

/-- A part of known cells, as a variable of type t. -/
def partT (P : Program) (t : TypeId) (cs : List Value) (off : Nat) (K : Value → Prop) : Prop :=
  match isAgg? P t with
  | none => False
  | some true => (match Nat.ble (off + P.cellsOf t) cs.length with
    | true => K (.agg ((cs.drop off).take (P.cellsOf t)).toArray)
    | false => False)
  | some false => (match cs[off]? with
    | some v => K v
    | none => False)

def zeroC (P : Program) (t : TypeId) (K : List Value → Prop) : Prop :=
  match P.info? t with
  | some i => (match i.zero with
    | some z => K z.cells.toList
    | none => False)
  | none => False

def retV (C : Cfg) (dst : Option Nat) (v : Value) (h : Hp) (K : Up → Hp → Prop) : Prop :=
  match dst with
  | none => K .none h
  | some d => match C.loc d, Nat.blt d C.n with
    | false, true => K (.set d (.val v)) h
    | _, _ => False

/-- An operation that is not wanted. -/
def skipV (C : Cfg) (dst : Option Nat) (h : Hp) (K : Up → Hp → Prop) : Prop :=
  match dst with
  | none => K .none h
  | some d => match C.loc d with
    | true => K (.alloc d .junk) h
    | false => retV C dst undef h K

def retR (C : Cfg) (dst : Option Nat) (root off : Nat) (h : Hp) (K : Up → Hp → Prop) : Prop :=
  match dst with
  | none => False
  | some d => match C.loc d, Nat.beq (C.rt d) root, Nat.blt d C.n with
    | false, true, true => K (.set d (.ref off)) h
    | _, _, _ => False

/-- A new variable (or row) with these cells: hidden where its slot is marked as local. -/
def retNew (C : Cfg) (dst : Option Nat) (cs : List Value) (mk : Addr → Value) (hid : Slot) (h : Hp) (K : Up → Hp → Prop) : Prop :=
  match dst with
  | none => False
  | some d => match C.loc d, Nat.blt d C.n with
    | true, true => K (.alloc d hid) h
    | false, true => newP cs (fun a h' => K (.set d (.val (mk a))) h') h
    | _, _ => False

def asField (P : Program) (s : TypeId) (f : Nat) (K : Nat → Prop) : Prop :=
  match P.underlying s with
  | some (.struct fs) => (match fs[f]? with
    | some fd => (match Nat.beq (P.cellsOf fd.type) 0 with
      | true => False
      | false => K fd.offset)
    | none => False)
  | _ => False

def fillP (place : Nat → Option (Nat × Nat)) (zero : List Value) (parts : List (Nat × Value)) (K : List Value → Prop) : Prop :=
  match Instr.fill place zero.toArray parts with
  | some cs => K cs.toList
  | none => False

def elemOf? (P : Program) (t : TypeId) (K : TypeId → Prop) : Prop :=
  match P.underlying t with
  | some (.slice e) => (match (P.info? e).isSome with
    | true => K e
    | false => False)
  | _ => False

def noInt (P : Program) (t : TypeId) (p : Prop) : Prop :=
  match P.underlying t with
  | some (.slice _) => p
  | some .string => p
  | _ => False

def okT (P : Program) (t : TypeId) (p : Prop) : Prop :=
  match (P.info? t).isSome with
  | true => p
  | false => False

def idxC (n : Int) (len : Nat) (p : Prop) : Prop := match decide (0 ≤ n ∧ n < len) with | true => p | false => False

def aggC : Value → (List Value → Prop) → Prop
  | .agg cs, K => K cs.toList
  | _, _ => False

def maxI (a b : Int) : Int := if b > a then b else a
def minI (a b : Int) : Int := if b < a then b else a
def maxP : List Value → (Value → Prop) → Prop
  | [.int k a, .int k' b], K => sameK k k' (K (.int k (maxI a b)))
  | _, _ => False
def minP : List Value → (Value → Prop) → Prop
  | [.int k a, .int k' b], K => sameK k k' (K (.int k (minI a b)))
  | _, _ => False

def boP (e : Env) (lo : Option Operand) (dflt : Int) (K : Int → Prop) : Prop :=
  match lo with
  | none => K dflt
  | some x => opv e x fun v => match v with
    | .int _ n => K n
    | _ => False

/-- The source of an append or a copy: a hidden literal, or a slice. -/
def srcP (e : Env) (x : Operand) (size : Nat) (K : Nat → List Value → Prop) (h : Hp) : Prop :=
  match x with
  | .tmp t => (match e t with
    | .lit cs n => (match Nat.beq cs.length (n * size) with | true => K n cs | false => False)
    | .val (.slice a l _) => rdO a (l * size) (fun vs => K l vs) h
    | .val (.string s) => (match Nat.beq size 1 with | true => K s.size (bytesOfS s) | false => False)
    | _ => False)
  | .const (.slice a l _) => rdO a (l * size) (fun vs => K l vs) h
  | .const (.string s) => (match Nat.beq size 1 with | true => K s.size (bytesOfS s) | false => False)
  | _ => False

def builtinP (C : Cfg) (b : Builtin) (argTypes : List TypeId) (args : List Operand) (e : Env) (h : Hp) (dst : Option Nat) (K : Up → Hp → Prop) : Prop :=
  match b, args with
  | .len, [x] => opv e x fun v => (match v, argTypes with
    | .string s, [t] => (match C.P.underlying t with
      | some .string => retV C dst (.int .i64 s.size) h K
      | _ => False)
    | .slice _ n _, [t] => (match C.P.underlying t with
      | some (.slice _) => retV C dst (.int .i64 n) h K
      | _ => False)
    | _, _ => False)
  | .max, [x, y] => opv e x fun u => opv e y fun v => maxP [u, v] fun r => retV C dst r h K
  | .min, [x, y] => opv e x fun u => opv e y fun v => minP [u, v] fun r => retV C dst r h K
  | .append, [x, y] => (match argTypes with
    | [t, t2] => noInt C.P t2 <| elemOf? C.P t fun el => zeroC C.P el fun z => (match Nat.beq z.length (C.P.cellsOf el), Nat.beq z.length 0 with
      | true, false => opv e x fun v => (match v with
        | .slice a l c => srcP e y z.length (fun n new => appP z.length (C.P.bytesOf el) z ⟨a, l, c⟩ n new (fun s h' => retV C dst (.slice s.a s.len s.cap) h' K) h) h
        | _ => False)
      | _, _ => False)
    | _ => False)
  | _, _ => False

/-- What one operation does. -/
def dcore (C : Cfg) (o : Oper) (e : Env) (h : Hp) (K : Up → Hp → Prop) : Prop :=
  match o.op with
  | .move x | .assign x => opv e x fun v => retV C o.dst v h K
  | .pick c a b => opv e c fun v => (match v with
    | .bool t => ifP t (opv e a fun v => retV C o.dst v h K) (opv e b fun v => retV C o.dst v h K)
    | _ => False)
  | .alloc t => zeroC C.P t fun cs => retNew C o.dst cs (fun a => .pointer (some a)) (.box cs) h K
  | .box _ x => opv e x fun v => retNew C o.dst v.cells.toList (fun a => .pointer (some a)) (.box v.cells.toList) h K
  | .build t parts => opvs e (parts.toList.map (·.2)) fun vs => (match C.P.built t ((parts.toList.map (·.1)).zip vs) with
    | some cs => retV C o.dst (.agg cs) h K
    | none => False)
  | .buildSlice t n parts => opvs e (parts.toList.map (·.2)) fun vs => elemOf? C.P t fun el => zeroC C.P el fun z => (match Nat.beq z.length (C.P.cellsOf el), Nat.ble (n * C.P.cellsOf el) 16777216 with
    | true, true => fillP (fun i => some (i * z.length, z.length)) (repl n z) ((parts.toList.map (·.1)).zip vs) fun cs =>
      retNew C o.dst cs (fun a => .slice (some a) n n) (.lit cs n) h K
    | _, _ => False)
  | .load t a => (match a with
    | .tmp s => (match e s with
      | .box cs => partT C.P t cs 0 fun v => retV C o.dst v h K
      | .ref off => (match e (C.rt s) with
        | .box cs => partT C.P t cs off fun v => retV C o.dst v h K
        | _ => False)
      | .val (.pointer p) => (match C.loc (C.rt s) with
        | true => False
        | false => ptrK p fun ad => ldT C.P t ad (fun v => retV C o.dst v h K) h)
      | _ => False)
    | _ => False)
  | .store t a x => opv e x fun v => (match Nat.beq v.cells.toList.length (C.P.cellsOf t), v.cells.toList.all Value.leaf with
    | true, true => (match a with
      | .tmp s => (match e s with
        | .box cs => (match (C.P.info? t).isSome, o.dst, Nat.ble v.cells.toList.length cs.length with
          | true, none, true => K (.set s (.box (splice cs 0 v.cells.toList))) h
          | _, _, _ => False)
        | .ref off => (match e (C.rt s) with
          | .box cs => (match (C.P.info? t).isSome, o.dst, Nat.ble (off + v.cells.toList.length) cs.length with
            | true, none, true => K (.set (C.rt s) (.box (splice cs off v.cells.toList))) h
            | _, _, _ => False)
          | _ => False)
        | .val (.pointer p) => (match C.loc (C.rt s) with
          | true => False
          | false => ptrK p fun ad => (match (C.P.info? t).isSome, o.dst with
            | true, none => stP ad v.cells.toList (fun h' => K .none h') h
            | _, _ => False))
        | _ => False)
      | _ => False)
    | _, _ => False)
  | .nilCheck x => opv e x fun v => (match v with
    | .pointer p => ptrK p fun ad => retV C o.dst (.pointer (some ad)) h K
    | .func (.func g) a b => retV C o.dst (.func (.func g) a b) h K
    | _ => False)
  | .binOp op t x y _ => opv e x fun u => opv e y fun v => binP C.P t op u v fun r => retV C o.dst r h K
  | .unOp op _ x => opv e x fun u => unP op u fun r => retV C o.dst r h K
  | .convert src dst x => opv e x fun v => (match C.P.underlying dst, v with
    | some (.int k), .int _ n => (match (C.P.underlying src).isSome with
      | true => retV C o.dst (.int k (k.wrap n)) h K
      | false => False)
    | some .string, .slice a l c => (match C.P.underlying src with
      | some (.slice el) => (match C.P.underlying el with
        | some (.int .u8) => toStr ⟨a, l, c⟩ (fun s => retV C o.dst (.string s) h K) h
        | _ => False)
      | _ => False)
    | some (.slice el), .string s => (match C.P.underlying src, C.P.underlying el with
      | some .string, some (.int .u8) => bytesP s (fun x h' => retV C o.dst (.slice x.a x.len x.cap) h' K) h
      | _, _ => False)
    | _, _ => False)
  | .makeFunc (.func g) first captured => opvs e first.toList fun us => opvs e captured.toList fun vs => retV C o.dst (.func (.func g) us.toArray vs.toArray) h K
  | .makeSlice t l c => opv e l fun lv => opv e c fun cv => (match lv, cv with
    | .int _ len, .int _ cap => elemOf? C.P t fun el => zeroC C.P el fun z => (match Nat.beq z.length (C.P.cellsOf el), Nat.beq z.length 0 with
      | true, false => mkP len cap (C.P.bytesOf el) z (fun s h' => retV C o.dst (.slice s.a s.len s.cap) h' K) h
      | _, _ => False)
    | _, _ => False)
  | .slice t x lo hi none => opv e x fun v => (match v with
    | .string s => (match C.P.underlying t with
      | some .string => boP e lo 0 fun l => boP e hi s.size fun u => strCut s l u fun r => retV C o.dst (.string r) h K
      | _ => False)
    | .slice a n c => elemOf? C.P t fun el => boP e lo 0 fun l => boP e hi n fun u => slP ⟨a, n, c⟩ l u (C.P.cellsOf el) fun s => retV C o.dst (.slice s.a s.len s.cap) h K
    | _ => False)
  | .fieldAddr t x f => asField C.P t f fun off => (match x with
    | .tmp s => (match e s with
      | .box _ => retR C o.dst s off h K
      | .ref o' => retR C o.dst (C.rt s) (o' + off) h K
      | .val (.pointer p) => ptrK p fun ad => retV C o.dst (.pointer (some (ad.add off))) h K
      | _ => False)
    | _ => False)
  | .field t x f => asField C.P t f fun off => opv e x fun v => aggC v fun cs => (match C.P.underlying t with
    | some (.struct fs) => (match fs[f]? with
      | some fd => partT C.P fd.type cs off fun r => retV C o.dst r h K
      | none => False)
    | _ => False)
  | .indexAddr t x ix => opv e ix fun iv => (match iv with
    | .int _ n => (match C.P.underlying t with
      | some (.slice el) => okT C.P el <| opv e x fun v => (match v with
        | .slice a l c => idxP ⟨a, l, c⟩ n (C.P.cellsOf el) fun ad => retV C o.dst (.pointer (some ad)) h K
        | _ => False)
      | some (.array len el) => okT C.P el <| idxC n len (match x with
        | .tmp s => (match e s with
          | .box _ => retR C o.dst s (n.toNat * C.P.cellsOf el) h K
          | .ref o' => retR C o.dst (C.rt s) (o' + n.toNat * C.P.cellsOf el) h K
          | .val (.pointer p) => ptrK p fun ad => retV C o.dst (.pointer (some (ad.add (n.toNat * C.P.cellsOf el)))) h K
          | _ => False)
        | _ => False)
      | _ => False)
    | _ => False)
  | .index t x ix => opv e ix fun iv => opv e x fun v => (match iv, v with
    | .int _ n, .string s => (match C.P.underlying t with
      | some .string => strIdx s n fun b => retV C o.dst (.int .u8 b) h K
      | _ => False)
    | .int _ n, .agg cs => (match C.P.underlying t with
      | some (.array len el) => okT C.P el <| idxC n len (partT C.P el cs.toList (n.toNat * C.P.cellsOf el) fun r => retV C o.dst r h K)
      | _ => False)
    | _, _ => False)
  | .extract x i => opv e x fun v => (match v with
    | .tuple vs => (match vs.toList[i]? with
      | some u => retV C o.dst u h K
      | none => False)
    | _ => False)
  | .call c => (match c.callee with
    | .builtin b => builtinP C b c.argTypes.toList c.args.toList e h o.dst K
    | .value f => opv e f fun fv => (match fv with
      | .func (.func g) first cap => opvs e c.args.toList fun vs =>
        C.f g (first.toList ++ vs ++ cap.toList) (fun r h' => retV C o.dst r h' K) h
      | _ => False)
    | _ => False)
  | _ => False

/-- The operations with these numbers, one behind the other. -/
def dops (C : Cfg) (ops : Array Oper) (K : Env → Hp → Prop) : List Nat → Env → Hp → Prop
  | [], e, h => K e h
  | i :: r, e, h =>
    match ops[i]? with
    | none => False
    | some o =>
      match o.guard with
      | none => dcore C o e h fun u h' => dops C ops K r (e.upd C.rt u) h'
      | some (j, want) =>
        match (ops[j]?).bind (·.dst) with
        | none => False
        | some d =>
          match C.loc d, e d with
          | false, .val (.bool t) =>
            ifP t
              (match want with
                | true => dcore C o (e.set d (.val (.bool true))) h fun u h' => dops C ops K r ((e.set d (.val (.bool true))).upd C.rt u) h'
                | false => skipV C o.dst h fun u h' => dops C ops K r ((e.set d (.val (.bool true))).upd C.rt u) h')
              (match want with
                | false => dcore C o (e.set d (.val (.bool false))) h fun u h' => dops C ops K r ((e.set d (.val (.bool false))).upd C.rt u) h'
                | true => skipV C o.dst h fun u h' => dops C ops K r ((e.set d (.val (.bool false))).upd C.rt u) h')
          | false, .val (.tuple _) => skipV C o.dst h fun u h' => dops C ops K r (e.upd C.rt u) h'
          | _, _ => False

/-! ### Which slots a piece of code writes -/

def modsO (C : Cfg) (o : Oper) : List Nat :=
  (match o.dst with | some d => [d] | none => []) ++ (match o.op with | .store _ (.tmp s) _ => [s, C.rt s] | _ => []) ++ (match o.guard with | some _ => [] | none => [])

def guardD (ops : Array Oper) (o : Oper) : List Nat :=
  match o.guard with
  | some (j, _) => (match (ops[j]?).bind (·.dst) with | some d => [d] | none => [])
  | none => []

def modsC (C : Cfg) : Code → List Nat
  | .region _ ops _ => ops.toList.flatMap fun o => modsO C o ++ guardD ops o
  | .seq a b => modsC C a ++ modsC C b
  | .cond _ a b => modsC C a ++ modsC C b
  | .block _ a => modsC C a
  | .loop a => modsC C a
  | .rangeFunc _ ps a b => ps.toList ++ modsC C a ++ modsC C b
  | .scope a => modsC C a
  | _ => []

/-! ### States at joins and loops -/

inductive STy where
  | leaf (l : Lf)
  | agg (ls : List Lf)
  | box (ls : List Lf)

def LT : List Lf → Type
  | [] => Unit
  | l :: r => l.T × LT r

abbrev STy.T : STy → Type
  | .leaf l => l.T
  | .agg ls => LT ls
  | .box ls => LT ls

def STup : List (Nat × STy) → Type
  | [] => Unit
  | (_, s) :: r => s.T × STup r

def LT.up : (ls : List Lf) → LT ls → List Value
  | [], _ => []
  | l :: r, x => l.up x.1 :: LT.up r x.2

def LT.dn : (ls : List Lf) → List Value → (LT ls → Prop) → Prop
  | [], [], K => K ()
  | l :: r, v :: vs, K => l.dn v fun x => LT.dn r vs fun xs => K (x, xs)
  | _, _, _ => False

def STy.up : (s : STy) → s.T → Slot
  | .leaf l, x => .val (l.up x)
  | .agg ls, x => .val (.agg (LT.up ls x).toArray)
  | .box ls, x => .box (LT.up ls x)

def STy.dn : (s : STy) → Slot → (s.T → Prop) → Prop
  | .leaf l, .val v, K => l.dn v K
  | .agg ls, .val (.agg cs), K => LT.dn ls cs.toList K
  | .box ls, .box cs, K => LT.dn ls cs K
  | _, _, _ => False

def packS : (L : List (Nat × STy)) → Env → (STup L → Prop) → Prop
  | [], _, K => K ()
  | (t, s) :: r, e, K => s.dn (e t) fun x => packS r e fun xs => K (x, xs)

def unpack : (L : List (Nat × STy)) → STup L → Nat → Option Slot
  | [], _, _ => none
  | (t', s) :: r, x, t => bif Nat.beq t t' then some (s.up x.1) else unpack r x.2 t

def mkEnv (e : Env) (mods : List Nat) (L : List (Nat × STy)) (s : STup L) : Env := fun t =>
  match unpack L s t with
  | some x => x
  | none => bif memN t mods then .junk else match e t with
    | .ref _ => .junk
    | .lit _ _ => .junk
    | x => x

inductive Ex where
  | normal
  | exit (id : Nat)
  | ret

inductive An where
  | leaf
  | draw (order : List Nat)
  | seq (a b : An)
  | join (L : List (Nat × STy)) (a b : An)
  | cond (a b : An)
  | block (a : An)
  | loop (L : List (Nat × STy)) (a : An)

/-! ### The check of a region that draws its order -/

inductive Cls where
  | pure | load | call | new | other
  deriving DecidableEq

def clsO (C : Cfg) (o : Oper) : Cls :=
  match o.op with
  | .move _ | .assign _ | .pick .. | .build .. | .binOp .. | .unOp .. | .makeFunc .. | .slice .. | .fieldAddr .. | .field .. | .indexAddr .. | .index .. | .extract .. | .nilCheck _ => .pure
  | .convert _ dst _ => (match C.P.underlying dst with | some (.int _) => .pure | _ => .other)
  | .alloc _ | .box .. | .buildSlice .. => (match o.dst with
    | some d => (match C.loc d with | true => .pure | false => .new)
    | none => .other)
  | .load _ (.tmp s) => (match C.loc (C.rt s) with | true => .pure | false => .load)
  | .load .. => .load
  | .store _ (.tmp s) _ => (match C.loc (C.rt s) with | true => .pure | false => .other)
  | .makeSlice .. => .other
  | .call c => (match c.callee with
    | .builtin .len | .builtin .max | .builtin .min => .pure
    | .value (.func g) => (match C.muts g with | true => .other | false => .call)
    | _ => .other)
  | _ => .other

/-- The slots that an operation may look at. -/
def readsX (C : Cfg) : Operand → List Nat
  | .tmp t => [t, C.rt t]
  | _ => []
def readsO (C : Cfg) (ops : Array Oper) (o : Oper) : List Nat :=
  o.op.operands.toList.flatMap (readsX C) ++ guardD ops o ++ (match o.dst with | some d => [C.rt d] | none => [])

def readsA (C : Cfg) (ops : Array Oper) (o : Oper) : List Nat := readsO C ops o ++ (readsO C ops o).map C.rt

def disjN (a b : List Nat) : Bool := a.all fun x => !memN x b

/-- A new block whose making can't fail. -/
def newOk (C : Cfg) (o : Oper) : Bool :=
  (match o.op with
  | .alloc t => (match C.P.info? t with
    | some i => (match i.zero with | some _ => true | none => false)
    | none => false)
  | _ => false) && (match o.dst with
  | some d => Nat.blt d C.n
  | none => false)

def sameGuard : Option (Nat × Bool) → Option (Nat × Bool) → Bool
  | _, none => true
  | some (i, a), some (j, b) => Nat.beq i j && (match a, b with | true, true => true | false, false => true | _, _ => false)
  | none, some _ => false

def swapCls (C : Cfg) (ox oy : Oper) : Bool :=
  match clsO C ox, clsO C oy with
  | .pure, _ => true
  | .load, .pure | .load, .load | .load, .call | .load, .new => true
  | .call, .new => newOk C oy && sameGuard ox.guard oy.guard
  | .new, .new => sameGuard ox.guard oy.guard
  | _, _ => false

def ancs (ops : Array Oper) : Nat → Nat → List Nat
  | 0, _ => []
  | d + 1, i => match ops[i]? with
    | some o => o.after.toList.flatMap fun e => match Region.binds .any e with
      | true => e.on :: ancs ops d e.on
      | false => []
    | none => []

/-- May x, standing ahead of y, be carried out behind it? -/
def swapOk (C : Cfg) (ops : Array Oper) (x y : Nat) : Bool :=
  match ops[x]?, ops[y]? with
  | some ox, some oy =>
    swapCls C ox oy && disjN (modsO C ox) (readsA C ops oy) && disjN (modsO C oy) (readsA C ops ox) && disjN (modsO C ox) (modsO C oy)
  | _, _ => false

def pairsOk (C : Cfg) (ops : Array Oper) : List Nat → Bool
  | [] => true
  | x :: r => r.all (fun y => memN x (ancs ops ops.size y) || swapOk C ops x y) && pairsOk C ops r

def nodupN : List Nat → Bool
  | [] => true
  | x :: r => !memN x r && nodupN r

def edgesBack (ops : Array Oper) : Bool :=
  (List.range ops.size).all fun i => match ops[i]? with
    | some o => o.after.toList.all fun e => !Region.binds .any e || Nat.blt e.on i
    | none => true

def checkDraw (C : Cfg) (ops : Array Oper) (order : List Nat) : Bool :=
  C.P.follows .mixedOrders && edgesBack ops && Nat.ble order.length ops.size && nodupN order && order.all (fun i => Nat.blt i ops.size) && (List.range ops.size).all (fun i => memN i order) && pairsOk C ops order

/-! ### Code -/

def den (C : Cfg) : Code → An → (Ex → Env → Hp → Prop) → Env → Hp → Prop
  | .skip, _, K, e, h => K .normal e h
  | .exit j, _, K, e, h => K (.exit j) e h
  | .ret, _, K, e, h => K .ret e h
  | .region _ ops false, _, K, e, h => dops C ops (K .normal) (List.range ops.size) e h
  | .region _ ops true, .draw order, K, e, h => (match checkDraw C ops order with
    | true => dops C ops (K .normal) order e h
    | false => False)
  | .seq x y, .seq a b, K, e, h => den C x a (fun ex e' h' => match ex with
    | .normal => den C y b K e' h'
    | ex => K ex e' h') e h
  | .seq x y, .join L a b, K, e, h => joinP (S := STup L) (fun s h' => den C y b K (mkEnv e (modsC C x) L s) h')
    (fun k => den C x a (fun ex e' h' => match ex with
      | .normal => packS L e' fun s => k s h'
      | ex => K ex e' h') e h)
  | .cond c x y, .cond a b, K, e, h => opv e c fun v => (match v with
    | .bool t => ifP t (den C x a K e h) (den C y b K e h)
    | _ => False)
  | .block id x, .block a, K, e, h => den C x a (fun ex e' h' => match ex with
    | .exit j => (match Nat.beq j id with
      | true => K .normal e' h'
      | false => K (.exit j) e' h')
    | ex => K ex e' h') e h
  | .loop x, .loop L a, K, e, h => packS L e fun s0 => loopP (S := STup L) (fun s k h1 => den C x a (fun ex e' h' => match ex with
      | .normal => packS L e' fun s => k s h'
      | ex => K ex e' h') (mkEnv e (modsC C x) L s) h1) s0 h
  | _, _, _, _, _ => False

/-- What a function hands back. -/
def resP (C : Cfg) (rs : List ResultVar) (e : Env) (K : List Value → Prop) : Prop :=
  match rs with
  | [] => K []
  | .tmp t :: r => (match e t with
    | .val v => resP C r e fun vs => K (v :: vs)
    | _ => False)
  | .cell t ty :: r => (match e t with
    | .box cs => partT C.P ty cs 0 fun v => resP C r e fun vs => K (v :: vs)
    | _ => False)

def resV (vs : List Value) : Value := match vs with | [v] => v | vs => .tuple vs.toArray

def env0 (args : List Value) : Env := fun t => match args[t]? with | some v => .val v | none => .junk

def denF (C : Cfg) (fn : Func) (c : Code) (an : An) (args : List Value) (K : Value → Hp → Prop) (h : Hp) : Prop :=
  den C c an (fun ex e h' => match ex with
    | .exit _ => False
    | _ => resP C fn.results.toList e fun vs => K (resV vs) h') (env0 args) h

end Den
