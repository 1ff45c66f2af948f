/- Own texts of this claim, joined: Vc, Typ, VcS, TypS. -/
import Derived.WalkKit
import Derived.Below
import Derived.Laws.Rows
import Derived.ChangeKeysEq
import Derived.Test.YtgipackjnncabaaRows
import Derived.KernelRfl

/- A generator of verification conditions over the model's code, and its soundness: if 'vc' holds of a function's body, 'Calls' holds of the function. No program is named here. -/
set_option linter.unusedSimpArgs false
set_option linter.unusedVariables false
namespace Go.Vc
open Go.RowKit

/-! ### Frames: what is known of some slots -/
abbrev Env := List (Nat × Value)

def look : Env → Nat → Option Value
  | [], _ => none
  | (t, v) :: E, s => match Nat.beq t s with
    | true => some v
    | false => look E s

theorem look_cons_same (t : Nat) (v : Value) (E : Env) : look ((t, v) :: E) t = some v := by simp [look]
theorem look_cons_other {t s : Nat} (h : t ≠ s) (v : Value) (E : Env) : look ((t, v) :: E) s = look E s := by
  have : Nat.beq t s = false := by
    cases hb : Nat.beq t s with
    | false => rfl
    | true => exact absurd (Nat.eq_of_beq_eq_true hb) h
  simp only [look, this]

structure Rep (n : Nat) (E : Env) (a : Act) : Prop where
  size : a.tmps.size = n
  defers : a.defers = []
  vals : ∀ t v, look E t = some v → a.tmps[t]? = some v

def ev (E : Env) : Operand → Option Value
  | .tmp t => look E t
  | .const v => some v
  | .global _ => none
  | .func f => some (.func (.func f) #[] #[])

theorem ev_sound {n : Nat} {E : Env} {a : Act} {x : Operand} {v : Value} (h : Rep n E a) (he : ev E x = some v) : a.eval x = v := by
  cases x with
  | tmp t => have := h.vals t v he; simp [Act.eval, Array.getD_eq_getD_getElem?, this]
  | const u => simpa [ev, Act.eval] using he
  | global g => simp [ev] at he
  | func f => simpa [ev, Act.eval] using he

theorem Rep.put {n : Nat} {E : Env} {a : Act} (h : Rep n E a) {d : Nat} (hd : d < n) (v : Value) : Rep n ((d, v) :: E) (a.put (some d) v) := by
  refine ⟨by simp [Act.put, h.size], by simp [Act.put, h.defers], fun t u hu => ?_⟩
  by_cases e : d = t
  · subst e
    rw [look_cons_same] at hu
    have : d < a.tmps.size := by rw [h.size]; exact hd
    simp [Act.put, this]
    simpa using hu
  · rw [look_cons_other e] at hu
    have := h.vals t u hu
    simp only [Act.put]
    rw [Array.getElem?_setIfInBounds]
    simp [e, this]

theorem Rep.put_none {n : Nat} {E : Env} {a : Act} (h : Rep n E a) (v : Value) : Rep n E (a.put none v) := h

/-- A value that is known anyway may be written down once more. -/
theorem Rep.again {n : Nat} {E : Env} {a : Act} (h : Rep n E a) {d : Nat} {v : Value} (hl : look E d = some v) : Rep n ((d, v) :: E) a :=
  ⟨h.size, h.defers, fun t u hu => by
    by_cases e : d = t
    · subst e
      rw [look_cons_same] at hu
      exact h.vals d u (by rw [hl]; exact hu)
    · rw [look_cons_other e] at hu
      exact h.vals t u hu⟩

theorem Rep.sub {n : Nat} {E E' : Env} {a : Act} (h : Rep n E a) (hs : ∀ t v, look E' t = some v → look E t = some v) : Rep n E' a :=
  ⟨h.size, h.defers, fun t v hv => h.vals t v (hs t v hv)⟩

/-! ### What is asked of the types' table -/
structure Lay where
  kind : Nat → Option IntKind
  single : Nat → Bool
  agg : Nat → Option Nat
  field : Nat → Nat → Option Nat
  slice : Nat → Option Nat
  arr : Nat → Option (Nat × Nat)
  zero : Nat → Option Value
  isBool : Nat → Bool
  isPtr : Nat → Bool
  isStr : Nat → Bool
  isBytes : Nat → Bool
  call : Nat → Bool

def isAggD : TypeDesc → Bool
  | .struct _ | .array _ _ => true
  | _ => false

structure Lay.Ok (L : Lay) (P : Program) : Prop where
  kind : ∀ t k, L.kind t = some k → P.underlying t = some (.int k)
  single : ∀ t, L.single t = true → ∃ d, P.underlying t = some d ∧ isAggD d = false ∧ ∃ i, P.info? t = some i ∧ i.size = 1
  agg : ∀ t n, L.agg t = some n → ∃ d, P.underlying t = some d ∧ isAggD d = true ∧ ∃ i, P.info? t = some i ∧ i.size = n
  field : ∀ t f off, L.field t f = some off → ∃ fs fd, P.underlying t = some (.struct fs) ∧ fs[f]? = some fd ∧ fd.offset = off ∧ ∃ i, P.info? fd.type = some i ∧ i.size ≠ 0
  slice : ∀ t s, L.slice t = some s → ∃ e, P.underlying t = some (.slice e) ∧ ∃ i, P.info? e = some i ∧ i.size = s
  arr : ∀ t n s, L.arr t = some (n, s) → ∃ e, P.underlying t = some (.array n e) ∧ ∃ i, P.info? e = some i ∧ i.size = s
  zero : ∀ t v, L.zero t = some v → ∃ i, P.info? t = some i ∧ i.zero = some v
  isBool : ∀ t, L.isBool t = true → P.underlying t = some .bool
  isPtr : ∀ t, L.isPtr t = true → ∃ e, P.underlying t = some (.pointer e)
  isStr : ∀ t, L.isStr t = true → P.underlying t = some .string
  isBytes : ∀ t, L.isBytes t = true → ∃ e, P.underlying t = some (.slice e) ∧ P.underlying e = some (.int .u8)
  call : ∀ f, L.call f = true → ∃ fn, P.funcs[f]? = some fn ∧ (fn.name == "runtime.NumGoroutine") = false ∧ fn.body.isNone = false

/-! ### Single operations -/
def bsel (β : Bool) (A B : Prop) : Prop := @Bool.rec (fun _ => Prop) B A β
theorem bcase {β : Bool} {A B : Prop} (h1 : β = true → A) (h2 : β = false → B) : @Bool.rec (fun _ => Prop) B A β := by
  cases β
  · exact h2 rfl
  · exact h1 rfl
theorem bsel_elim {β : Bool} {A B : Prop} (h : bsel β A B) : (β = true ∧ A) ∨ (β = false ∧ B) := by
  cases β
  · exact .inr ⟨rfl, h⟩
  · exact .inl ⟨rfl, h⟩

def CellsAt (w : World) (b o : Nat) (cs : List Value) : Prop := ∀ i v, cs[i]? = some v → w.cell? ⟨b, o + i, none⟩ = some v

def setCells (w : World) (b o : Nat) : List Value → World
  | [] => w
  | v :: vs => setCells (w.setCell ⟨b, o, none⟩ v) b (o + 1) vs

/-- integer operators: the exact sum where it fits int (asked), the wrapped one by an equation elsewhere -/
def vcBin (op : BinOp) (k : IntKind) (a b : Int) (K : Value → Prop) : Prop :=
  match op with
  | .add => match k with
    | .i64 => (-9223372036854775808 ≤ a + b ∧ a + b ≤ 9223372036854775807) ∧ K (.int .i64 (a + b))
    | k => ∀ z, z = k.wrap (a + b) → K (.int k z)
  | .sub => match k with
    | .i64 => (-9223372036854775808 ≤ a - b ∧ a - b ≤ 9223372036854775807) ∧ K (.int .i64 (a - b))
    | k => ∀ z, z = k.wrap (a - b) → K (.int k z)
  | .mul => match k with
    | .i64 => (-9223372036854775808 ≤ a * b ∧ a * b ≤ 9223372036854775807) ∧ K (.int .i64 (a * b))
    | k => ∀ z, z = k.wrap (a * b) → K (.int k z)
  | .quo => b ≠ 0 ∧ ∀ z, z = k.wrap (a.tdiv b) → K (.int k z)
  | .rem => b ≠ 0 ∧ ∀ z, z = a.tmod b → K (.int k z)
  | .and => ∀ z, z = k.wrap (BitVec.ofInt k.bits a &&& BitVec.ofInt k.bits b).toNat → K (.int k z)
  | .or => ∀ z, z = k.wrap (BitVec.ofInt k.bits a ||| BitVec.ofInt k.bits b).toNat → K (.int k z)
  | .xor => ∀ z, z = k.wrap (BitVec.ofInt k.bits a ^^^ BitVec.ofInt k.bits b).toNat → K (.int k z)
  | .andNot => ∀ z, z = k.wrap (BitVec.ofInt k.bits a &&& ~~~BitVec.ofInt k.bits b).toNat → K (.int k z)
  | .eql => K (.bool (decide (a = b)))
  | .neq => K (.bool (!decide (a = b)))
  | .lss => K (.bool (decide (a < b)))
  | .leq => K (.bool (decide (a ≤ b)))
  | .gtr => K (.bool (decide (b < a)))
  | .geq => K (.bool (decide (b ≤ a)))
  | .shl | .shr => False

def vcShift (op : BinOp) (k : IntKind) (a b : Int) (K : Value → Prop) : Prop :=
  match op with
  | .shl => 0 ≤ b ∧ ∀ z, z = k.wrap (a * 2 ^ (min b.toNat k.bits)) → K (.int k z)
  | .shr => 0 ≤ b ∧ ∀ z, z = a.fdiv (2 ^ (min b.toNat k.bits)) → K (.int k z)
  | _ => False

def evs (E : Env) : List Operand → Option (List Value)
  | [] => some []
  | x :: xs => match ev E x with
    | some v => match evs E xs with
      | some vs => some (v :: vs)
      | none => none
    | none => none

def evp (E : Env) : List (Nat × Operand) → Option (List (Nat × Value))
  | [] => some []
  | (i, x) :: xs => match ev E x with
    | some v => match evp E xs with
      | some vs => some ((i, v) :: vs)
      | none => none
    | none => none

def minL (k : IntKind) (a : Int) : List Value → Option Int
  | [] => some a
  | .int _ b :: vs => minL k (if b < a then b else a) vs
  | _ => none

def kn : IntKind → Nat
  | .i8 => 0 | .i16 => 1 | .i32 => 2 | .i64 => 3 | .u8 => 4 | .u16 => 5 | .u32 => 6 | .u64 => 7
theorem kn_inj {k k' : IntKind} (h : Nat.beq (kn k) (kn k') = true) : k = k' := by
  cases k <;> cases k' <;> first | rfl | cases h

def vcOp (L : Lay) (P : Program) (o : Op) (ty : Nat) (E : Env) (w : World) (K : Value → World → Prop) : Prop :=
  match o with
  | .move x => match ev E x with
    | some v => K v w
    | none => False
  | .assign x => match ev E x with
    | some v => K v w
    | none => False
  | .pick c x y => match ev E c with
    | some (.bool β) => bsel β (match ev E x with | some v => K v w | none => False) (match ev E y with | some v => K v w | none => False)
    | _ => False
  | .alloc t => match L.zero t with
    | some v => ∀ w', w' = w.alloc (.cells v.cells t) → K (.pointer (some ⟨w.heap.size, 0, none⟩)) w'
    | none => False
  | .box t x => match ev E x with
    | some (.agg cs) => ∀ w', w' = w.alloc (.cells cs t) → K (.pointer (some ⟨w.heap.size, 0, none⟩)) w'
    | some v => (∀ cs, v ≠ .agg cs) ∧ ∀ w', w' = w.alloc (.cells #[v] t) → K (.pointer (some ⟨w.heap.size, 0, none⟩)) w'
    | none => False
  | .build t parts => match evp E parts.toList with
    | some ps => ∃ v, (∀ w, (Instr.build t ps.toArray).run P w = .ok v w) ∧ K v w
    | none => False
  | .buildSlice t len parts => match evp E parts.toList with
    | some ps => ∃ v w', (Instr.buildSlice t len ps.toArray).run P w = .ok v w' ∧ K v w'
    | none => False
  | .load t x => match ev E x with
    | some (.pointer (some ⟨b, off, none⟩)) => match L.single t with
      | true => ∃ v, w.cell? ⟨b, off, none⟩ = some v ∧ K v w
      | false => match L.agg t with
        | some n => ∃ cs : List Value, cs.length = n ∧ CellsAt w b off cs ∧ K (.agg cs.toArray) w
        | none => False
    | _ => False
  | .store t x y => match ev E x, ev E y with
    | some (.pointer (some ⟨b, off, none⟩)), some v => match L.single t with
      | true => (v.oneCell' = true ∧ (w.cell? ⟨b, off, none⟩).isSome = true ∧ w.frozen? ⟨b, off, none⟩ = false) ∧ ∀ w', w' = w.setCell ⟨b, off, none⟩ v → K undef w'
      | false => ∃ w', (Instr.storeAt t (.pointer (some ⟨b, off, none⟩)) v).run P w = .ok () w' ∧ K undef w'
    | _, _ => False
  | .nilCheck x => match ev E x with
    | some (.pointer (some a)) => K (.pointer (some a)) w
    | some (.func (.func f) first captured) => K (.func (.func f) first captured) w
    | _ => False
  | .binOp op t x y _ => match ev E x, ev E y with
    | some (.int k a), some (.int k' b) => match op with
      | .shl => vcShift .shl k a b fun v => K v w
      | .shr => vcShift .shr k a b fun v => K v w
      | op => match Nat.beq (kn k) (kn k') with
        | true => vcBin op k a b fun v => K v w
        | false => False
    | some (.bool a), some (.bool b) => match L.isBool t, op with
      | true, .eql => K (.bool (a == b)) w
      | true, .neq => K (.bool (!(a == b))) w
      | _, _ => False
    | some (.pointer (some _)), some (.pointer none) => match L.isPtr t, op with
      | true, .eql => K (.bool false) w
      | true, .neq => K (.bool true) w
      | _, _ => False
    | some (.pointer none), some (.pointer none) => match L.isPtr t, op with
      | true, .eql => K (.bool true) w
      | true, .neq => K (.bool false) w
      | _, _ => False
    | some (.string a), some (.string b) => match op with
      | .eql => ∀ β, β = (a.toList == b.toList) → K (.bool β) w
      | .neq => ∀ β, β = (a.toList == b.toList) → K (.bool !β) w
      | _ => False
    | _, _ => False
  | .unOp op _ x => match op, ev E x with
    | .not, some (.bool b) => K (.bool !b) w
    | .xor, some (.int k a) => match k.signed with
      | false => ∀ z, z = k.wrap (BitVec.ofInt k.bits k.max ^^^ BitVec.ofInt k.bits a).toNat → K (.int k z) w
      | true => False
    | .neg, some (.int k a) => ∀ z, z = k.wrap (0 - a) → K (.int k z) w
    | _, _ => False
  | .convert src dst x => match ev E x with
    | some (.int _ a) => match L.kind src, L.kind dst with
      | some _, some k => ∀ z, z = k.wrap a → K (.int k z) w
      | _, _ => False
    | some (.slice p m c) => match L.kind src with
      | some _ => False
      | none => match L.isBytes src, L.isStr dst with
        | true, true => ∃ s, (Conv.bytesToString (.slice p m c)).run P w = .ok (.string s) w ∧ K (.string s) w
        | _, _ => ∃ u w', (convert src dst (.slice p m c)).run P w = .ok u w' ∧ K u w'
    | _ => False
  | .makeFunc fn first captured => match evs E first.toList, evs E captured.toList with
    | some f, some c => K (.func fn f.toArray c.toArray) w
    | _, _ => False
  | .makeSlice t l c => match ev E l, ev E c with
    | some lv, some cv => ∃ v w', (Instr.makeSlice t lv cv).run P w = .ok v w' ∧ K v w'
    | _, _ => False
  | .slice t x lo hi mx => match L.slice t, ev E x, mx with
    | some size, some (.slice a n c), none => match lo, hi with
      | none, none => n ≤ c ∧ K (.slice a n c) w
      | none, some h => match ev E h with
        | some (.int _ h) => (0 ≤ h ∧ h ≤ c) ∧ K (.slice a h.toNat c) w
        | _ => False
      | some l, none => match ev E l with
        | some (.int _ l) => (0 ≤ l ∧ l ≤ n ∧ n ≤ c) ∧ ∀ a', a' = (if c = l.toNat then a else a.map (·.add (l.toNat * size))) → K (.slice a' (n - l.toNat) (c - l.toNat)) w
        | _ => False
      | some l, some h => match ev E l, ev E h with
        | some (.int _ l), some (.int _ h) => (0 ≤ l ∧ l ≤ h ∧ h ≤ c) ∧ ∀ a', a' = (if c = l.toNat then a else a.map (·.add (l.toNat * size))) → K (.slice a' (h.toNat - l.toNat) (c - l.toNat)) w
        | _, _ => False
    | _, _, _ => False
  | .fieldAddr t x f => match ev E x with
    | some (.pointer (some ⟨b, off, none⟩)) => match L.field t f with
      | some d => K (.pointer (some ⟨b, off + d, none⟩)) w
      | none => False
    | _ => False
  | .indexAddr t x ix => match ev E x, ev E ix with
    | some (.slice a n _), some (.int _ i) => match L.slice t with
      | some 1 => ∃ b off, a = some ⟨b, off, none⟩ ∧ (0 ≤ i ∧ i < n) ∧ K (.pointer (some ⟨b, off + i.toNat, none⟩)) w
      | some size => ∃ b off, a = some ⟨b, off, none⟩ ∧ (0 ≤ i ∧ i < n) ∧ K (.pointer (some ⟨b, off + i.toNat * size, none⟩)) w
      | none => False
    | some (.pointer (some ⟨b, off, none⟩)), some (.int _ i) => match L.arr t with
      | some (n, size) => (0 ≤ i ∧ i < n) ∧ K (.pointer (some ⟨b, off + i.toNat * size, none⟩)) w
      | none => False
    | _, _ => False
  | .extract t i => match ev E t with
    | some (.tuple vs) => match vs.toList[i]? with
      | some v => K v w
      | none => False
    | _ => False
  | .call c => match c.callee with
    | .value f => match ev E f, evs E c.args.toList with
      | some (.func (.func g) first captured), some args => match L.call g with
        | true => Calls P g (((first.toList ++ args) ++ captured.toList).toArray) w fun e w' => match e with
          | .returned v => K v w'
          | _ => False
        | false => False
      | _, _ => False
    | .builtin b => match b, evs E c.args.toList, c.argTypes.toList with
      | .len, some [.slice _ n _], [t] => match L.slice t with
        | some _ => K (.int .i64 n) w
        | none => False
      | .append, some [s, x], [t, u] => ∃ v w', (Builtin.append_ #[t, u] ty #[s, x]).run P w = .ok v w' ∧ K v w'
      | .copy, some [s, x], [t, u] => ∃ v w', (Builtin.copy_ #[t, u] ty #[s, x]).run P w = .ok v w' ∧ K v w'
      | .min, some (.int k a :: vs), _ => match minL k a vs with
        | some z => K (.int k z) w
        | none => False
      | _, _, _ => False
    | .invoke _ _ => False
  | _ => False

/-! ### Regions -/
def vcPut (n : Nat) (dst : Option Nat) (v : Value) (E : Env) (K : Env → Prop) : Prop :=
  match dst with
  | none => K E
  | some d => match Nat.blt d n with
    | true => K ((d, v) :: E)
    | false => False

def vcOps (L : Lay) (P : Program) (n : Nat) (all : Array Oper) : List Oper → Env → World → (Env → World → Prop) → Prop
  | [], E, w, K => K E w
  | o :: os, E, w, K => match o.guard with
    | none => vcOp L P o.op o.type E w fun v w' => vcPut n o.dst v E fun E' => vcOps L P n all os E' w' K
    | some (j, want) => match (all.toList[j]?).bind (·.dst) with
      | some d => match look E d with
        | some (.bool β) => bsel β
            (match want with
              | true => vcOp L P o.op o.type ((d, .bool true) :: E) w fun v w' => vcPut n o.dst v ((d, .bool true) :: E) fun E' => vcOps L P n all os E' w' K
              | false => vcPut n o.dst undef ((d, .bool true) :: E) fun E' => vcOps L P n all os E' w K)
            (match want with
              | true => vcPut n o.dst undef ((d, .bool false) :: E) fun E' => vcOps L P n all os E' w K
              | false => vcOp L P o.op o.type ((d, .bool false) :: E) w fun v w' => vcPut n o.dst v ((d, .bool false) :: E) fun E' => vcOps L P n all os E' w' K)
        | some (.tuple _) => vcPut n o.dst undef E fun E' => vcOps L P n all os E' w K
        | _ => False
      | none => False

/-! ### Code -/
def lift (n : Nat) (Q : Exit → Env → World → Prop) : Exit → Act → World → Prop := fun e a w => ∃ E, Rep n E a ∧ Q e E w

@[irreducible] def vcLoop (P : Program) (n : Nat) (c : Code) (E : Env) (w : World) (Q : Exit → Env → World → Prop) : Prop :=
  ∀ a, Rep n E a → (Code.loop c).wp P (lift n Q) a w
@[irreducible] def vcDraw (P : Program) (n : Nat) (id : Nat) (ops : Array Oper) (E : Env) (w : World) (Q : Exit → Env → World → Prop) : Prop :=
  ∀ a, Rep n E a → (Code.region id ops true).wp P (lift n Q) a w

def guarded : List Oper → Bool
  | [] => false
  | o :: os => match o.guard with
    | none => guarded os
    | some _ => true
/-- a region with '&&' or '||': a stop, so that its ways may meet again -/
@[irreducible] def vcReg (P : Program) (n : Nat) (id : Nat) (ops : Array Oper) (E : Env) (w : World) (Q : Exit → Env → World → Prop) : Prop :=
  ∀ a, Rep n E a → (Code.region id ops false).wp P (lift n Q) a w

@[irreducible] def vcCond (P : Program) (n : Nat) (c : Operand) (x y : Code) (E : Env) (w : World) (Q : Exit → Env → World → Prop) : Prop :=
  ∀ a, Rep n E a → (Code.cond c x y).wp P (lift n Q) a w

def vc (L : Lay) (P : Program) (n : Nat) : Code → Env → World → (Exit → Env → World → Prop) → Prop
  | .skip, E, w, Q => Q .normal E w
  | .label _, E, w, Q => Q .normal E w
  | .region id ops draw, E, w, Q => match draw with
    | false => match guarded ops.toList with
      | false => vcOps L P n ops ops.toList E w fun E' w' => Q .normal E' w'
      | true => vcReg P n id ops E w Q
    | true => vcDraw P n id ops E w Q
  | .seq x y, E, w, Q => vc L P n x E w fun e E' w' => match e with
    | .normal => vc L P n y E' w' Q
    | .exit i => Q (.exit i) E' w'
    | .goto l => Q (.goto l) E' w'
    | .ret => Q .ret E' w'
    | .panic ch => Q (.panic ch) E' w'
    | .outgrown => Q .outgrown E' w'
  | .cond c x y, E, w, Q => vcCond P n c x y E w Q
  | .block id c, E, w, Q => vc L P n c E w fun e E' w' => match e with
    | .exit i => match Nat.beq i id with
      | true => Q .normal E' w'
      | false => Q (.exit i) E' w'
    | .normal => Q .normal E' w'
    | .goto l => Q (.goto l) E' w'
    | .ret => Q .ret E' w'
    | .panic ch => Q (.panic ch) E' w'
    | .outgrown => Q .outgrown E' w'
  | .loop c, E, w, Q => vcLoop P n c E w Q
  | .exit id, E, w, Q => Q (.exit id) E w
  | .ret, E, w, Q => Q .ret E w
  | _, _, _, _ => False

/-! ### Functions -/
def argEnv : Nat → List Value → Env
  | _, [] => []
  | i, v :: vs => (i, v) :: argEnv (i + 1) vs

/-- the results, read off the frame -/
def vcRes (L : Lay) (E : Env) (w : World) : List ResultVar → (List Value → Prop) → Prop
  | [], K => K []
  | .tmp t :: rs, K => match look E t with
    | some v => vcRes L E w rs fun vs => K (v :: vs)
    | none => False
  | .cell a t :: rs, K => match look E a with
    | some (.pointer (some ⟨b, off, none⟩)) => match L.single t with
      | true => ∃ v, w.cell? ⟨b, off, none⟩ = some v ∧ vcRes L E w rs fun vs => K (v :: vs)
      | false => match L.agg t with
        | some n => ∃ cs : List Value, cs.length = n ∧ CellsAt w b off cs ∧ vcRes L E w rs fun vs => K (.agg cs.toArray :: vs)
        | none => False
    | _ => False

def vcPost (L : Lay) (rs : List ResultVar) (R : Value → World → Prop) : Exit → Env → World → Prop
  | .normal, E, w => vcRes L E w rs fun vs => match vs with
    | [v] => R v w
    | vs => R (.tuple vs.toArray) w
  | .ret, E, w => vcRes L E w rs fun vs => match vs with
    | [v] => R v w
    | vs => R (.tuple vs.toArray) w
  | _, _, _ => False

def vcFn (L : Lay) (P : Program) (fn : Func) (args : List Value) (w : World) (R : Value → World → Prop) : Prop :=
  match fn.body with
  | some c => vc L P fn.ntmps c (argEnv 0 args) w (vcPost L fn.results.toList R)
  | none => False

end Go.Vc

/- The types of the program of this seat, as the generator asks for them. Printed by a program of mine off the translation. -/
namespace Go.Proofs.Ytgipackjnncabaa
open Go.Vc

def memN : List Nat → Nat → Bool
  | [], _ => false
  | a :: l, n => match Nat.beq a n with
    | true => true
    | false => memN l n
def getN {α : Type} : List (Nat × α) → Nat → Option α
  | [], _ => none
  | (a, v) :: l, n => match Nat.beq a n with
    | true => some v
    | false => getN l n
def getNN : List (Nat × List Nat) → Nat → Nat → Option Nat
  | [], _, _ => none
  | (a, v) :: l, n, f => match Nat.beq a n with
    | true => v[f]?
    | false => getNN l n f
def kinds : List (Nat × IntKind) := [(2, .i64), (3, .i64), (5, .u8), (21, .i32), (23, .u64), (26, .i64), (35, .u64), (42, .u32), (86, .u16)]
def singles : List Nat := [2, 3, 4, 5, 9, 21, 22, 23, 26, 35, 37, 42, 50, 57, 58, 60, 63, 66, 86, 87, 103, 122, 131, 132, 139, 144, 146, 164, 168]
def aggs : List (Nat × Nat) := [(19, 1), (69, 7), (70, 7), (71, 10), (72, 10), (73, 15), (74, 15), (80, 5), (81, 5), (99, 2), (104, 3), (105, 3), (112, 7), (127, 8), (128, 8), (135, 6), (136, 6), (142, 5), (143, 5), (147, 4), (148, 4), (150, 4), (151, 4), (161, 2), (162, 2), (166, 3), (170, 5), (171, 5), (180, 5), (181, 5), (183, 2), (184, 2), (186, 2), (187, 2), (189, 6), (190, 6), (195, 2), (196, 2), (205, 4), (206, 4)]
def fieldsL : List (Nat × List Nat) := [(19, [0]), (69, [0, 1, 2, 3, 4, 5, 6]), (70, [0, 1, 2, 3, 4, 5, 6]), (71, [0, 1, 2, 3]), (72, [0, 1, 2, 3]), (73, [0, 10, 11, 12, 13, 14]), (74, [0, 10, 11, 12, 13, 14]), (80, [0, 1, 2, 3, 4]), (81, [0, 1, 2, 3, 4]), (104, [0, 1, 2]), (105, [0, 1, 2]), (112, [0, 1, 2, 3, 4, 5, 6]), (127, [0, 1, 2, 3, 4, 5, 6, 7]), (128, [0, 1, 2, 3, 4, 5, 6, 7]), (135, [0, 1, 2, 3, 4, 5]), (136, [0, 1, 2, 3, 4, 5]), (142, [0, 1, 2, 3, 4]), (143, [0, 1, 2, 3, 4]), (147, [0, 1, 2, 3]), (148, [0, 1, 2, 3]), (150, [0, 1, 2, 3]), (151, [0, 1, 2, 3]), (161, [0, 1]), (162, [0, 1]), (170, [0, 1, 2, 3, 4]), (171, [0, 1, 2, 3, 4]), (180, [0, 1, 2, 3, 4]), (181, [0, 1, 2, 3, 4]), (183, [0, 1]), (184, [0, 1]), (186, [0, 1]), (187, [0, 1]), (189, [0, 1, 2, 3, 4, 5]), (190, [0, 1, 2, 3, 4, 5]), (195, [0, 1]), (196, [0, 1]), (205, [0, 1, 2, 3]), (206, [0, 1, 2, 3])]
def slices : List (Nat × Nat) := [(22, 1), (37, 1), (50, 1), (57, 15), (103, 3), (131, 10), (144, 4), (164, 2), (168, 5)]
def arrs : List (Nat × (Nat × Nat)) := [(99, (2, 1)), (166, (3, 1))]
def zeros : List (Nat × Value) := [(2, .int .i64 0), (3, .int .i64 0), (4, .bool false), (5, .int .u8 0), (19, .agg #[.pointer none]), (21, .int .i32 0), (22, .slice none 0 0), (23, .int .u64 0), (26, .int .i64 0), (35, .int .u64 0), (37, .slice none 0 0), (42, .int .u32 0), (50, .slice none 0 0), (57, .slice none 0 0), (58, .pointer none), (60, .pointer none), (63, .pointer none), (66, .pointer none), (69, .agg #[.int .i64 0, .int .u32 0, .int .i64 0, .int .i64 0, .int .i64 0, .int .u32 0, .slice none 0 0]), (70, .agg #[.int .i64 0, .int .u32 0, .int .i64 0, .int .i64 0, .int .i64 0, .int .u32 0, .slice none 0 0]), (71, .agg #[.bool false, .bool false, .slice none 0 0, .int .i64 0, .int .u32 0, .int .i64 0, .int .i64 0, .int .i64 0, .int .u32 0, .slice none 0 0]), (72, .agg #[.bool false, .bool false, .slice none 0 0, .int .i64 0, .int .u32 0, .int .i64 0, .int .i64 0, .int .i64 0, .int .u32 0, .slice none 0 0]), (73, .agg #[.bool false, .bool false, .slice none 0 0, .int .i64 0, .int .u32 0, .int .i64 0, .int .i64 0, .int .i64 0, .int .u32 0, .slice none 0 0, .int .i64 0, .int .u32 0, .bool false, .int .u8 0, .int .u32 0]), (74, .agg #[.bool false, .bool false, .slice none 0 0, .int .i64 0, .int .u32 0, .int .i64 0, .int .i64 0, .int .i64 0, .int .u32 0, .slice none 0 0, .int .i64 0, .int .u32 0, .bool false, .int .u8 0, .int .u32 0]), (80, .agg #[.slice none 0 0, .bool false, .int .i64 0, .int .u32 0, .int .i64 0]), (81, .agg #[.slice none 0 0, .bool false, .int .i64 0, .int .u32 0, .int .i64 0]), (86, .int .u16 0), (87, .pointer none), (99, .agg #[.int .u32 0, .int .u32 0]), (103, .slice none 0 0), (104, .agg #[.int .i64 0, .int .i64 0, .int .u32 0]), (105, .agg #[.int .i64 0, .int .i64 0, .int .u32 0]), (112, .agg #[.int .i64 0, .int .u32 0, .int .i64 0, .int .i64 0, .int .i64 0, .int .u32 0, .slice none 0 0]), (122, .pointer none), (127, .agg #[.pointer none, .int .i64 0, .int .i64 0, .int .i64 0, .bool false, .int .u32 0, .slice none 0 0, .bool false]), (128, .agg #[.pointer none, .int .i64 0, .int .i64 0, .int .i64 0, .bool false, .int .u32 0, .slice none 0 0, .bool false]), (131, .slice none 0 0), (132, .pointer none), (135, .agg #[.int .u32 0, .slice none 0 0, .int .u32 0, .bool false, .bool false, .int .i64 0]), (136, .agg #[.int .u32 0, .slice none 0 0, .int .u32 0, .bool false, .bool false, .int .i64 0]), (139, .pointer none), (142, .agg #[.pointer none, .int .i64 0, .bool false, .slice none 0 0, .int .u32 0]), (143, .agg #[.pointer none, .int .i64 0, .bool false, .slice none 0 0, .int .u32 0]), (144, .slice none 0 0), (146, .pointer none), (147, .agg #[.pointer none, .pointer none, .pointer none, .pointer none]), (148, .agg #[.pointer none, .pointer none, .pointer none, .pointer none]), (150, .agg #[.int .i64 0, .slice none 0 0, .int .i64 0, .int .u32 0]), (151, .agg #[.int .i64 0, .slice none 0 0, .int .i64 0, .int .u32 0]), (161, .agg #[.pointer none, .int .i64 0]), (162, .agg #[.pointer none, .int .i64 0]), (164, .slice none 0 0), (166, .agg #[.int .u32 0, .int .u32 0, .int .u32 0]), (168, .slice none 0 0), (170, .agg #[.int .i64 0, .int .i64 0, .int .i64 0, .int .u32 0, .slice none 0 0]), (171, .agg #[.int .i64 0, .int .i64 0, .int .i64 0, .int .u32 0, .slice none 0 0]), (180, .agg #[.slice none 0 0, .bool false, .int .i64 0, .int .u32 0, .int .i64 0]), (181, .agg #[.slice none 0 0, .bool false, .int .i64 0, .int .u32 0, .int .i64 0]), (183, .agg #[.pointer none, .int .i64 0]), (184, .agg #[.pointer none, .int .i64 0]), (186, .agg #[.pointer none, .int .i64 0]), (187, .agg #[.pointer none, .int .i64 0]), (189, .agg #[.int .u32 0, .slice none 0 0, .int .u32 0, .bool false, .bool false, .int .i64 0]), (190, .agg #[.int .u32 0, .slice none 0 0, .int .u32 0, .bool false, .bool false, .int .i64 0]), (195, .agg #[.pointer none, .int .u32 0]), (196, .agg #[.pointer none, .int .u32 0]), (205, .agg #[.int .u32 0, .slice none 0 0, .int .i64 0, .bool false]), (206, .agg #[.int .u32 0, .slice none 0 0, .int .i64 0, .bool false])]
def bools : List Nat := [4]
def ptrs : List Nat := [58, 60, 63, 66, 87, 122, 132, 139, 146]
def strs : List Nat := [9]
def bytesL : List Nat := [22]
def lay : Lay :=
  { kind := getN kinds, single := memN singles, agg := getN aggs, field := getNN fieldsL, slice := getN slices, arr := getN arrs, zero := getN zeros,
    isBool := memN bools, isPtr := memN ptrs, isStr := memN strs, isBytes := memN bytesL,
    call := fun f => Nat.blt 2 f && Nat.blt f 186 }

end Go.Proofs.Ytgipackjnncabaa

/- The generator of verification conditions is sound. -/
set_option linter.unusedSimpArgs false
set_option linter.unusedVariables false
namespace Go.Vc
open Go.RowKit

section
variable {L : Lay} {P : Program} {n : Nat} {E : Env} {a : Act} {w : World} {next : Act → World → Prop} {Q : Exit → Act → World → Prop} {o : Oper}

theorem wp_of_value {v : Value} {w' : World} (hrun : (execOp a.eval o).run P w = .ok (.value v) w') (h : next (a.put o.dst v) w') : o.wp P a w next Q := by
  unfold Oper.wp; rw [hrun]; exact h
theorem wp_of_skip {w' : World} (hrun : (execOp a.eval o).run P w = .ok .skip w') (h : next (a.put o.dst undef) w') : o.wp P a w next Q := by
  unfold Oper.wp; rw [hrun]; exact h
theorem wp_of_enter {f : FuncId} {args : Array Value} {w' : World} (hrun : (execOp a.eval o).run P w = .ok (.enter f args) w')
    (h : Calls P f args w' fun e w'' => match e with | .returned v => next (a.put o.dst v) w'' | _ => False) : o.wp P a w next Q := by
  unfold Oper.wp; rw [hrun]
  refine Calls.mono h fun e w'' he => ?_
  cases e with
  | returned v => exact he
  | panicked c => exact he.elim
  | outgrown => exact he.elim

theorem evs_sound (hr : Rep n E a) : ∀ {xs : List Operand} {vs : List Value}, evs E xs = some vs → xs.map a.eval = vs
  | [], vs, h => by simp [evs] at h; simp [h]
  | x :: xs, vs, h => by
    simp only [evs] at h
    split at h
    · rename_i v hv
      split at h
      · rename_i us hus
        simp at h
        subst h
        simp [ev_sound hr hv, evs_sound hr hus]
      · cases h
    · cases h

theorem evp_sound (hr : Rep n E a) : ∀ {xs : List (Nat × Operand)} {vs : List (Nat × Value)}, evp E xs = some vs → xs.map (fun (i, x) => (i, a.eval x)) = vs
  | [], vs, h => by simp [evp] at h; simp [h]
  | (i, x) :: xs, vs, h => by
    simp only [evp] at h
    split at h
    · rename_i v hv
      split at h
      · rename_i us hus
        simp at h
        subst h
        have := evp_sound hr hus
        simp [ev_sound hr hv, this]
      · cases h
    · cases h

theorem wrap_i64 {z : Int} (h : -9223372036854775808 ≤ z ∧ z ≤ 9223372036854775807) : IntKind.i64.wrap z = z := by
  unfold IntKind.wrap IntKind.bits IntKind.signed
  simp only [Bool.true_and, decide_eq_true_eq]
  have e1 : (2 : Int) ^ 64 = 18446744073709551616 := by decide
  have e2 : (2 : Int) ^ (64 - 1) = 9223372036854775808 := by decide
  rw [e1, e2]
  split <;> omega

theorem vcBin_run {t : Nat} {op : BinOp} {k : IntKind} {x y : Int} {K : Value → Prop} (h : vcBin op k x y K) : ∃ v, (∀ w, (binOp op t (.int k x) (.int k y)).run P w = .ok v w) ∧ K v := by
  cases op <;> simp only [vcBin] at h
  case add =>
    cases k <;> first
      | exact ⟨_, fun w => by simp [binOp, Op.intArith], h _ rfl⟩
      | exact ⟨_, fun w => by simp [binOp, Op.intArith, wrap_i64 h.1], h.2⟩
  case sub =>
    cases k <;> first
      | exact ⟨_, fun w => by simp [binOp, Op.intArith], h _ rfl⟩
      | exact ⟨_, fun w => by simp [binOp, Op.intArith, wrap_i64 h.1], h.2⟩
  case mul =>
    cases k <;> first
      | exact ⟨_, fun w => by simp [binOp, Op.intArith], h _ rfl⟩
      | exact ⟨_, fun w => by simp [binOp, Op.intArith, wrap_i64 h.1], h.2⟩
  case quo => exact ⟨_, fun w => by simp [binOp, Op.intDiv, h.1], h.2 _ rfl⟩
  case rem => exact ⟨_, fun w => by simp [binOp, Op.intDiv, h.1], h.2 _ rfl⟩
  case and => exact ⟨_, fun w => by simp [binOp, Op.intBits], h _ rfl⟩
  case or => exact ⟨_, fun w => by simp [binOp, Op.intBits], h _ rfl⟩
  case xor => exact ⟨_, fun w => by simp [binOp, Op.intBits], h _ rfl⟩
  case andNot => exact ⟨_, fun w => by simp [binOp, Op.intBits], h _ rfl⟩
  case eql => exact ⟨_, fun w => by simp [binOp, Op.intCmp]; rfl, h⟩
  case neq => exact ⟨_, fun w => by simp [binOp, Op.intCmp, bne]; rfl, h⟩
  case lss => exact ⟨_, fun w => by simp [binOp, Op.intCmp], h⟩
  case leq => exact ⟨_, fun w => by simp [binOp, Op.intCmp], h⟩
  case gtr => exact ⟨_, fun w => by simp [binOp, Op.intCmp], h⟩
  case geq => exact ⟨_, fun w => by simp [binOp, Op.intCmp], h⟩

theorem vcShift_run {t : Nat} {op : BinOp} {k k' : IntKind} {x y : Int} {K : Value → Prop} (h : vcShift op k x y K) : ∃ v, (∀ w, (binOp op t (.int k x) (.int k' y)).run P w = .ok v w) ∧ K v := by
  cases op <;> simp only [vcShift] at h
  case shl => exact ⟨_, fun w => by have := h.1; simp [binOp, Op.shift, Int.not_lt.2 this], h.2 _ rfl⟩
  case shr => exact ⟨_, fun w => by have := h.1; simp [binOp, Op.shift, Int.not_lt.2 this], h.2 _ rfl⟩

theorem eqGuard_at_pointer {op : BinOp} {t : Nat} {x y : Operand} (p : Option Addr) (v : Value) : eqGuard op t x y (.pointer p) v = pure () := by cases op <;> rfl

theorem run_equalIn_ptr {t e : TypeId} (d : Nat) (h : P.underlying t = some (.pointer e)) (p : Addr) : (Op.equalIn (d + 1) t (.pointer (some p)) (.pointer none)).run P w = .ok false w := by
  simp [Op.equalIn, run_underlying h]
theorem run_equalIn_nil {t e : TypeId} (d : Nat) (h : P.underlying t = some (.pointer e)) : (Op.equalIn (d + 1) t (.pointer none) (.pointer none)).run P w = .ok true w := by
  simp [Op.equalIn, run_underlying h]
theorem run_equal_ptr {t e : TypeId} (h : P.underlying t = some (.pointer e)) (p : Addr) : (Op.equal t (.pointer (some p)) (.pointer none)).run P w = .ok false w := run_equalIn_ptr 9999 h p
theorem run_equal_nil {t e : TypeId} (h : P.underlying t = some (.pointer e)) : (Op.equal t (.pointer none) (.pointer none)).run P w = .ok true w := run_equalIn_nil 9999 h

theorem bin_wp {op : BinOp} {t ty : Nat} {x y : Operand} {u v r : Value} (ho : o.op = .binOp op t x y ty) (hx : a.eval x = u) (hy : a.eval y = v)
    (hg : eqGuard op t x y u v = pure ()) (hrun : (binOp op t u v).run P w = .ok r w) (h : next (a.put o.dst r) w) : o.wp P a w next Q :=
  wp_of_value (v := r) (w' := w) (by
    unfold execOp
    simp only [ho, hx, hy, Sem.run_bind, hg, Sem.run_pure, Result.andThen_ok, hrun]) h

theorem run_newVar (t : TypeId) (v : Value) : (newVar t v).run P w = .ok ⟨w.heap.size, 0, none⟩ (w.alloc (.cells v.cells t)) := rfl

theorem run_zero {t : TypeId} {i : TypeInfo} {z : Value} (hi : P.info? t = some i) (hz : i.zero = some z) : (zeroValue t).run P w = .ok z w := by
  unfold zeroValue
  simp [run_typeInfo w hi, hz]

theorem run_isAgg {t : TypeId} {d : TypeDesc} (h : P.underlying t = some d) : (isAgg t).run P w = .ok (isAggD d) w := by
  unfold isAgg
  simp only [Sem.run_bind, run_underlying h, Result.andThen_ok]
  cases d <;> rfl

theorem run_size {t : TypeId} {i : TypeInfo} (h : P.info? t = some i) : (sizeOf t).run P w = .ok i.size w := by
  unfold sizeOf
  simp [run_typeInfo w h]

theorem addr_add (b o i : Nat) : (⟨b, o, none⟩ : Addr).add i = ⟨b, o + i, none⟩ := by
  unfold Addr.add
  split
  · rename_i h; subst h; rfl
  · rfl

theorem map_add_zero (a0 : Option Addr) : Option.map (fun x : Addr => x.add 0) a0 = a0 := by
  cases a0 <;> simp [Addr.add]

theorem minL_run (k : IntKind) : ∀ (vs : List Value) (x z : Int), minL k x vs = some z → (vs.foldlM Builtin.min2 (.int k x)).run P w = .ok (.int k z) w
  | [], x, z, h => by simp [minL] at h; simp [h]
  | .int _ y :: vs, x, z, h => by
    simp only [minL] at h
    have := minL_run k vs _ z h
    simp only [List.foldlM_cons, Sem.run_bind, Builtin.min2, Sem.run_pure, Result.andThen_ok, this]
  | .bool _ :: vs, x, z, h => by cases h
  | .float _ _ :: vs, x, z, h => by cases h
  | .complex _ _ _ :: vs, x, z, h => by cases h
  | .string _ :: vs, x, z, h => by cases h
  | .pointer _ :: vs, x, z, h => by cases h
  | .slice _ _ _ :: vs, x, z, h => by cases h
  | .map _ :: vs, x, z, h => by cases h
  | .chan _ :: vs, x, z, h => by cases h
  | .func _ _ _ :: vs, x, z, h => by cases h
  | .nilFunc :: vs, x, z, h => by cases h
  | .iface _ _ :: vs, x, z, h => by cases h
  | .nilIface :: vs, x, z, h => by cases h
  | .agg _ :: vs, x, z, h => by cases h
  | .tuple _ :: vs, x, z, h => by cases h

theorem run_callFunc {g : FuncId} {fn : Func} {args : Array Value} (hf : P.funcs[g]? = some fn) (hn : (fn.name == "runtime.NumGoroutine") = false) (hb : fn.body.isNone = false) :
    (callFunc g args).run P w = .ok (.enter g args) w := by
  unfold callFunc
  simp only [program, bind, Sem.bind, Sem.run, hf, hn, hb]
  rfl

set_option maxHeartbeats 1000000 in
theorem vcOp_sound (hL : L.Ok P) (hr : Rep n E a) {K : Value → World → Prop} (h : vcOp L P o.op o.type E w K) (hnext : ∀ v w', K v w' → next (a.put o.dst v) w') : o.wp P a w next Q := by
  generalize ho : o.op = op at h
  cases op <;> simp only [vcOp] at h
  case move x =>
    split at h
    · rename_i v hv
      exact wp_of_value (v := v) (w' := w) (by unfold execOp; simp [ho, ev_sound hr hv]) (hnext _ _ h)
    · exact h.elim
  case assign x =>
    split at h
    · rename_i v hv
      exact wp_of_value (v := v) (w' := w) (by unfold execOp; simp [ho, ev_sound hr hv]) (hnext _ _ h)
    · exact h.elim
  case pick c x y =>
    split at h
    · rename_i β hc
      have h2 := bsel_elim h
      clear h
      rcases h2 with ⟨hβ, h⟩ | ⟨hβ, h⟩ <;> subst hβ
      · split at h
        · rename_i v hv
          exact wp_of_value (v := v) (w' := w) (by unfold execOp; simp [ho, ev_sound hr hv, ev_sound hr hc, asBool]) (hnext _ _ h)
        · exact h.elim
      · split at h
        · rename_i v hv
          exact wp_of_value (v := v) (w' := w) (by unfold execOp; simp [ho, ev_sound hr hv, ev_sound hr hc, asBool]) (hnext _ _ h)
        · exact h.elim
    · exact h.elim
  case alloc t =>
    split at h
    · rename_i v hv
      obtain ⟨i, hi, hz⟩ := hL.zero _ _ hv
      exact wp_of_value (v := .pointer (some ⟨w.heap.size, 0, none⟩)) (w' := w.alloc (.cells v.cells t))
        (by unfold execOp; simp [ho, Instr.alloc, run_zero hi hz, run_newVar]) (hnext _ _ (h _ rfl))
    · exact h.elim
  case box t x =>
    split at h
    · rename_i cs hv
      exact wp_of_value (v := .pointer (some ⟨w.heap.size, 0, none⟩)) (w' := w.alloc (.cells cs t))
        (by unfold execOp; simp [ho, Instr.box, ev_sound hr hv, run_newVar, Value.cells]) (hnext _ _ (h _ rfl))
    · rename_i v hn hv
      obtain ⟨hne, h⟩ := h
      refine wp_of_value (v := .pointer (some ⟨w.heap.size, 0, none⟩)) (w' := w.alloc (.cells #[v] t))
        (by
          have hc : v.cells = #[v] := by
            cases v <;> first | rfl | exact absurd rfl (hne _)
          unfold execOp; simp [ho, Instr.box, ev_sound hr hv, run_newVar, hc]) (hnext _ _ (h _ rfl))
    · exact h.elim
  case build t parts =>
    split at h
    · rename_i ps hp
      obtain ⟨v, hrun, hk⟩ := h
      have e : (parts.map fun (i, x) => (i, a.eval x)) = ps.toArray := by
        rw [← evp_sound hr hp]; apply Array.ext'; simp
      exact wp_of_value (v := v) (w' := w) (by unfold execOp; simp only [ho]; rw [e]; simp [hrun]) (hnext _ _ hk)
    · exact h.elim
  case buildSlice t len parts =>
    split at h
    · rename_i ps hp
      obtain ⟨v, w', hrun, hk⟩ := h
      have e : (parts.map fun (i, x) => (i, a.eval x)) = ps.toArray := by
        rw [← evp_sound hr hp]; apply Array.ext'; simp
      exact wp_of_value (v := v) (w' := w') (by unfold execOp; simp only [ho]; rw [e]; simp [hrun]) (hnext _ _ hk)
    · exact h.elim
  case load t x =>
    split at h
    · rename_i b off hx
      split at h
      · rename_i hs
        obtain ⟨v, hc, hk⟩ := h
        obtain ⟨d, hu, hd, _⟩ := hL.single _ hs
        exact wp_of_value (v := v) (w' := w) (by
          unfold execOp
          simp [ho, ev_sound hr hx, Instr.loadAt, Instr.sureAddr, loadVar, run_isAgg hu, hd, hc]) (hnext _ _ hk)
      · split at h
        · rename_i m hm
          obtain ⟨cs, hl, hc, hk⟩ := h
          obtain ⟨d, hu, hd, i, hi, hsz⟩ := hL.agg _ _ hm
          have hrun := run_loadCells_list (P := P) w ⟨b, off, none⟩ cs (fun j v hj => by rw [addr_add]; exact hc j v hj)
          rw [hl] at hrun
          exact wp_of_value (v := .agg cs.toArray) (w' := w) (by
            unfold execOp
            simp [ho, ev_sound hr hx, Instr.loadAt, Instr.sureAddr, loadVar, run_isAgg hu, hd, run_size hi, hsz, hrun]) (hnext _ _ hk)
        · exact h.elim
    · exact h.elim
  case store t x y =>
    split at h
    · rename_i b off v hx hy
      split at h
      · rename_i hs
        obtain ⟨⟨h1, h2, h3⟩, hk⟩ := h
        obtain ⟨d, hu, hd, i, hi, hsz⟩ := hL.single _ hs
        have hc : v.cells = #[v] := by cases v <;> first | rfl | (simp [Value.oneCell'] at h1)
        refine wp_of_skip (w' := w.setCell ⟨b, off, none⟩ v) ?_ (hnext _ _ (hk _ rfl))
        unfold execOp
        obtain ⟨u, hcell⟩ := Option.isSome_iff_exists.1 h2
        simp [ho, ev_sound hr hx, ev_sound hr hy, Instr.storeAt, Instr.sureAddr, storeVar, run_size hi, hsz, hc, storeCells, run_store _ _ _ _ _ h1, hcell, h3, addr_add]
      · obtain ⟨w', hrun, hk⟩ := h
        refine wp_of_skip (w' := w') ?_ (hnext _ _ hk)
        unfold execOp
        simp [ho, ev_sound hr hx, ev_sound hr hy, hrun]
    · exact h.elim
  case nilCheck x =>
    split at h
    · rename_i p hx
      exact wp_of_value (v := .pointer (some p)) (w' := w) (by unfold execOp; simp [ho, ev_sound hr hx]) (hnext _ _ h)
    · rename_i f fs cs hx
      exact wp_of_value (v := .func (.func f) fs cs) (w' := w) (by unfold execOp; simp [ho, ev_sound hr hx]) (hnext _ _ h)
    · exact h.elim
  case binOp op t x y ty =>
    split at h
    · rename_i k u k' v hx hy
      split at h
      · obtain ⟨r, hrun, hk⟩ := vcShift_run (P := P) (t := t) (k' := k') h
        exact bin_wp ho (ev_sound hr hx) (ev_sound hr hy) (by simp only [eqGuard_at_int]) (hrun w) (hnext _ _ hk)
      · obtain ⟨r, hrun, hk⟩ := vcShift_run (P := P) (t := t) (k' := k') h
        exact bin_wp ho (ev_sound hr hx) (ev_sound hr hy) (by simp only [eqGuard_at_int]) (hrun w) (hnext _ _ hk)
      · split at h
        · rename_i hk'
          obtain rfl := kn_inj hk'
          obtain ⟨r, hrun, hk⟩ := vcBin_run (P := P) (t := t) h
          exact bin_wp ho (ev_sound hr hx) (ev_sound hr hy) (by simp only [eqGuard_at_int]) (hrun w) (hnext _ _ hk)
        · exact h.elim
    · rename_i u v hx hy
      split at h
      · rename_i hb
        refine bin_wp (r := .bool (u == v)) ho (ev_sound hr hx) (ev_sound hr hy) (by simp only [eqGuard_at_bool]) ?_ (hnext _ _ h)
        simp [binOp, run_equal_bool w t _ _ (hL.isBool _ hb)]
      · rename_i hb
        refine bin_wp (r := .bool (!(u == v))) ho (ev_sound hr hx) (ev_sound hr hy) (by simp only [eqGuard_at_bool]) ?_ (hnext _ _ h)
        simp [binOp, run_equal_bool w t _ _ (hL.isBool _ hb)]
      · exact h.elim
    · rename_i p hx hy
      split at h
      · rename_i hb
        obtain ⟨e, hu⟩ := hL.isPtr _ hb
        refine bin_wp (r := .bool false) ho (ev_sound hr hx) (ev_sound hr hy) (eqGuard_at_pointer _ _) ?_ (hnext _ _ h)
        simp [binOp, run_equal_ptr hu]
      · rename_i hb
        obtain ⟨e, hu⟩ := hL.isPtr _ hb
        refine bin_wp (r := .bool true) ho (ev_sound hr hx) (ev_sound hr hy) (eqGuard_at_pointer _ _) ?_ (hnext _ _ h)
        simp [binOp, run_equal_ptr hu]
      · exact h.elim
    · rename_i hx hy
      split at h
      · rename_i hb
        obtain ⟨e, hu⟩ := hL.isPtr _ hb
        refine bin_wp (r := .bool true) ho (ev_sound hr hx) (ev_sound hr hy) (eqGuard_at_pointer _ _) ?_ (hnext _ _ h)
        simp [binOp, run_equal_nil hu]
      · rename_i hb
        obtain ⟨e, hu⟩ := hL.isPtr _ hb
        refine bin_wp (r := .bool false) ho (ev_sound hr hx) (ev_sound hr hy) (eqGuard_at_pointer _ _) ?_ (hnext _ _ h)
        simp [binOp, run_equal_nil hu]
      · exact h.elim
    · rename_i u v hx hy
      split at h
      · exact bin_wp (r := .bool (u.toList == v.toList)) ho (ev_sound hr hx) (ev_sound hr hy) (by simp only [eqGuard_at_string]) (by simp [binOp, Op.stringOp]) (hnext _ _ (h _ rfl))
      · exact bin_wp (r := .bool (!(u.toList == v.toList))) ho (ev_sound hr hx) (ev_sound hr hy) (by simp only [eqGuard_at_string]) (by simp [binOp, Op.stringOp]) (hnext _ _ (h _ rfl))
      · exact h.elim
    · exact h.elim
  case unOp op t x =>
    split at h
    · rename_i b hx
      exact wp_of_value (v := .bool !b) (w' := w) (by unfold execOp; simp [ho, ev_sound hr hx, Op.unary]) (hnext _ _ h)
    · rename_i k u hx
      split at h
      · rename_i hs
        exact wp_of_value (v := .int k _) (w' := w) (by unfold execOp; simp [ho, ev_sound hr hx, Op.unary, Op.intBits, hs]) (hnext _ _ (h _ rfl))
      · exact h.elim
    · rename_i k u hx
      exact wp_of_value (v := .int k _) (w' := w) (by unfold execOp; simp [ho, ev_sound hr hx, Op.unary, Op.intArith]) (hnext _ _ (h _ rfl))
    · exact h.elim
  case convert src dst x =>
    split at h
    · rename_i k' u hx
      split at h
      · rename_i ks k hks hk
        refine wp_of_value (v := .int k (k.wrap u)) (w' := w) ?_ (hnext _ _ (h _ rfl))
        unfold execOp
        simp [ho, ev_sound hr hx, convert, run_underlying (hL.kind _ _ hk), run_underlying (hL.kind _ _ hks), Conv.intToInt]
      · exact h.elim
    · rename_i p m c hx
      split at h
      · exact h.elim
      · split at h
        · rename_i hb hs
          obtain ⟨s, hrun, hk⟩ := h
          obtain ⟨e, hu, hue⟩ := hL.isBytes _ hb
          refine wp_of_value (v := .string s) (w' := w) ?_ (hnext _ _ hk)
          unfold execOp
          simp [ho, ev_sound hr hx, convert, run_underlying hu, run_underlying (hL.isStr _ hs), run_underlying hue, hrun]
        · obtain ⟨u, w', hrun, hk⟩ := h
          exact wp_of_value (v := u) (w' := w') (by unfold execOp; simp [ho, ev_sound hr hx, hrun]) (hnext _ _ hk)
    · exact h.elim
  case makeFunc fn first captured =>
    split at h
    · rename_i f c hf hc
      have e1 : first.map a.eval = f.toArray := by rw [← evs_sound hr hf]; apply Array.ext'; simp
      have e2 : captured.map a.eval = c.toArray := by rw [← evs_sound hr hc]; apply Array.ext'; simp
      exact wp_of_value (v := .func fn f.toArray c.toArray) (w' := w) (by unfold execOp; simp [ho, Instr.makeFunc, e1, e2]) (hnext _ _ h)
    · exact h.elim
  case makeSlice t l c =>
    split at h
    · rename_i lv cv hl hc
      obtain ⟨v, w', hrun, hk⟩ := h
      exact wp_of_value (v := v) (w' := w') (by unfold execOp; simp [ho, ev_sound hr hl, ev_sound hr hc, hrun]) (hnext _ _ hk)
    · exact h.elim
  case slice t x lo hi mx =>
    split at h
    · rename_i size a0 m c hs hx
      obtain ⟨e, hu, i, hi', hsz⟩ := hL.slice _ _ hs
      split at h
      · obtain ⟨h1, hk⟩ := h
        refine wp_of_value (v := .slice a0 m c) (w' := w) ?_ (hnext _ _ hk)
        unfold execOp
        simp [ho, ev_sound hr hx, Instr.sliceAt, Instr.slice, run_underlying hu, Instr.sliceBounds, run_size hi']
        exact fun _ => map_add_zero a0
      · rename_i h0
        split at h
        · rename_i k hv hh
          obtain ⟨⟨h1, h2⟩, hk⟩ := h
          refine wp_of_value (v := .slice a0 hv.toNat c) (w' := w) ?_ (hnext _ _ hk)
          unfold execOp
          simp [ho, ev_sound hr hx, ev_sound hr hh, Instr.sliceAt, Instr.slice, run_underlying hu, Instr.sliceBounds, Instr.sliceBound, asIntOf, h1, h2, run_size hi']
          exact fun _ => map_add_zero a0
        · exact h.elim
      · rename_i l0
        split at h
        · rename_i k lv hl
          obtain ⟨⟨h1, h2, h3⟩, hk⟩ := h
          refine wp_of_value (v := .slice (if c = lv.toNat then a0 else a0.map (·.add (lv.toNat * size))) (m - lv.toNat) (c - lv.toNat)) (w' := w) ?_ (hnext _ _ (hk _ rfl))
          unfold execOp
          simp [ho, ev_sound hr hx, ev_sound hr hl, Instr.sliceAt, Instr.slice, run_underlying hu, Instr.sliceBounds, Instr.sliceBound, asIntOf, h1, h2, run_size hi', hsz]
        · exact h.elim
      · rename_i l0 h0
        split at h
        · rename_i k lv k' hv hl hh
          obtain ⟨⟨h1, h2, h3⟩, hk⟩ := h
          refine wp_of_value (v := .slice (if c = lv.toNat then a0 else a0.map (·.add (lv.toNat * size))) (hv.toNat - lv.toNat) (c - lv.toNat)) (w' := w) ?_ (hnext _ _ (hk _ rfl))
          unfold execOp
          have h4 : 0 ≤ hv := by omega
          have h5 : ¬ max hv 0 < lv := by omega
          simp [ho, ev_sound hr hx, ev_sound hr hl, ev_sound hr hh, Instr.sliceAt, Instr.slice, run_underlying hu, Instr.sliceBounds, Instr.sliceBound, asIntOf, h1, h3, h4, run_size hi', hsz]
          exact fun hlt => absurd hlt h5
        · exact h.elim
    · exact h.elim
  case fieldAddr t x f =>
    split at h
    · rename_i b off hx
      split at h
      · rename_i d hd
        obtain ⟨fs, fd, hu, hf, hoff, i, hi, hsz⟩ := hL.field _ _ _ hd
        refine wp_of_value (v := .pointer (some ⟨b, off + d, none⟩)) (w' := w) ?_ (hnext _ _ h)
        unfold execOp
        simp [ho, ev_sound hr hx, Instr.fieldAt, run_underlying hu, hf, Instr.sureAddr, fieldPlace, run_size hi, hsz, hoff, addr_add]
      · exact h.elim
    · exact h.elim
  case indexAddr t x ix =>
    split at h
    · rename_i a0 m c k i hx hi
      split at h
      · rename_i hs
        obtain ⟨e, hu, inf, hinf, hsz⟩ := hL.slice _ _ hs
        obtain ⟨b, off, rfl, hb, hk⟩ := h
        refine wp_of_value (v := .pointer (some ⟨b, off + i.toNat, none⟩)) (w' := w) ?_ (hnext _ _ hk)
        unfold execOp
        simp [ho, ev_sound hr hx, ev_sound hr hi, Instr.indexAt, asIntOf, run_underlying hu, hb, run_size hinf, hsz, addr_add]
      · rename_i size hne hs
        obtain ⟨e, hu, inf, hinf, hsz⟩ := hL.slice _ _ hs
        obtain ⟨b, off, rfl, hb, hk⟩ := h
        refine wp_of_value (v := .pointer (some ⟨b, off + i.toNat * size, none⟩)) (w' := w) ?_ (hnext _ _ hk)
        unfold execOp
        simp [ho, ev_sound hr hx, ev_sound hr hi, Instr.indexAt, asIntOf, run_underlying hu, hb, run_size hinf, hsz, addr_add]
      · exact h.elim
    · rename_i b off k i hx hi
      split at h
      · rename_i m size hs
        obtain ⟨e, hu, inf, hinf, hsz⟩ := hL.arr _ _ _ hs
        obtain ⟨hb, hk⟩ := h
        refine wp_of_value (v := .pointer (some ⟨b, off + i.toNat * size, none⟩)) (w' := w) ?_ (hnext _ _ hk)
        unfold execOp
        simp [ho, ev_sound hr hx, ev_sound hr hi, Instr.indexAt, asIntOf, run_underlying hu, hb, run_size hinf, hsz, addr_add, Instr.sureAddr]
      · exact h.elim
    · exact h.elim
  case extract t i =>
    split at h
    · rename_i vs hx
      split at h
      · rename_i v hv
        have hv' : vs[i]? = some v := by simpa using hv
        exact wp_of_value (v := v) (w' := w) (by unfold execOp; simp [ho, ev_sound hr hx, Instr.extract, hv']) (hnext _ _ h)
      · exact h.elim
    · exact h.elim
  case call c =>
    split at h
    · rename_i f hcal
      split at h
      · rename_i g first captured args hf hargs
        split at h
        · rename_i hcall
          obtain ⟨fn, hfn, hname, hbody⟩ := hL.call _ hcall
          have e1 : c.args.map a.eval = args.toArray := by rw [← evs_sound hr hargs]; apply Array.ext'; simp
          have e2 : (first ++ args.toArray) ++ captured = ((first.toList ++ args) ++ captured.toList).toArray := by apply Array.ext'; simp
          refine wp_of_enter (f := g) (args := ((first.toList ++ args) ++ captured.toList).toArray) (w' := w) ?_ (h.mono fun e w'' he => ?_)
          · unfold execOp
            simp only [ho, resolve, hcal, ev_sound hr hf, Deferred.ofValue, e1, Sem.run_bind, Sem.run_pure, Result.andThen_ok, invoke, e2, run_callFunc hfn hname hbody]
          · cases e with
            | returned v => exact hnext _ _ he
            | panicked _ => exact he.elim
            | outgrown => exact he.elim
        · exact h.elim
      · exact h.elim
    · rename_i b hcal
      split at h
      · rename_i m cp u t hargs hty
        split at h
        · rename_i size hs
          obtain ⟨e, hu, _⟩ := hL.slice _ _ hs
          have e1 : c.args.map a.eval = #[.slice m cp u] := by rw [show c.args.map a.eval = (c.args.toList.map a.eval).toArray by apply Array.ext'; simp, evs_sound hr hargs]
          have e2 : c.argTypes = #[t] := by rw [show c.argTypes = c.argTypes.toList.toArray by simp, hty]
          refine wp_of_value (v := .int .i64 cp) (w' := w) ?_ (hnext _ _ h)
          unfold execOp
          simp [ho, resolve, hcal, e1, e2, invoke, builtin, Builtin.len_, run_underlying hu, goInt]
        · exact h.elim
      · rename_i s x t u hargs hty
        obtain ⟨v, w', hrun, hk⟩ := h
        have e1 : c.args.map a.eval = #[s, x] := by rw [show c.args.map a.eval = (c.args.toList.map a.eval).toArray by apply Array.ext'; simp, evs_sound hr hargs]
        have e2 : c.argTypes = #[t, u] := by rw [show c.argTypes = c.argTypes.toList.toArray by simp, hty]
        refine wp_of_value (v := v) (w' := w') ?_ (hnext _ _ hk)
        unfold execOp
        simp only [ho, resolve, hcal, e1, e2, invoke, builtin, Sem.run_bind, Sem.run_pure, Result.andThen_ok, hrun]
      · rename_i s x t u hargs hty
        obtain ⟨v, w', hrun, hk⟩ := h
        have e1 : c.args.map a.eval = #[s, x] := by rw [show c.args.map a.eval = (c.args.toList.map a.eval).toArray by apply Array.ext'; simp, evs_sound hr hargs]
        have e2 : c.argTypes = #[t, u] := by rw [show c.argTypes = c.argTypes.toList.toArray by simp, hty]
        refine wp_of_value (v := v) (w' := w') ?_ (hnext _ _ hk)
        unfold execOp
        simp only [ho, resolve, hcal, e1, e2, invoke, builtin, Sem.run_bind, Sem.run_pure, Result.andThen_ok, hrun]
      · rename_i k x vs hargs
        split at h
        · rename_i z hz
          have e1 : c.args.map a.eval = (.int k x :: vs).toArray := by rw [show c.args.map a.eval = (c.args.toList.map a.eval).toArray by apply Array.ext'; simp, evs_sound hr hargs]
          refine wp_of_value (v := .int k z) (w' := w) ?_ (hnext _ _ h)
          unfold execOp
          simp only [ho, resolve, hcal, e1, invoke, builtin, Builtin.min_, Sem.run_bind, Sem.run_pure, Result.andThen_ok, minL_run k vs x z hz]
        · exact h.elim
      · exact h.elim
    · exact h.elim
  all_goals exact h.elim

theorem bin_run {op : BinOp} {t ty : Nat} {x y : Operand} {u v r : Value} (ho : o.op = .binOp op t x y ty) (hx : a.eval x = u) (hy : a.eval y = v)
    (hg : eqGuard op t x y u v = pure ()) (hrun : (binOp op t u v).run P w = .ok r w) : (execOp a.eval o).run P w = .ok (.value r) w := by
  unfold execOp
  simp only [ho, hx, hy, Sem.run_bind, hg, Sem.run_pure, Result.andThen_ok, hrun]

/-- 0: works with values alone · 1: reads memory · 2: all else -/
def opClass (L : Lay) : Op → Nat
  | .move _ => 0
  | .assign _ => 0
  | .pick _ _ _ => 0
  | .build _ _ => 0
  | .nilCheck _ => 0
  | .binOp _ _ _ _ _ => 0
  | .unOp _ _ _ => 0
  | .makeFunc _ _ _ => 0
  | .slice _ _ _ _ _ => 0
  | .fieldAddr _ _ _ => 0
  | .indexAddr _ _ _ => 0
  | .extract _ _ => 0
  | .load _ _ => 1
  | .convert src dst _ => match L.kind src, L.kind dst with
    | some _, some _ => 0
    | _, _ => match L.isBytes src, L.isStr dst with
      | true, true => 1
      | _, _ => 2
  | .call c => match c.callee with
    | .builtin .len => 0
    | .builtin .min => 0
    | _ => 2
  | _ => 2

set_option maxHeartbeats 1000000 in
theorem vcOp_pure (hL : L.Ok P) (hr : Rep n E a) {K : Value → World → Prop} (hc : opClass L o.op = 0) (h : vcOp L P o.op o.type E w K) : ∃ v, (∀ w', (execOp a.eval o).run P w' = .ok (.value v) w') ∧ K v w := by
  generalize ho : o.op = op at h hc
  cases op <;> simp only [vcOp] at h <;> first | (cases hc; done) | skip
  case move x =>
    split at h
    · rename_i v hv
      exact ⟨v, fun w => (by unfold execOp; simp [ho, ev_sound hr hv]), h⟩
    · exact h.elim
  case assign x =>
    split at h
    · rename_i v hv
      exact ⟨v, fun w => (by unfold execOp; simp [ho, ev_sound hr hv]), h⟩
    · exact h.elim
  case pick c x y =>
    split at h
    · rename_i β hc
      have h2 := bsel_elim h
      clear h
      rcases h2 with ⟨hβ, h⟩ | ⟨hβ, h⟩ <;> subst hβ
      · split at h
        · rename_i v hv
          exact ⟨v, fun w => (by unfold execOp; simp [ho, ev_sound hr hv, ev_sound hr hc, asBool]), h⟩
        · exact h.elim
      · split at h
        · rename_i v hv
          exact ⟨v, fun w => (by unfold execOp; simp [ho, ev_sound hr hv, ev_sound hr hc, asBool]), h⟩
        · exact h.elim
    · exact h.elim
  case build t parts =>
    split at h
    · rename_i ps hp
      obtain ⟨v, hrun, hk⟩ := h
      have e : (parts.map fun (i, x) => (i, a.eval x)) = ps.toArray := by
        rw [← evp_sound hr hp]; apply Array.ext'; simp
      exact ⟨v, fun w => (by unfold execOp; simp only [ho]; rw [e]; simp [hrun]), hk⟩
    · exact h.elim
  case nilCheck x =>
    split at h
    · rename_i p hx
      exact ⟨.pointer (some p), fun w => (by unfold execOp; simp [ho, ev_sound hr hx]), h⟩
    · rename_i f fs cs hx
      exact ⟨.func (.func f) fs cs, fun w => (by unfold execOp; simp [ho, ev_sound hr hx]), h⟩
    · exact h.elim
  case binOp op t x y ty =>
    split at h
    · rename_i k u k' v hx hy
      split at h
      · obtain ⟨r, hrun, hk⟩ := vcShift_run (P := P) (t := t) (k' := k') h
        exact ⟨_, fun w => bin_run ho (ev_sound hr hx) (ev_sound hr hy) (by simp only [eqGuard_at_int]) (hrun w), hk⟩
      · obtain ⟨r, hrun, hk⟩ := vcShift_run (P := P) (t := t) (k' := k') h
        exact ⟨_, fun w => bin_run ho (ev_sound hr hx) (ev_sound hr hy) (by simp only [eqGuard_at_int]) (hrun w), hk⟩
      · split at h
        · rename_i hk'
          obtain rfl := kn_inj hk'
          obtain ⟨r, hrun, hk⟩ := vcBin_run (P := P) (t := t) h
          exact ⟨_, fun w => bin_run ho (ev_sound hr hx) (ev_sound hr hy) (by simp only [eqGuard_at_int]) (hrun w), hk⟩
        · exact h.elim
    · rename_i u v hx hy
      split at h
      · rename_i hb
        refine ⟨_, fun w => bin_run (r := .bool (u == v)) ho (ev_sound hr hx) (ev_sound hr hy) (by simp only [eqGuard_at_bool]) ?_, h⟩
        simp [binOp, run_equal_bool w t _ _ (hL.isBool _ hb)]
      · rename_i hb
        refine ⟨_, fun w => bin_run (r := .bool (!(u == v))) ho (ev_sound hr hx) (ev_sound hr hy) (by simp only [eqGuard_at_bool]) ?_, h⟩
        simp [binOp, run_equal_bool w t _ _ (hL.isBool _ hb)]
      · exact h.elim
    · rename_i p hx hy
      split at h
      · rename_i hb
        obtain ⟨e, hu⟩ := hL.isPtr _ hb
        refine ⟨_, fun w => bin_run (r := .bool false) ho (ev_sound hr hx) (ev_sound hr hy) (eqGuard_at_pointer _ _) ?_, h⟩
        simp [binOp, run_equal_ptr hu]
      · rename_i hb
        obtain ⟨e, hu⟩ := hL.isPtr _ hb
        refine ⟨_, fun w => bin_run (r := .bool true) ho (ev_sound hr hx) (ev_sound hr hy) (eqGuard_at_pointer _ _) ?_, h⟩
        simp [binOp, run_equal_ptr hu]
      · exact h.elim
    · rename_i hx hy
      split at h
      · rename_i hb
        obtain ⟨e, hu⟩ := hL.isPtr _ hb
        refine ⟨_, fun w => bin_run (r := .bool true) ho (ev_sound hr hx) (ev_sound hr hy) (eqGuard_at_pointer _ _) ?_, h⟩
        simp [binOp, run_equal_nil hu]
      · rename_i hb
        obtain ⟨e, hu⟩ := hL.isPtr _ hb
        refine ⟨_, fun w => bin_run (r := .bool false) ho (ev_sound hr hx) (ev_sound hr hy) (eqGuard_at_pointer _ _) ?_, h⟩
        simp [binOp, run_equal_nil hu]
      · exact h.elim
    · rename_i u v hx hy
      split at h
      · exact ⟨_, fun w => bin_run (r := .bool (u.toList == v.toList)) ho (ev_sound hr hx) (ev_sound hr hy) (by simp only [eqGuard_at_string]) (by simp [binOp, Op.stringOp]), h _ rfl⟩
      · exact ⟨_, fun w => bin_run (r := .bool (!(u.toList == v.toList))) ho (ev_sound hr hx) (ev_sound hr hy) (by simp only [eqGuard_at_string]) (by simp [binOp, Op.stringOp]), h _ rfl⟩
      · exact h.elim
    · exact h.elim
  case unOp op t x =>
    split at h
    · rename_i b hx
      exact ⟨.bool !b, fun w => (by unfold execOp; simp [ho, ev_sound hr hx, Op.unary]), h⟩
    · rename_i k u hx
      split at h
      · rename_i hs
        exact ⟨.int k _, fun w => (by unfold execOp; simp [ho, ev_sound hr hx, Op.unary, Op.intBits, hs]), (h _ rfl)⟩
      · exact h.elim
    · rename_i k u hx
      exact ⟨.int k _, fun w => (by unfold execOp; simp [ho, ev_sound hr hx, Op.unary, Op.intArith]), (h _ rfl)⟩
    · exact h.elim
  case convert src dst x =>
    split at h
    · rename_i k' u hx
      split at h
      · rename_i ks k hks hk
        refine ⟨.int k (k.wrap u), fun w => ?_, (h _ rfl)⟩
        unfold execOp
        simp [ho, ev_sound hr hx, convert, run_underlying (hL.kind _ _ hk), run_underlying (hL.kind _ _ hks), Conv.intToInt]
      · exact h.elim
    · rename_i p m c hx
      split at h
      · exact h.elim
      · rename_i hk
        simp only [opClass, hk] at hc
        split at hc <;> cases hc
    · exact h.elim
  case makeFunc fn first captured =>
    split at h
    · rename_i f c hf hc
      have e1 : first.map a.eval = f.toArray := by rw [← evs_sound hr hf]; apply Array.ext'; simp
      have e2 : captured.map a.eval = c.toArray := by rw [← evs_sound hr hc]; apply Array.ext'; simp
      exact ⟨.func fn f.toArray c.toArray, fun w => (by unfold execOp; simp [ho, Instr.makeFunc, e1, e2]), h⟩
    · exact h.elim
  case slice t x lo hi mx =>
    split at h
    · rename_i size a0 m c hs hx
      obtain ⟨e, hu, i, hi', hsz⟩ := hL.slice _ _ hs
      split at h
      · obtain ⟨h1, hk⟩ := h
        refine ⟨.slice a0 m c, fun w => ?_, hk⟩
        unfold execOp
        simp [ho, ev_sound hr hx, Instr.sliceAt, Instr.slice, run_underlying hu, Instr.sliceBounds, run_size hi']
        exact fun _ => map_add_zero a0
      · rename_i h0
        split at h
        · rename_i k hv hh
          obtain ⟨⟨h1, h2⟩, hk⟩ := h
          refine ⟨.slice a0 hv.toNat c, fun w => ?_, hk⟩
          unfold execOp
          simp [ho, ev_sound hr hx, ev_sound hr hh, Instr.sliceAt, Instr.slice, run_underlying hu, Instr.sliceBounds, Instr.sliceBound, asIntOf, h1, h2, run_size hi']
          exact fun _ => map_add_zero a0
        · exact h.elim
      · rename_i l0
        split at h
        · rename_i k lv hl
          obtain ⟨⟨h1, h2, h3⟩, hk⟩ := h
          refine ⟨.slice (if c = lv.toNat then a0 else a0.map (·.add (lv.toNat * size))) (m - lv.toNat) (c - lv.toNat), fun w => ?_, (hk _ rfl)⟩
          unfold execOp
          simp [ho, ev_sound hr hx, ev_sound hr hl, Instr.sliceAt, Instr.slice, run_underlying hu, Instr.sliceBounds, Instr.sliceBound, asIntOf, h1, h2, run_size hi', hsz]
        · exact h.elim
      · rename_i l0 h0
        split at h
        · rename_i k lv k' hv hl hh
          obtain ⟨⟨h1, h2, h3⟩, hk⟩ := h
          refine ⟨.slice (if c = lv.toNat then a0 else a0.map (·.add (lv.toNat * size))) (hv.toNat - lv.toNat) (c - lv.toNat), fun w => ?_, (hk _ rfl)⟩
          unfold execOp
          have h4 : 0 ≤ hv := by omega
          have h5 : ¬ max hv 0 < lv := by omega
          simp [ho, ev_sound hr hx, ev_sound hr hl, ev_sound hr hh, Instr.sliceAt, Instr.slice, run_underlying hu, Instr.sliceBounds, Instr.sliceBound, asIntOf, h1, h3, h4, run_size hi', hsz]
          exact fun hlt => absurd hlt h5
        · exact h.elim
    · exact h.elim
  case fieldAddr t x f =>
    split at h
    · rename_i b off hx
      split at h
      · rename_i d hd
        obtain ⟨fs, fd, hu, hf, hoff, i, hi, hsz⟩ := hL.field _ _ _ hd
        refine ⟨.pointer (some ⟨b, off + d, none⟩), fun w => ?_, h⟩
        unfold execOp
        simp [ho, ev_sound hr hx, Instr.fieldAt, run_underlying hu, hf, Instr.sureAddr, fieldPlace, run_size hi, hsz, hoff, addr_add]
      · exact h.elim
    · exact h.elim
  case indexAddr t x ix =>
    split at h
    · rename_i a0 m c k i hx hi
      split at h
      · rename_i hs
        obtain ⟨e, hu, inf, hinf, hsz⟩ := hL.slice _ _ hs
        obtain ⟨b, off, rfl, hb, hk⟩ := h
        refine ⟨.pointer (some ⟨b, off + i.toNat, none⟩), fun w => ?_, hk⟩
        unfold execOp
        simp [ho, ev_sound hr hx, ev_sound hr hi, Instr.indexAt, asIntOf, run_underlying hu, hb, run_size hinf, hsz, addr_add]
      · rename_i size hne hs
        obtain ⟨e, hu, inf, hinf, hsz⟩ := hL.slice _ _ hs
        obtain ⟨b, off, rfl, hb, hk⟩ := h
        refine ⟨.pointer (some ⟨b, off + i.toNat * size, none⟩), fun w => ?_, hk⟩
        unfold execOp
        simp [ho, ev_sound hr hx, ev_sound hr hi, Instr.indexAt, asIntOf, run_underlying hu, hb, run_size hinf, hsz, addr_add]
      · exact h.elim
    · rename_i b off k i hx hi
      split at h
      · rename_i m size hs
        obtain ⟨e, hu, inf, hinf, hsz⟩ := hL.arr _ _ _ hs
        obtain ⟨hb, hk⟩ := h
        refine ⟨.pointer (some ⟨b, off + i.toNat * size, none⟩), fun w => ?_, hk⟩
        unfold execOp
        simp [ho, ev_sound hr hx, ev_sound hr hi, Instr.indexAt, asIntOf, run_underlying hu, hb, run_size hinf, hsz, addr_add, Instr.sureAddr]
      · exact h.elim
    · exact h.elim
  case extract t i =>
    split at h
    · rename_i vs hx
      split at h
      · rename_i v hv
        have hv' : vs[i]? = some v := by simpa using hv
        exact ⟨v, fun w => (by unfold execOp; simp [ho, ev_sound hr hx, Instr.extract, hv']), h⟩
      · exact h.elim
    · exact h.elim
  case call c =>
    split at h
    · rename_i f hcal
      simp [opClass, hcal] at hc
    · rename_i b hcal
      split at h
      · rename_i m cp u t hargs hty
        split at h
        · rename_i size hs
          obtain ⟨e, hu, _⟩ := hL.slice _ _ hs
          have e1 : c.args.map a.eval = #[.slice m cp u] := by rw [show c.args.map a.eval = (c.args.toList.map a.eval).toArray by apply Array.ext'; simp, evs_sound hr hargs]
          have e2 : c.argTypes = #[t] := by rw [show c.argTypes = c.argTypes.toList.toArray by simp, hty]
          refine ⟨.int .i64 cp, fun w => ?_, h⟩
          unfold execOp
          simp [ho, resolve, hcal, e1, e2, invoke, builtin, Builtin.len_, run_underlying hu, goInt]
        · exact h.elim
      · simp [opClass, hcal] at hc
      · simp [opClass, hcal] at hc
      · rename_i k x vs hargs
        split at h
        · rename_i z hz
          have e1 : c.args.map a.eval = (.int k x :: vs).toArray := by rw [show c.args.map a.eval = (c.args.toList.map a.eval).toArray by apply Array.ext'; simp, evs_sound hr hargs]
          refine ⟨.int k z, fun w => ?_, h⟩
          unfold execOp
          simp only [ho, resolve, hcal, e1, invoke, builtin, Builtin.min_, Sem.run_bind, Sem.run_pure, Result.andThen_ok, minL_run k vs x z hz]
        · exact h.elim
      · exact h.elim
    · exact h.elim

theorem vcPut_sound {n : Nat} {E : Env} {a : Act} (hr : Rep n E a) {dst : Option Nat} {v : Value} {K : Env → Prop} (h : vcPut n dst v E K) : ∃ E', Rep n E' (a.put dst v) ∧ K E' := by
  cases dst with
  | none => exact ⟨E, hr, h⟩
  | some d =>
    simp only [vcPut] at h
    split at h
    · rename_i hd
      exact ⟨_, hr.put (by simpa [Nat.blt_eq] using hd) v, h⟩
    · exact h.elim

theorem yielded_of {ops : Array Oper} {j d : Nat} {v : Value} (hr : Rep n E a) (hd : (ops.toList[j]?).bind (·.dst) = some d) (hv : look E d = some v) :
    yielded ops a.tmps j = match v with | .bool b => some b | _ => none := by
  have h1 : (ops[j]?).bind (·.dst) = some d := by simpa using hd
  unfold yielded
  rw [h1]
  simp only [Option.bind_some]
  rw [hr.vals _ _ hv]
  cases v <;> rfl

theorem vcOps_sound (hL : L.Ok P) {ops : Array Oper} {Q' : Exit → Act → World → Prop} : ∀ (os : List Oper) (E : Env) (a : Act) (w : World) (K : Env → World → Prop), Rep n E a →
    vcOps L P n ops os E w K → (∀ E' a' w', Rep n E' a' → K E' w' → Q' .normal a' w') → wpList P ops Q' os a w
  | [], E, a, w, K, hr, h, hK => wpList_nil (hK E a w hr h)
  | o :: os, E, a, w, K, hr, h, hK => by
    have run : ∀ (E : Env), Rep n E a → vcOp L P o.op o.type E w (fun v w' => vcPut n o.dst v E fun E' => vcOps L P n ops os E' w' K) → o.wp P a w (wpList P ops Q' os) Q' := by
      intro E hr h
      refine vcOp_sound hL hr h fun v w' hv => ?_
      obtain ⟨E', hr', h'⟩ := vcPut_sound hr hv
      exact vcOps_sound hL os E' _ w' K hr' h' hK
    have skip : ∀ (E : Env), Rep n E a → (vcPut n o.dst undef E fun E' => vcOps L P n ops os E' w K) → wpList P ops Q' os (a.put o.dst undef) w := by
      intro E hr h
      obtain ⟨E', hr', h'⟩ := vcPut_sound hr h
      exact vcOps_sound hL os E' _ w K hr' h' hK
    unfold vcOps at h
    refine wpList_step fun K' hK' => ?_
    have run' : ∀ (E : Env), Rep n E a → vcOp L P o.op o.type E w (fun v w' => vcPut n o.dst v E fun E' => vcOps L P n ops os E' w' K) → o.wp P a w K' Q' := by
      intro E hr h
      refine vcOp_sound hL hr h fun v w' hv => ?_
      obtain ⟨E', hr', h'⟩ := vcPut_sound hr hv
      exact hK' _ _ (vcOps_sound hL os E' _ w' K hr' h' hK)
    split at h
    · rename_i hg
      simp only [Region.wanted, hg, if_true]
      exact run' E hr h
    · rename_i j want hg
      split at h
      · rename_i d hd
        split at h
        · rename_i β hv
          have hy := yielded_of hr hd hv
          have hw : Region.wanted o (yielded ops a.tmps) = (β == want) := by
            simp only [Region.wanted, hg, hy]
            cases β <;> cases want <;> rfl
          rw [hw]
          have h2 := bsel_elim h
          clear h
          rcases h2 with ⟨hβ, h⟩ | ⟨hβ, h⟩ <;> subst hβ
          · cases want
            · rw [if_neg (by decide)]
              exact hK' _ _ (skip _ (hr.again hv) h)
            · simp only [beq_self_eq_true, if_true]
              exact run' _ (hr.again hv) h
          · cases want
            · simp only [beq_self_eq_true, if_true]
              exact run' _ (hr.again hv) h
            · rw [if_neg (by decide)]
              exact hK' _ _ (skip _ (hr.again hv) h)
        · rename_i vs hv
          have hy := yielded_of hr hd hv
          have hw : Region.wanted o (yielded ops a.tmps) = false := by
            simp only [Region.wanted, hg, hy]; rfl
          simp only [hw, Bool.false_eq_true, if_false]
          exact hK' _ _ (skip _ hr h)
        · exact h.elim
      · exact h.elim

theorem vc_sound (hL : L.Ok P) : ∀ (c : Code) (E : Env) (a : Act) (w : World) (Q : Exit → Env → World → Prop), Rep n E a → vc L P n c E w Q → c.wp P (lift n Q) a w
  | .skip, E, a, w, Q, hr, h => wp_skip ⟨E, hr, h⟩
  | .label _, E, a, w, Q, hr, h => wp_label ⟨E, hr, h⟩
  | .region id ops false, E, a, w, Q, hr, h => by
    unfold vc at h
    simp only at h
    split at h
    · exact wp_region_list (vcOps_sound hL _ E a w _ hr h fun E' a' w' hr' hq => ⟨E', hr', hq⟩)
    · unfold vcReg at h; exact h a hr
  | .region id ops true, E, a, w, Q, hr, h => by unfold vc vcDraw at h; exact h a hr
  | .seq x y, E, a, w, Q, hr, h => by
    refine wp_seq (wp_mono (vc_sound hL x E a w _ hr h) fun e a' w' he => ?_)
    obtain ⟨E', hr', hq⟩ := he
    cases e with
    | normal => exact vc_sound hL y E' a' w' Q hr' hq
    | exit i => exact ⟨E', hr', hq⟩
    | goto i => exact ⟨E', hr', hq⟩
    | ret => exact ⟨E', hr', hq⟩
    | panic i => exact ⟨E', hr', hq⟩
    | outgrown => exact ⟨E', hr', hq⟩
  | .cond c x y, E, a, w, Q, hr, h => by unfold vc vcCond at h; exact h a hr
  | .block id c, E, a, w, Q, hr, h => by
    refine wp_block (wp_mono (vc_sound hL c E a w _ hr h) fun e a' w' he => ?_)
    obtain ⟨E', hr', hq⟩ := he
    cases e with
    | normal => exact ⟨E', hr', hq⟩
    | exit i =>
      simp only [Exit.inBlock]
      simp only at hq
      split at hq
      · rename_i hb
        rw [if_pos (Nat.eq_of_beq_eq_true hb)]
        exact ⟨E', hr', hq⟩
      · rename_i hb
        rw [if_neg (fun e => by subst e; simp at hb)]
        exact ⟨E', hr', hq⟩
    | goto i => exact ⟨E', hr', hq⟩
    | ret => exact ⟨E', hr', hq⟩
    | panic i => exact ⟨E', hr', hq⟩
    | outgrown => exact ⟨E', hr', hq⟩
  | .loop c, E, a, w, Q, hr, h => by unfold vc vcLoop at h; exact h a hr
  | .exit id, E, a, w, Q, hr, h => wp_exit ⟨E, hr, h⟩
  | .ret, E, a, w, Q, hr, h => wp_ret ⟨E, hr, h⟩
  | .rangeFunc _ _ _ _, E, a, w, Q, hr, h => h.elim
  | .scope _, E, a, w, Q, hr, h => h.elim
  | .goto _, E, a, w, Q, hr, h => h.elim
  | .refuse _, E, a, w, Q, hr, h => h.elim

/-! ### Functions -/
def resOf (tmps : Array Value) : ResultVar → Sem Value
  | .tmp t => pure (tmps.getD t undef)
  | .cell a t => do loadVar t (← asAddr (tmps.getD a undef))

theorem vcRes_sound (hL : L.Ok P) (hr : Rep n E a) : ∀ (rs : List ResultVar) (K : List Value → Prop), vcRes L E w rs K → ∃ vs, (rs.mapM (resOf a.tmps)).run P w = .ok vs w ∧ K vs ∧ vs.length = rs.length
  | [], K, h => ⟨[], rfl, h, rfl⟩
  | .tmp t :: rs, K, h => by
    unfold vcRes at h
    split at h
    · rename_i v hv
      obtain ⟨vs, hrun, hk, hl⟩ := vcRes_sound hL hr rs _ h
      refine ⟨v :: vs, ?_, hk, by simp [hl]⟩
      have := hr.vals t v hv
      simp [resOf, hrun, Array.getD_eq_getD_getElem?, this]
    · exact h.elim
  | .cell q t :: rs, K, h => by
    unfold vcRes at h
    split at h
    · rename_i b off hv
      have hq := hr.vals q _ hv
      split at h
      · rename_i hs
        obtain ⟨v, hc, h⟩ := h
        obtain ⟨d, hu, hd, _⟩ := hL.single _ hs
        obtain ⟨vs, hrun, hk, hl⟩ := vcRes_sound hL hr rs _ h
        refine ⟨v :: vs, ?_, hk, by simp [hl]⟩
        simp [resOf, hrun, Array.getD_eq_getD_getElem?, hq, asAddr, loadVar, run_isAgg hu, hd, hc]
      · split at h
        · rename_i m hm
          obtain ⟨cs, hcl, hc, h⟩ := h
          obtain ⟨d, hu, hd, i, hi, hsz⟩ := hL.agg _ _ hm
          have hload := run_loadCells_list (P := P) w ⟨b, off, none⟩ cs (fun j v hj => by rw [addr_add]; exact hc j v hj)
          rw [hcl] at hload
          obtain ⟨vs, hrun, hk, hl⟩ := vcRes_sound hL hr rs _ h
          refine ⟨.agg cs.toArray :: vs, ?_, hk, by simp [hl]⟩
          simp [resOf, hrun, Array.getD_eq_getD_getElem?, hq, asAddr, loadVar, run_isAgg hu, hd, run_size hi, hsz, hload]
        · exact h.elim
    · exact h.elim

theorem run_results {fn : Func} {tmps : Array Value} {vs : List Value} (h : (fn.results.toList.mapM (resOf tmps)).run P w = .ok vs w) :
    (results fn tmps).run P w = .ok (match vs with | [v] => v | vs => .tuple vs.toArray) w := by
  have e : fn.results.mapM (resOf tmps) = (do let l ← fn.results.toList.mapM (resOf tmps); pure l.toArray) := by
    rw [Array.mapM_eq_mapM_toList]; simp [Functor.map]
  have e2 : results fn tmps = (do let vs ← fn.results.mapM (resOf tmps); pure (if h : vs.size = 1 then vs[0] else .tuple vs)) := by
    unfold results
    congr 1
  rw [e2, e]
  simp only [Sem.run_bind, h, Result.andThen_ok, Sem.run_pure]
  match vs with
  | [] => rfl
  | [v] => rfl
  | _ :: _ :: _ => simp

theorem argEnv_look : ∀ (vs : List Value) (i t : Nat) (v : Value), look (argEnv i vs) t = some v → i ≤ t ∧ vs[t - i]? = some v
  | [], i, t, v, h => by cases h
  | u :: us, i, t, v, h => by
    simp only [argEnv] at h
    by_cases e : i = t
    · subst e
      rw [look_cons_same] at h
      simpa using h
    · rw [look_cons_other e] at h
      obtain ⟨h1, h2⟩ := argEnv_look us (i + 1) t v h
      refine ⟨by omega, ?_⟩
      rw [show t - i = (t - (i + 1)) + 1 by omega]
      simpa using h2

/-- A contract's post: it returns, and so. -/
def Ret (R : Value → World → Prop) : Ending → World → Prop
  | .returned v, w => R v w
  | _, _ => False

theorem Calls.ret {P : Program} {f : FuncId} {args : Array Value} {w : World} {R K : Value → World → Prop} (h : Calls P f args w (Ret R)) (hk : ∀ v w', R v w' → K v w') :
    Calls P f args w fun e w' => match e with | .returned v => K v w' | _ => False :=
  h.mono fun e w' he => by
    cases e with
    | returned v => exact hk v w' he
    | panicked _ => exact he.elim
    | outgrown => exact he.elim

theorem calls_of_vc {f : FuncId} {fn : Func} {args : List Value} {R : Value → World → Prop} (hL : L.Ok P) (hf : P.funcs[f]? = some fn)
    (h : vcFn L P fn args w R) (hsz : Nat.ble args.length fn.ntmps = true) : Calls P f args.toArray w (Ret R) := by
  unfold vcFn at h
  split at h
  · rename_i c hb
    refine calls_of_wp hf hb (wp_mono (vc_sound hL c (argEnv 0 args) _ w _ ?_ h) fun e a' w' he => ?_)
    · have hsz := Nat.le_of_ble_eq_true hsz
      refine ⟨by simp; omega, rfl, fun t v hv => ?_⟩
      obtain ⟨_, h2⟩ := argEnv_look args 0 t v hv
      have ht : t < args.length := by
        rcases Nat.lt_or_ge t args.length with h' | h'
        · exact h'
        · simp [List.getElem?_eq_none h'] at h2
      simp only [Nat.sub_zero] at h2
      simp [Array.getElem?_append, ht, h2]
      simpa [List.getElem?_eq_getElem ht] using h2
    · obtain ⟨E', hr, hq⟩ := he
      have key : vcRes L E' w' fn.results.toList (fun vs => match vs with
          | [v] => R v w'
          | vs => R (.tuple vs.toArray) w') → a'.defers = [] ∧ ∃ v, (results fn a'.tmps).run P w' = .ok v w' ∧ R v w' := by
        intro hres
        obtain ⟨vs, hrun, hk, _⟩ := vcRes_sound hL hr _ _ hres
        refine ⟨hr.defers, _, run_results hrun, ?_⟩
        match vs, hk with
        | [], hk => exact hk
        | [v], hk => exact hk
        | _ :: _ :: _, hk => exact hk
      cases e with
      | normal => exact key hq
      | ret => exact key hq
      | exit i => exact hq.elim
      | goto i => exact hq.elim
      | panic i => exact hq.elim
      | outgrown => exact hq.elim
  · exact h.elim

/-! ### Conditions, loops -/
theorem vcCond_split {c : Operand} {x y : Code} {β : Bool} {Q : Exit → Env → World → Prop} (hL : L.Ok P) (hc : ev E c = some (.bool β)) (ht : β = true → vc L P n x E w Q) (hf : β = false → vc L P n y E w Q) :
    vcCond P n c x y E w Q := by
  unfold vcCond
  intro a hr
  refine wp_cond (ev_sound hr hc) ?_
  cases β
  · exact vc_sound hL y E a w Q hr (hf rfl)
  · exact vc_sound hL x E a w Q hr (ht rfl)
theorem vcCond_true {c : Operand} {x y : Code} {Q : Exit → Env → World → Prop} (hL : L.Ok P) (hc : ev E c = some (.bool true)) (ht : vc L P n x E w Q) :
    vcCond P n c x y E w Q := vcCond_split hL hc (fun _ => ht) (fun h => by cases h)
theorem vcCond_false {c : Operand} {x y : Code} {Q : Exit → Env → World → Prop} (hL : L.Ok P) (hc : ev E c = some (.bool false)) (hf : vc L P n y E w Q) :
    vcCond P n c x y E w Q := vcCond_split hL hc (fun h => by cases h) (fun _ => hf)

/-- The first frame is contained in the second. -/
def subE : Env → Env → Prop
  | [], _ => True
  | (t, v) :: M, E => (look E t = some v) ∧ subE M E

theorem subE_sound : ∀ {M E : Env}, subE M E → ∀ t v, look M t = some v → look E t = some v
  | [], E, h, t, v, hv => by cases hv
  | (s, u) :: M, E, h, t, v, hv => by
    by_cases e : s = t
    · subst e
      rw [look_cons_same] at hv
      rw [h.1]; exact hv
    · rw [look_cons_other e] at hv
      exact subE_sound h.2 t v hv

/-- what is asked where both ways of a condition meet again, or at a round's end -/
def meetK {σ : Type} (F : σ → Env) (I : σ → World → Prop) (Q : Exit → Env → World → Prop) : Exit → Env → World → Prop
  | .normal, E, w => ∃ s, subE (F s) E ∧ I s w
  | .exit i, E, w => Q (.exit i) E w
  | .goto l, E, w => Q (.goto l) E w
  | .ret, E, w => Q .ret E w
  | .panic ch, E, w => Q (.panic ch) E w
  | .outgrown, E, w => Q .outgrown E w

theorem vcLoop_inv {c : Code} {Q : Exit → Env → World → Prop} (hL : L.Ok P) {σ : Type} (F : σ → Env) (I : σ → World → Prop) (μ : σ → Nat) (s0 : σ)
    (h0 : subE (F s0) E) (hI : I s0 w) (round : ∀ s w, I s w → vc L P n c (F s) w (meetK F (fun s' w' => I s' w' ∧ μ s' < μ s) Q)) : vcLoop P n c E w Q := by
  unfold vcLoop
  intro a hr
  have key : ∀ (m : Nat) (s : σ) (a : Act) (w : World), μ s = m → Rep n (F s) a → I s w → ∀ (b : Frame) (k : List Item) (cs : List Frame),
      ∃ e a' w', lift n Q e a' w' ∧ Arrives P (lone (b.at a (.code c :: .inLoop c :: k)) cs w) b k cs e a' w' := by
    intro m
    induction m using Nat.strongRecOn with
    | _ m ih =>
      intro s a w hm hr hI b k cs
      obtain ⟨e, a₁, w₁, ⟨E₁, hr₁, hq⟩, harr⟩ := vc_sound hL c (F s) a w _ hr (round s w hI) b (.inLoop c :: k) cs
      cases e with
      | normal =>
        obtain ⟨s', hsub, hI', hlt⟩ := hq
        obtain ⟨e₂, a₂, w₂, hq₂, harr₂⟩ := ih (μ s') (hm ▸ hlt) s' a₁ w₁ rfl (hr₁.sub (subE_sound hsub)) hI' b k cs
        exact ⟨e₂, a₂, w₂, hq₂, .of_steps (Steps.trans harr (.one step_inLoop)) harr₂⟩
      | exit id => exact ⟨_, a₁, w₁, ⟨E₁, hr₁, hq⟩, .pass (x := .inLoop c) rfl (fun _ _ => .inl (by simp)) harr⟩
      | goto l => exact ⟨_, a₁, w₁, ⟨E₁, hr₁, hq⟩, .pass (x := .inLoop c) rfl (fun _ _ => .inl (by simp)) harr⟩
      | ret => exact ⟨_, a₁, w₁, ⟨E₁, hr₁, hq⟩, .pass (x := .inLoop c) rfl (fun _ _ => .inl (by simp)) harr⟩
      | panic ch => exact ⟨_, a₁, w₁, ⟨E₁, hr₁, hq⟩, .pass (x := .inLoop c) rfl (fun _ _ => .inl (by simp)) harr⟩
      | outgrown => exact ⟨_, a₁, w₁, ⟨E₁, hr₁, hq⟩, .pass (x := .inLoop c) rfl (fun _ _ => .inl (by simp)) harr⟩
  intro b k cs
  obtain ⟨e, a', w', hq, harr⟩ := key _ s0 a w rfl (hr.sub (subE_sound h0)) hI b k cs
  exact ⟨e, a', w', hq, .of_steps (.one step_loop) harr⟩

theorem vcReg_go {id : Nat} {ops : Array Oper} {Q : Exit → Env → World → Prop} (hL : L.Ok P) (h : vcOps L P n ops ops.toList E w fun E' w' => Q .normal E' w') : vcReg P n id ops E w Q := by
  unfold vcReg
  exact fun a hr => wp_region_list (vcOps_sound hL _ E a w _ hr h fun E' a' w' hr' hq => ⟨E', hr', hq⟩)

theorem upon_weaken {o : Oper} {a : Act} {next next' : Act → World → Prop} {Q Q' : Exit → Act → World → Prop} {r : Result Next} (h : o.upon P a next Q r) (hn : ∀ a w, next a w → next' a w) (hq : ∀ e a w, Q e a w → Q' e a w) : o.upon P a next' Q' r := by
  cases r with
  | ok m w' =>
    cases m <;> simp only [Oper.upon] at h ⊢
    case value v => exact hn _ _ h
    case skip => exact hn _ _ h
    case defer d => exact hn _ _ h
    case enter f args =>
      refine h.mono fun e w'' he => ?_
      cases e with
      | returned v => exact hn _ _ he
      | panicked ch => exact hq _ _ _ he
      | outgrown => exact ⟨_, _, hq _ _ _ he.choose_spec.choose_spec⟩
    case row row args => exact h.mono fun v w'' he => hn _ _ he
  | halt x w' =>
    cases x <;> simp only [Oper.upon] at h ⊢
    exact hq _ _ _ h

theorem wpList_weaken {ops : Array Oper} {Q Q' : Exit → Act → World → Prop} : ∀ (os : List Oper) (a : Act) (w : World), wpList P ops Q os a w → (∀ e a w, Q e a w → Q' e a w) → wpList P ops Q' os a w
  | [], a, w, h, hq => hq _ _ _ h
  | o :: os, a, w, h, hq => by
    unfold wpList at h ⊢
    split at h
    · rename_i hw
      rw [if_pos hw]
      rcases h with h | ⟨h1, a1, w1, h2⟩
      · exact .inl (upon_weaken h (fun a w h => wpList_weaken os a w h hq) hq)
      · exact .inr ⟨h1, a1, w1, hq _ _ _ h2⟩
    · rename_i hw
      rw [if_neg hw]
      exact wpList_weaken os _ w h hq

def memNat : List Nat → Nat → Bool
  | [], _ => false
  | a :: l, n => match Nat.beq a n with
    | true => true
    | false => memNat l n

/-- the slots that operations write -/
def writes : List Oper → List Nat
  | [] => []
  | o :: os => match o.dst with
    | some d => d :: writes os
    | none => writes os

theorem Act.put_tmps_other (a : Act) (dst : Option Nat) (v : Value) {t : Nat} (h : dst ≠ some t) : (a.put dst v).tmps[t]? = a.tmps[t]? := by
  cases dst with
  | none => rfl
  | some d =>
    have : d ≠ t := fun e => h (by rw [e])
    simp only [Act.put]
    rw [Array.getElem?_setIfInBounds]
    simp [this]

theorem wp_keep {o : Oper} {a : Act} {w : World} {next next' : Act → World → Prop} {Q Q' : Exit → Act → World → Prop} (h : o.wp P a w next Q)
    (hn : ∀ a' w', (∀ t, o.dst ≠ some t → a'.tmps[t]? = a.tmps[t]?) → next a' w' → next' a' w') (hq : ∀ ch a' w', Q (.panic ch) a' w' → Q' (.panic ch) a' w') (hout : LetsOut Q → LetsOut Q') : o.wp P a w next' Q' := by
  unfold Oper.wp at h ⊢
  generalize (execOp a.eval o).run P w = r at *
  have hp : ∀ v, ∀ t, o.dst ≠ some t → (a.put o.dst v).tmps[t]? = a.tmps[t]? := fun v t ht => Act.put_tmps_other a o.dst v ht
  cases r with
  | ok m w' =>
    cases m <;> simp only [Oper.upon] at h ⊢
    case value v => exact hn _ _ (hp v) h
    case skip => exact hn _ _ (hp undef) h
    case defer d => exact hn _ _ (fun t ht => Act.put_tmps_other { a with defers := d :: a.defers } o.dst undef ht) h
    case enter f args =>
      refine h.mono fun e w'' he => ?_
      cases e with
      | returned v => exact hn _ _ (hp v) he
      | panicked ch => exact hq _ _ _ he
      | outgrown => exact hout he
    case row row args => exact h.mono fun v w'' he => hn _ _ (hp v) he
  | halt x w' =>
    cases x <;> simp only [Oper.upon] at h ⊢
    exact hq _ _ _ h

theorem wpList_keep {ops : Array Oper} {Q : Exit → Act → World → Prop} : ∀ (os : List Oper) (a a0 : Act) (w : World), (∀ t, t ∉ writes os → a.tmps[t]? = a0.tmps[t]?) → wpList P ops Q os a w →
    wpList P ops (fun e a' w' => Q e a' w' ∧ (e = .normal → ∀ t, t ∉ writes os → a'.tmps[t]? = a.tmps[t]?)) os a w
  | [], a, a0, w, _, h => ⟨h, fun _ t _ => rfl⟩
  | o :: os, a, a0, w, _, h => by
    have hout : LetsOut Q → LetsOut (fun e a' w' => Q e a' w' ∧ (e = .normal → ∀ t, t ∉ writes (o :: os) → a'.tmps[t]? = a.tmps[t]?)) := fun ⟨a1, w1, h1⟩ => ⟨a1, w1, h1, fun e => by cases e⟩
    have step : ∀ a', (∀ t, o.dst ≠ some t → a'.tmps[t]? = a.tmps[t]?) → ∀ w', wpList P ops Q os a' w' →
        wpList P ops (fun e a'' w' => Q e a'' w' ∧ (e = .normal → ∀ t, t ∉ writes (o :: os) → a''.tmps[t]? = a.tmps[t]?)) os a' w' := by
      intro a' ha' w' h'
      refine wpList_weaken os a' w' (wpList_keep os a' a' w' (fun _ _ => rfl) h') ?_
      rintro e a'' w'' ⟨h1, h2⟩
      refine ⟨h1, fun he t ht => ?_⟩
      have hd : o.dst ≠ some t ∧ t ∉ writes os := by
        unfold writes at ht
        split at ht
        · rename_i d hd
          simp only [List.mem_cons, not_or] at ht
          exact ⟨by rw [hd]; intro e; cases e; exact ht.1 rfl, ht.2⟩
        · rename_i hd
          exact ⟨by rw [hd]; simp, ht⟩
      rw [h2 he t hd.2, ha' t hd.1]
    unfold wpList at h ⊢
    split at h
    · rename_i hw
      rw [if_pos hw]
      rcases h with h | ⟨h1, h2⟩
      · exact .inl (wp_keep h (fun a' w' ha' h' => step a' ha' w' h') (fun ch a' w' h' => ⟨h', fun e => by cases e⟩) hout)
      · exact .inr ⟨h1, hout h2⟩
    · rename_i hw
      rw [if_neg hw]
      exact step _ (fun t ht => Act.put_tmps_other a o.dst undef ht) _ h

/-- every slot of the list is among the others, or unknown in the frame -/
def staleOk (E : Env) (ns : List Nat) : List Nat → Bool
  | [] => true
  | d :: ds => match memNat ns d with
    | true => staleOk E ns ds
    | false => match look E d with
      | none => staleOk E ns ds
      | some _ => false

theorem memNat_look : ∀ {M : Env} {d : Nat}, memNat (M.map (·.1)) d = true → ∃ v, look M d = some v
  | (t, v) :: M, d, h => by
    simp only [List.map_cons, memNat] at h
    split at h
    · rename_i hb
      exact ⟨v, by simp only [look, hb]⟩
    · rename_i hb
      obtain ⟨u, hu⟩ := memNat_look h
      exact ⟨u, by simp only [look, hb]; exact hu⟩

theorem staleOk_spec {E : Env} {ns : List Nat} : ∀ {ds : List Nat}, staleOk E ns ds = true → ∀ d ∈ ds, memNat ns d = true ∨ look E d = none
  | d :: ds, h, t, ht => by
    simp only [staleOk] at h
    split at h
    · rename_i hm
      rcases List.mem_cons.1 ht with rfl | ht
      · exact .inl hm
      · exact staleOk_spec h t ht
    · split at h
      · rename_i hl
        rcases List.mem_cons.1 ht with rfl | ht
        · exact .inr hl
        · exact staleOk_spec h t ht
      · cases h

theorem look_append : ∀ (M E : Env) (t : Nat), look (M ++ E) t = match look M t with | some v => some v | none => look E t
  | [], E, t => rfl
  | (s, v) :: M, E, t => by
    simp only [List.cons_append, look]
    split
    · rfl
    · exact look_append M E t

/-- The ways through a region with guards meet again: of the slots that it writes just those of 'new' are known behind it. -/
theorem vcReg_meet {id : Nat} {ops : Array Oper} {Q : Exit → Env → World → Prop} {σ : Type} (hL : L.Ok P) (new : σ → Env) (I : σ → World → Prop) (ns : List Nat) (hns : ∀ s, (new s).map (·.1) = ns)
    (hst : staleOk E ns (writes ops.toList) = true) (h1 : vcOps L P n ops ops.toList E w fun E' w' => ∃ s, subE (new s) E' ∧ I s w') (h2 : ∀ s w', I s w' → Q .normal (new s ++ E) w') : vcReg P n id ops E w Q := by
  unfold vcReg
  intro a hr
  have hw := vcOps_sound (Q' := fun e a' w' => e = .normal ∧ ∃ E', Rep n E' a' ∧ ∃ s, subE (new s) E' ∧ I s w') hL _ E a w _ hr h1 fun E' a' w' hr' hq => ⟨rfl, E', hr', hq⟩
  refine wp_region_list (wpList_weaken _ a w (wpList_keep _ a a w (fun _ _ => rfl) hw) ?_)
  rintro e a' w' ⟨⟨rfl, E', hr', s, hsub, hI⟩, hk⟩
  refine ⟨new s ++ E, ⟨hr'.size, hr'.defers, fun t v hv => ?_⟩, h2 s w' hI⟩
  rw [look_append] at hv
  split at hv
  · rename_i u hu
    exact hr'.vals t v (subE_sound hsub t v (by rw [hu]; exact hv))
  · rename_i hu
    have ht : t ∉ writes ops.toList := by
      intro ht
      rcases staleOk_spec hst t ht with h | h
      · rw [← hns s] at h
        obtain ⟨u, h⟩ := memNat_look h
        rw [hu] at h; cases h
      · rw [hv] at h; cases h
    rw [hk rfl t ht]
    exact hr.vals t v hv

/-- Both ways of a condition meet again. -/
theorem vcCond_meet {c : Operand} {x y : Code} {Q : Exit → Env → World → Prop} {σ : Type} (F : σ → Env) (I : σ → World → Prop)
    (h1 : vcCond P n c x y E w (meetK F I Q)) (h2 : ∀ s w', I s w' → Q .normal (F s) w') : vcCond P n c x y E w Q := by
  unfold vcCond at h1 ⊢
  intro a hr
  refine wp_mono (h1 a hr) fun e a' w' he => ?_
  obtain ⟨E', hr', hq⟩ := he
  cases e with
  | normal =>
    obtain ⟨s, hsub, hI⟩ := hq
    exact ⟨F s, hr'.sub (subE_sound hsub), h2 s w' hI⟩
  | exit i => exact ⟨E', hr', hq⟩
  | goto i => exact ⟨E', hr', hq⟩
  | ret => exact ⟨E', hr', hq⟩
  | panic i => exact ⟨E', hr', hq⟩
  | outgrown => exact ⟨E', hr', hq⟩

end
end Go.Vc

/- The types' table facts that the generator asks for hold of the program of this seat. -/
namespace Go.Proofs.Ytgipackjnncabaa
open Go.Vc

theorem getN_mem {α : Type} : ∀ {l : List (Nat × α)} {t : Nat} {v : α}, getN l t = some v → (t, v) ∈ l
  | (a, u) :: l, t, v, h => by
    simp only [getN] at h
    split at h
    · rename_i hb
      cases Nat.eq_of_beq_eq_true hb
      cases h
      exact List.mem_cons_self
    · exact List.mem_cons_of_mem _ (getN_mem h)
theorem memN_mem : ∀ {l : List Nat} {t : Nat}, memN l t = true → t ∈ l
  | a :: l, t, h => by
    simp only [memN] at h
    split at h
    · rename_i hb
      cases Nat.eq_of_beq_eq_true hb
      exact List.mem_cons_self
    · exact List.mem_cons_of_mem _ (memN_mem h)
theorem getNN_mem : ∀ {l : List (Nat × List Nat)} {t f v : Nat}, getNN l t f = some v → ∃ os, (t, os) ∈ l ∧ os[f]? = some v
  | (a, u) :: l, t, f, v, h => by
    simp only [getNN] at h
    split at h
    · rename_i hb
      cases Nat.eq_of_beq_eq_true hb
      exact ⟨u, List.mem_cons_self, h⟩
    · obtain ⟨os, h1, h2⟩ := getNN_mem h
      exact ⟨os, List.mem_cons_of_mem _ h1, h2⟩

def kindB (P : Program) (p : Nat × IntKind) : Bool := match P.underlying p.1 with
  | some (.int k) => Nat.beq (kn k) (kn p.2)
  | _ => false
def singleB (P : Program) (t : Nat) : Bool := match P.underlying t, P.info? t with
  | some d, some i => !isAggD d && Nat.beq i.size 1
  | _, _ => false
def aggB (P : Program) (p : Nat × Nat) : Bool := match P.underlying p.1, P.info? p.1 with
  | some d, some i => isAggD d && Nat.beq i.size p.2
  | _, _ => false
def fieldB (P : Program) (p : Nat × List Nat) : Bool := match P.underlying p.1 with
  | some (.struct fs) => (List.range p.2.length).all fun f => match fs[f]?, p.2[f]? with
    | some fd, some o => Nat.beq fd.offset o && (match P.info? fd.type with | some i => !Nat.beq i.size 0 | none => false)
    | _, _ => false
  | _ => false
def sliceB (P : Program) (p : Nat × Nat) : Bool := match P.underlying p.1 with
  | some (.slice e) => (match P.info? e with | some i => Nat.beq i.size p.2 | none => false)
  | _ => false
def arrB (P : Program) (p : Nat × (Nat × Nat)) : Bool := match P.underlying p.1 with
  | some (.array n e) => Nat.beq n p.2.1 && (match P.info? e with | some i => Nat.beq i.size p.2.2 | none => false)
  | _ => false
def boolB (P : Program) (t : Nat) : Bool := match P.underlying t with
  | some .bool => true
  | _ => false
def ptrB (P : Program) (t : Nat) : Bool := match P.underlying t with
  | some (.pointer _) => true
  | _ => false
def strB (P : Program) (t : Nat) : Bool := match P.underlying t with
  | some .string => true
  | _ => false
def bytesB (P : Program) (t : Nat) : Bool := match P.underlying t with
  | some (.slice e) => (match P.underlying e with | some (.int .u8) => true | _ => false)
  | _ => false
def callB (P : Program) (f : Nat) : Bool := match P.funcs[f]? with
  | some fn => !(fn.name == "runtime.NumGoroutine") && !fn.body.isNone
  | none => false

theorem boolB_spec {P : Program} {t : Nat} (h : boolB P t = true) : P.underlying t = some .bool := by
  unfold boolB at h
  generalize P.underlying t = d at *
  split at h
  · rfl
  · cases h
theorem strB_spec {P : Program} {t : Nat} (h : strB P t = true) : P.underlying t = some .string := by
  unfold strB at h
  generalize P.underlying t = d at *
  split at h
  · rfl
  · cases h
theorem ptrB_spec {P : Program} {t : Nat} (h : ptrB P t = true) : ∃ e, P.underlying t = some (.pointer e) := by
  unfold ptrB at h
  generalize P.underlying t = d at *
  split at h
  · exact ⟨_, rfl⟩
  · cases h
theorem bytesB_spec {P : Program} {t : Nat} (h : bytesB P t = true) : ∃ e, P.underlying t = some (.slice e) ∧ P.underlying e = some (.int .u8) := by
  unfold bytesB at h
  generalize hd : P.underlying t = d at *
  split at h
  · rename_i e
    refine ⟨e, rfl, ?_⟩
    generalize P.underlying e = d2 at *
    split at h
    · rfl
    · cases h
  · cases h

theorem kinds_ok : kinds.all (kindB Try.prog) = true := by kernel_rfl
theorem singles_ok : singles.all (singleB Try.prog) = true := by kernel_rfl
theorem aggs_ok : aggs.all (aggB Try.prog) = true := by kernel_rfl
theorem fields_ok : fieldsL.all (fieldB Try.prog) = true := by kernel_rfl
theorem slices_ok : slices.all (sliceB Try.prog) = true := by kernel_rfl
theorem arrs_ok : arrs.all (arrB Try.prog) = true := by kernel_rfl
theorem bools_ok : bools.all (boolB Try.prog) = true := by kernel_rfl
theorem ptrs_ok : ptrs.all (ptrB Try.prog) = true := by kernel_rfl
theorem strs_ok : strs.all (strB Try.prog) = true := by kernel_rfl
theorem bytes_ok : bytesL.all (bytesB Try.prog) = true := by kernel_rfl
theorem calls_ok : ((List.range 186).drop 3).all (callB Try.prog) = true := by kernel_rfl
theorem zeros_map : zeros.map (fun p => (Try.prog.info? p.1).bind (·.zero)) = zeros.map (fun p => some p.2) := by kernel_rfl

theorem zeros_ok : ∀ p ∈ zeros, (Try.prog.info? p.1).bind (·.zero) = some p.2 := by
  intro p hp
  obtain ⟨i, hi, rfl⟩ := List.getElem_of_mem hp
  have h := zeros_map
  have h2 : (zeros.map (fun p => (Try.prog.info? p.1).bind (·.zero)))[i]? = (zeros.map (fun p => some p.2))[i]? := by rw [h]
  simpa [hi] using h2

theorem lok : lay.Ok Try.prog where
  kind t k h := by
    have h2 := List.all_eq_true.1 kinds_ok _ (getN_mem h)
    unfold kindB at h2
    split at h2
    · rename_i k' hu; rw [hu, kn_inj h2]
    · cases h2
  single t h := by
    have h2 := List.all_eq_true.1 singles_ok _ (memN_mem h)
    unfold singleB at h2
    split at h2
    · rename_i d i hu hi
      simp only [Bool.and_eq_true, Bool.not_eq_true'] at h2
      exact ⟨d, hu, h2.1, i, hi, Nat.eq_of_beq_eq_true h2.2⟩
    · cases h2
  agg t n h := by
    have h2 := List.all_eq_true.1 aggs_ok _ (getN_mem h)
    unfold aggB at h2
    split at h2
    · rename_i d i hu hi
      simp only [Bool.and_eq_true] at h2
      exact ⟨d, hu, h2.1, i, hi, Nat.eq_of_beq_eq_true h2.2⟩
    · cases h2
  field t f off h := by
    obtain ⟨os, hm, ho⟩ := getNN_mem h
    have h2 := List.all_eq_true.1 fields_ok _ hm
    unfold fieldB at h2
    split at h2
    · rename_i fs hu
      have hlt : f < os.length := by
        rcases Nat.lt_or_ge f os.length with h' | h'
        · exact h'
        · simp [List.getElem?_eq_none h'] at ho
      have h3 := List.all_eq_true.1 h2 f (List.mem_range.2 hlt)
      simp only at h3
      split at h3
      · rename_i fd o hfd hos
        simp only [Bool.and_eq_true] at h3
        obtain ⟨h4, h5⟩ := h3
        split at h5
        · rename_i i hi
          rw [ho] at hos
          cases hos
          refine ⟨fs, fd, hu, hfd, Nat.eq_of_beq_eq_true h4, i, hi, fun e => ?_⟩
          simp [e] at h5
        · cases h5
      · cases h3
    · cases h2
  slice t s h := by
    have h2 := List.all_eq_true.1 slices_ok _ (getN_mem h)
    unfold sliceB at h2
    split at h2
    · rename_i e hu
      split at h2
      · rename_i i hi; exact ⟨e, hu, i, hi, Nat.eq_of_beq_eq_true h2⟩
      · cases h2
    · cases h2
  arr t n s h := by
    have h2 := List.all_eq_true.1 arrs_ok _ (getN_mem h)
    unfold arrB at h2
    split at h2
    · rename_i m e hu
      simp only [Bool.and_eq_true] at h2
      obtain ⟨h3, h4⟩ := h2
      have := Nat.eq_of_beq_eq_true h3
      subst this
      split at h4
      · rename_i i hi; exact ⟨e, hu, i, hi, Nat.eq_of_beq_eq_true h4⟩
      · cases h4
    · cases h2
  zero t v h := by
    have h2 := zeros_ok _ (getN_mem h)
    obtain ⟨i, hi, hz⟩ := Option.bind_eq_some_iff.1 h2
    exact ⟨i, hi, hz⟩
  isBool t h := boolB_spec (List.all_eq_true.1 bools_ok _ (memN_mem h))
  isPtr t h := ptrB_spec (List.all_eq_true.1 ptrs_ok _ (memN_mem h))
  isStr t h := strB_spec (List.all_eq_true.1 strs_ok _ (memN_mem h))
  isBytes t h := bytesB_spec (List.all_eq_true.1 bytes_ok _ (memN_mem h))
  call f h := by
    have h1 : 3 ≤ f ∧ f < 186 := by
      simp only [lay, Bool.and_eq_true, Nat.blt_eq] at h
      omega
    have h2 := List.all_eq_true.1 calls_ok f (by
      rw [List.mem_drop_iff_getElem]
      exact ⟨f - 3, by simp; omega, by simp; omega⟩)
    unfold callB at h2
    split at h2
    · rename_i fn hfn
      simp only [Bool.and_eq_true, Bool.not_eq_true'] at h2
      exact ⟨fn, hfn, h2.1, h2.2⟩
    · cases h2

end Go.Proofs.Ytgipackjnncabaa
