/- A generator of verification conditions over the model's code, and its soundness: if 'vc' holds of a function's body, 'Calls' holds of the function. No program is named here. -/
import Derived.WalkKit
import Derived.Below
import Derived.Laws.Rows
import Derived.ChangeKeysEq
set_option linter.unusedSimpArgs false
set_option linter.unusedVariables false
namespace Go.Vc
open Go.RowKit

/-! ### Frames: what is known of some slots -/
abbrev Env := List (Nat × Value)

def look : Env → Nat → Option Value
  | [], _ => none
  | (t, v) :: E, s => match Nat.beq t s with
    | true => some v
    | false => look E s

theorem look_cons_same (t : Nat) (v : Value) (E : Env) : look ((t, v) :: E) t = some v := by simp [look]
theorem look_cons_other {t s : Nat} (h : t ≠ s) (v : Value) (E : Env) : look ((t, v) :: E) s = look E s := by
  have : Nat.beq t s = false := by
    cases hb : Nat.beq t s with
    | false => rfl
    | true => exact absurd (Nat.eq_of_beq_eq_true hb) h
  simp only [look, this]

structure Rep (n : Nat) (E : Env) (a : Act) : Prop where
  size : a.tmps.size = n
  defers : a.defers = []
  vals : ∀ t v, look E t = some v → a.tmps[t]? = some v

def ev (E : Env) : Operand → Option Value
  | .tmp t => look E t
  | .const v => some v
  | .global _ => none
  | .func f => some (.func (.func f) #[] #[])

theorem ev_sound {n : Nat} {E : Env} {a : Act} {x : Operand} {v : Value} (h : Rep n E a) (he : ev E x = some v) : a.eval x = v := by
  cases x with
  | tmp t => have := h.vals t v he; simp [Act.eval, Array.getD_eq_getD_getElem?, this]
  | const u => simpa [ev, Act.eval] using he
  | global g => simp [ev] at he
  | func f => simpa [ev, Act.eval] using he

theorem Rep.put {n : Nat} {E : Env} {a : Act} (h : Rep n E a) {d : Nat} (hd : d < n) (v : Value) : Rep n ((d, v) :: E) (a.put (some d) v) := by
  refine ⟨by simp [Act.put, h.size], by simp [Act.put, h.defers], fun t u hu => ?_⟩
  by_cases e : d = t
  · subst e
    rw [look_cons_same] at hu
    have : d < a.tmps.size := by rw [h.size]; exact hd
    simp [Act.put, this]
    simpa using hu
  · rw [look_cons_other e] at hu
    have := h.vals t u hu
    simp only [Act.put]
    rw [Array.getElem?_setIfInBounds]
    simp [e, this]

theorem Rep.put_none {n : Nat} {E : Env} {a : Act} (h : Rep n E a) (v : Value) : Rep n E (a.put none v) := h

/-- A value that is known anyway may be written down once more. -/
theorem Rep.again {n : Nat} {E : Env} {a : Act} (h : Rep n E a) {d : Nat} {v : Value} (hl : look E d = some v) : Rep n ((d, v) :: E) a :=
  ⟨h.size, h.defers, fun t u hu => by
    by_cases e : d = t
    · subst e
      rw [look_cons_same] at hu
      exact h.vals d u (by rw [hl]; exact hu)
    · rw [look_cons_other e] at hu
      exact h.vals t u hu⟩

theorem Rep.sub {n : Nat} {E E' : Env} {a : Act} (h : Rep n E a) (hs : ∀ t v, look E' t = some v → look E t = some v) : Rep n E' a :=
  ⟨h.size, h.defers, fun t v hv => h.vals t v (hs t v hv)⟩

/-! ### What is asked of the types' table -/
structure Lay where
  kind : Nat → Option IntKind
  single : Nat → Bool
  agg : Nat → Option Nat
  field : Nat → Nat → Option Nat
  slice : Nat → Option Nat
  arr : Nat → Option (Nat × Nat)
  zero : Nat → Option Value
  isBool : Nat → Bool
  isPtr : Nat → Bool
  isStr : Nat → Bool
  isBytes : Nat → Bool
  call : Nat → Bool

def isAggD : TypeDesc → Bool
  | .struct _ | .array _ _ => true
  | _ => false

structure Lay.Ok (L : Lay) (P : Program) : Prop where
  kind : ∀ t k, L.kind t = some k → P.underlying t = some (.int k)
  single : ∀ t, L.single t = true → ∃ d, P.underlying t = some d ∧ isAggD d = false ∧ ∃ i, P.info? t = some i ∧ i.size = 1
  agg : ∀ t n, L.agg t = some n → ∃ d, P.underlying t = some d ∧ isAggD d = true ∧ ∃ i, P.info? t = some i ∧ i.size = n
  field : ∀ t f off, L.field t f = some off → ∃ fs fd, P.underlying t = some (.struct fs) ∧ fs[f]? = some fd ∧ fd.offset = off ∧ ∃ i, P.info? fd.type = some i ∧ i.size ≠ 0
  slice : ∀ t s, L.slice t = some s → ∃ e, P.underlying t = some (.slice e) ∧ ∃ i, P.info? e = some i ∧ i.size = s
  arr : ∀ t n s, L.arr t = some (n, s) → ∃ e, P.underlying t = some (.array n e) ∧ ∃ i, P.info? e = some i ∧ i.size = s
  zero : ∀ t v, L.zero t = some v → ∃ i, P.info? t = some i ∧ i.zero = some v
  isBool : ∀ t, L.isBool t = true → P.underlying t = some .bool
  isPtr : ∀ t, L.isPtr t = true → ∃ e, P.underlying t = some (.pointer e)
  isStr : ∀ t, L.isStr t = true → P.underlying t = some .string
  isBytes : ∀ t, L.isBytes t = true → ∃ e, P.underlying t = some (.slice e) ∧ P.underlying e = some (.int .u8)
  call : ∀ f, L.call f = true → ∃ fn, P.funcs[f]? = some fn ∧ (fn.name == "runtime.NumGoroutine") = false ∧ fn.body.isNone = false

/-! ### Single operations -/
def bsel (β : Bool) (A B : Prop) : Prop := @Bool.rec (fun _ => Prop) B A β
theorem bcase {β : Bool} {A B : Prop} (h1 : β = true → A) (h2 : β = false → B) : @Bool.rec (fun _ => Prop) B A β := by
  cases β
  · exact h2 rfl
  · exact h1 rfl
theorem bsel_elim {β : Bool} {A B : Prop} (h : bsel β A B) : (β = true ∧ A) ∨ (β = false ∧ B) := by
  cases β
  · exact .inr ⟨rfl, h⟩
  · exact .inl ⟨rfl, h⟩

def CellsAt (w : World) (b o : Nat) (cs : List Value) : Prop := ∀ i v, cs[i]? = some v → w.cell? ⟨b, o + i, none⟩ = some v

def setCells (w : World) (b o : Nat) : List Value → World
  | [] => w
  | v :: vs => setCells (w.setCell ⟨b, o, none⟩ v) b (o + 1) vs

/-- integer operators: the exact sum where it fits int (asked), the wrapped one by an equation elsewhere -/
def vcBin (op : BinOp) (k : IntKind) (a b : Int) (K : Value → Prop) : Prop :=
  match op with
  | .add => match k with
    | .i64 => (-9223372036854775808 ≤ a + b ∧ a + b ≤ 9223372036854775807) ∧ K (.int .i64 (a + b))
    | k => ∀ z, z = k.wrap (a + b) → K (.int k z)
  | .sub => match k with
    | .i64 => (-9223372036854775808 ≤ a - b ∧ a - b ≤ 9223372036854775807) ∧ K (.int .i64 (a - b))
    | k => ∀ z, z = k.wrap (a - b) → K (.int k z)
  | .mul => match k with
    | .i64 => (-9223372036854775808 ≤ a * b ∧ a * b ≤ 9223372036854775807) ∧ K (.int .i64 (a * b))
    | k => ∀ z, z = k.wrap (a * b) → K (.int k z)
  | .quo => b ≠ 0 ∧ ∀ z, z = k.wrap (a.tdiv b) → K (.int k z)
  | .rem => b ≠ 0 ∧ ∀ z, z = a.tmod b → K (.int k z)
  | .and => ∀ z, z = k.wrap (BitVec.ofInt k.bits a &&& BitVec.ofInt k.bits b).toNat → K (.int k z)
  | .or => ∀ z, z = k.wrap (BitVec.ofInt k.bits a ||| BitVec.ofInt k.bits b).toNat → K (.int k z)
  | .xor => ∀ z, z = k.wrap (BitVec.ofInt k.bits a ^^^ BitVec.ofInt k.bits b).toNat → K (.int k z)
  | .andNot => ∀ z, z = k.wrap (BitVec.ofInt k.bits a &&& ~~~BitVec.ofInt k.bits b).toNat → K (.int k z)
  | .eql => K (.bool (decide (a = b)))
  | .neq => K (.bool (!decide (a = b)))
  | .lss => K (.bool (decide (a < b)))
  | .leq => K (.bool (decide (a ≤ b)))
  | .gtr => K (.bool (decide (b < a)))
  | .geq => K (.bool (decide (b ≤ a)))
  | .shl | .shr => False

def vcShift (op : BinOp) (k : IntKind) (a b : Int) (K : Value → Prop) : Prop :=
  match op with
  | .shl => 0 ≤ b ∧ ∀ z, z = k.wrap (a * 2 ^ (min b.toNat k.bits)) → K (.int k z)
  | .shr => 0 ≤ b ∧ ∀ z, z = a.fdiv (2 ^ (min b.toNat k.bits)) → K (.int k z)
  | _ => False

def evs (E : Env) : List Operand → Option (List Value)
  | [] => some []
  | x :: xs => match ev E x with
    | some v => match evs E xs with
      | some vs => some (v :: vs)
      | none => none
    | none => none

def evp (E : Env) : List (Nat × Operand) → Option (List (Nat × Value))
  | [] => some []
  | (i, x) :: xs => match ev E x with
    | some v => match evp E xs with
      | some vs => some ((i, v) :: vs)
      | none => none
    | none => none

def minL (k : IntKind) (a : Int) : List Value → Option Int
  | [] => some a
  | .int _ b :: vs => minL k (if b < a then b else a) vs
  | _ => none

def kn : IntKind → Nat
  | .i8 => 0 | .i16 => 1 | .i32 => 2 | .i64 => 3 | .u8 => 4 | .u16 => 5 | .u32 => 6 | .u64 => 7
theorem kn_inj {k k' : IntKind} (h : Nat.beq (kn k) (kn k') = true) : k = k' := by
  cases k <;> cases k' <;> first | rfl | cases h

def vcOp (L : Lay) (P : Program) (o : Op) (ty : Nat) (E : Env) (w : World) (K : Value → World → Prop) : Prop :=
  match o with
  | .move x => match ev E x with
    | some v => K v w
    | none => False
  | .assign x => match ev E x with
    | some v => K v w
    | none => False
  | .pick c x y => match ev E c with
    | some (.bool β) => bsel β (match ev E x with | some v => K v w | none => False) (match ev E y with | some v => K v w | none => False)
    | _ => False
  | .alloc t => match L.zero t with
    | some v => ∀ w', w' = w.alloc (.cells v.cells t) → K (.pointer (some ⟨w.heap.size, 0, none⟩)) w'
    | none => False
  | .box t x => match ev E x with
    | some (.agg cs) => ∀ w', w' = w.alloc (.cells cs t) → K (.pointer (some ⟨w.heap.size, 0, none⟩)) w'
    | some v => (∀ cs, v ≠ .agg cs) ∧ ∀ w', w' = w.alloc (.cells #[v] t) → K (.pointer (some ⟨w.heap.size, 0, none⟩)) w'
    | none => False
  | .build t parts => match evp E parts.toList with
    | some ps => ∃ v, (∀ w, (Instr.build t ps.toArray).run P w = .ok v w) ∧ K v w
    | none => False
  | .buildSlice t len parts => match evp E parts.toList with
    | some ps => ∃ v w', (Instr.buildSlice t len ps.toArray).run P w = .ok v w' ∧ K v w'
    | none => False
  | .load t x => match ev E x with
    | some (.pointer (some ⟨b, off, none⟩)) => match L.single t with
      | true => ∃ v, w.cell? ⟨b, off, none⟩ = some v ∧ K v w
      | false => match L.agg t with
        | some n => ∃ cs : List Value, cs.length = n ∧ CellsAt w b off cs ∧ K (.agg cs.toArray) w
        | none => False
    | _ => False
  | .store t x y => match ev E x, ev E y with
    | some (.pointer (some ⟨b, off, none⟩)), some v => match L.single t with
      | true => (v.oneCell' = true ∧ (w.cell? ⟨b, off, none⟩).isSome = true ∧ w.frozen? ⟨b, off, none⟩ = false) ∧ ∀ w', w' = w.setCell ⟨b, off, none⟩ v → K undef w'
      | false => ∃ w', (Instr.storeAt t (.pointer (some ⟨b, off, none⟩)) v).run P w = .ok () w' ∧ K undef w'
    | _, _ => False
  | .nilCheck x => match ev E x with
    | some (.pointer (some a)) => K (.pointer (some a)) w
    | some (.func (.func f) first captured) => K (.func (.func f) first captured) w
    | _ => False
  | .binOp op t x y _ => match ev E x, ev E y with
    | some (.int k a), some (.int k' b) => match op with
      | .shl => vcShift .shl k a b fun v => K v w
      | .shr => vcShift .shr k a b fun v => K v w
      | op => match Nat.beq (kn k) (kn k') with
        | true => vcBin op k a b fun v => K v w
        | false => False
    | some (.bool a), some (.bool b) => match L.isBool t, op with
      | true, .eql => K (.bool (a == b)) w
      | true, .neq => K (.bool (!(a == b))) w
      | _, _ => False
    | some (.pointer (some _)), some (.pointer none) => match L.isPtr t, op with
      | true, .eql => K (.bool false) w
      | true, .neq => K (.bool true) w
      | _, _ => False
    | some (.pointer none), some (.pointer none) => match L.isPtr t, op with
      | true, .eql => K (.bool true) w
      | true, .neq => K (.bool false) w
      | _, _ => False
    | some (.string a), some (.string b) => match op with
      | .eql => ∀ β, β = (a.toList == b.toList) → K (.bool β) w
      | .neq => ∀ β, β = (a.toList == b.toList) → K (.bool !β) w
      | _ => False
    | _, _ => False
  | .unOp op _ x => match op, ev E x with
    | .not, some (.bool b) => K (.bool !b) w
    | .xor, some (.int k a) => match k.signed with
      | false => ∀ z, z = k.wrap (BitVec.ofInt k.bits k.max ^^^ BitVec.ofInt k.bits a).toNat → K (.int k z) w
      | true => False
    | .neg, some (.int k a) => ∀ z, z = k.wrap (0 - a) → K (.int k z) w
    | _, _ => False
  | .convert src dst x => match ev E x with
    | some (.int _ a) => match L.kind src, L.kind dst with
      | some _, some k => ∀ z, z = k.wrap a → K (.int k z) w
      | _, _ => False
    | some (.slice p m c) => match L.kind src with
      | some _ => False
      | none => match L.isBytes src, L.isStr dst with
        | true, true => ∃ s, (Conv.bytesToString (.slice p m c)).run P w = .ok (.string s) w ∧ K (.string s) w
        | _, _ => ∃ u w', (convert src dst (.slice p m c)).run P w = .ok u w' ∧ K u w'
    | _ => False
  | .makeFunc fn first captured => match evs E first.toList, evs E captured.toList with
    | some f, some c => K (.func fn f.toArray c.toArray) w
    | _, _ => False
  | .makeSlice t l c => match ev E l, ev E c with
    | some lv, some cv => ∃ v w', (Instr.makeSlice t lv cv).run P w = .ok v w' ∧ K v w'
    | _, _ => False
  | .slice t x lo hi mx => match L.slice t, ev E x, mx with
    | some size, some (.slice a n c), none => match lo, hi with
      | none, none => n ≤ c ∧ K (.slice a n c) w
      | none, some h => match ev E h with
        | some (.int _ h) => (0 ≤ h ∧ h ≤ c) ∧ K (.slice a h.toNat c) w
        | _ => False
      | some l, none => match ev E l with
        | some (.int _ l) => (0 ≤ l ∧ l ≤ n ∧ n ≤ c) ∧ ∀ a', a' = (if c = l.toNat then a else a.map (·.add (l.toNat * size))) → K (.slice a' (n - l.toNat) (c - l.toNat)) w
        | _ => False
      | some l, some h => match ev E l, ev E h with
        | some (.int _ l), some (.int _ h) => (0 ≤ l ∧ l ≤ h ∧ h ≤ c) ∧ ∀ a', a' = (if c = l.toNat then a else a.map (·.add (l.toNat * size))) → K (.slice a' (h.toNat - l.toNat) (c - l.toNat)) w
        | _, _ => False
    | _, _, _ => False
  | .fieldAddr t x f => match ev E x with
    | some (.pointer (some ⟨b, off, none⟩)) => match L.field t f with
      | some d => K (.pointer (some ⟨b, off + d, none⟩)) w
      | none => False
    | _ => False
  | .indexAddr t x ix => match ev E x, ev E ix with
    | some (.slice a n _), some (.int _ i) => match L.slice t with
      | some 1 => ∃ b off, a = some ⟨b, off, none⟩ ∧ (0 ≤ i ∧ i < n) ∧ K (.pointer (some ⟨b, off + i.toNat, none⟩)) w
      | some size => ∃ b off, a = some ⟨b, off, none⟩ ∧ (0 ≤ i ∧ i < n) ∧ K (.pointer (some ⟨b, off + i.toNat * size, none⟩)) w
      | none => False
    | some (.pointer (some ⟨b, off, none⟩)), some (.int _ i) => match L.arr t with
      | some (n, size) => (0 ≤ i ∧ i < n) ∧ K (.pointer (some ⟨b, off + i.toNat * size, none⟩)) w
      | none => False
    | _, _ => False
  | .extract t i => match ev E t with
    | some (.tuple vs) => match vs.toList[i]? with
      | some v => K v w
      | none => False
    | _ => False
  | .call c => match c.callee with
    | .value f => match ev E f, evs E c.args.toList with
      | some (.func (.func g) first captured), some args => match L.call g with
        | true => Calls P g (((first.toList ++ args) ++ captured.toList).toArray) w fun e w' => match e with
          | .returned v => K v w'
          | _ => False
        | false => False
      | _, _ => False
    | .builtin b => match b, evs E c.args.toList, c.argTypes.toList with
      | .len, some [.slice _ n _], [t] => match L.slice t with
        | some _ => K (.int .i64 n) w
        | none => False
      | .append, some [s, x], [t, u] => ∃ v w', (Builtin.append_ #[t, u] ty #[s, x]).run P w = .ok v w' ∧ K v w'
      | .copy, some [s, x], [t, u] => ∃ v w', (Builtin.copy_ #[t, u] ty #[s, x]).run P w = .ok v w' ∧ K v w'
      | .min, some (.int k a :: vs), _ => match minL k a vs with
        | some z => K (.int k z) w
        | none => False
      | _, _, _ => False
    | .invoke _ _ => False
  | _ => False

/-! ### Regions -/
def vcPut (n : Nat) (dst : Option Nat) (v : Value) (E : Env) (K : Env → Prop) : Prop :=
  match dst with
  | none => K E
  | some d => match Nat.blt d n with
    | true => K ((d, v) :: E)
    | false => False

def vcOps (L : Lay) (P : Program) (n : Nat) (all : Array Oper) : List Oper → Env → World → (Env → World → Prop) → Prop
  | [], E, w, K => K E w
  | o :: os, E, w, K => match o.guard with
    | none => vcOp L P o.op o.type E w fun v w' => vcPut n o.dst v E fun E' => vcOps L P n all os E' w' K
    | some (j, want) => match (all.toList[j]?).bind (·.dst) with
      | some d => match look E d with
        | some (.bool β) => bsel β
            (match want with
              | true => vcOp L P o.op o.type ((d, .bool true) :: E) w fun v w' => vcPut n o.dst v ((d, .bool true) :: E) fun E' => vcOps L P n all os E' w' K
              | false => vcPut n o.dst undef ((d, .bool true) :: E) fun E' => vcOps L P n all os E' w K)
            (match want with
              | true => vcPut n o.dst undef ((d, .bool false) :: E) fun E' => vcOps L P n all os E' w K
              | false => vcOp L P o.op o.type ((d, .bool false) :: E) w fun v w' => vcPut n o.dst v ((d, .bool false) :: E) fun E' => vcOps L P n all os E' w' K)
        | some (.tuple _) => vcPut n o.dst undef E fun E' => vcOps L P n all os E' w K
        | _ => False
      | none => False

/-! ### Code -/
def lift (n : Nat) (Q : Exit → Env → World → Prop) : Exit → Act → World → Prop := fun e a w => ∃ E, Rep n E a ∧ Q e E w

@[irreducible] def vcLoop (P : Program) (n : Nat) (c : Code) (E : Env) (w : World) (Q : Exit → Env → World → Prop) : Prop :=
  ∀ a, Rep n E a → (Code.loop c).wp P (lift n Q) a w
@[irreducible] def vcDraw (P : Program) (n : Nat) (id : Nat) (ops : Array Oper) (E : Env) (w : World) (Q : Exit → Env → World → Prop) : Prop :=
  ∀ a, Rep n E a → (Code.region id ops true).wp P (lift n Q) a w

def guarded : List Oper → Bool
  | [] => false
  | o :: os => match o.guard with
    | none => guarded os
    | some _ => true
/-- a region with '&&' or '||': a stop, so that its ways may meet again -/
@[irreducible] def vcReg (P : Program) (n : Nat) (id : Nat) (ops : Array Oper) (E : Env) (w : World) (Q : Exit → Env → World → Prop) : Prop :=
  ∀ a, Rep n E a → (Code.region id ops false).wp P (lift n Q) a w

@[irreducible] def vcCond (P : Program) (n : Nat) (c : Operand) (x y : Code) (E : Env) (w : World) (Q : Exit → Env → World → Prop) : Prop :=
  ∀ a, Rep n E a → (Code.cond c x y).wp P (lift n Q) a w

def vc (L : Lay) (P : Program) (n : Nat) : Code → Env → World → (Exit → Env → World → Prop) → Prop
  | .skip, E, w, Q => Q .normal E w
  | .label _, E, w, Q => Q .normal E w
  | .region id ops draw, E, w, Q => match draw with
    | false => match guarded ops.toList with
      | false => vcOps L P n ops ops.toList E w fun E' w' => Q .normal E' w'
      | true => vcReg P n id ops E w Q
    | true => vcDraw P n id ops E w Q
  | .seq x y, E, w, Q => vc L P n x E w fun e E' w' => match e with
    | .normal => vc L P n y E' w' Q
    | .exit i => Q (.exit i) E' w'
    | .goto l => Q (.goto l) E' w'
    | .ret => Q .ret E' w'
    | .panic ch => Q (.panic ch) E' w'
    | .outgrown => Q .outgrown E' w'
  | .cond c x y, E, w, Q => vcCond P n c x y E w Q
  | .block id c, E, w, Q => vc L P n c E w fun e E' w' => match e with
    | .exit i => match Nat.beq i id with
      | true => Q .normal E' w'
      | false => Q (.exit i) E' w'
    | .normal => Q .normal E' w'
    | .goto l => Q (.goto l) E' w'
    | .ret => Q .ret E' w'
    | .panic ch => Q (.panic ch) E' w'
    | .outgrown => Q .outgrown E' w'
  | .loop c, E, w, Q => vcLoop P n c E w Q
  | .exit id, E, w, Q => Q (.exit id) E w
  | .ret, E, w, Q => Q .ret E w
  | _, _, _, _ => False

/-! ### Functions -/
def argEnv : Nat → List Value → Env
  | _, [] => []
  | i, v :: vs => (i, v) :: argEnv (i + 1) vs

/-- the results, read off the frame -/
def vcRes (L : Lay) (E : Env) (w : World) : List ResultVar → (List Value → Prop) → Prop
  | [], K => K []
  | .tmp t :: rs, K => match look E t with
    | some v => vcRes L E w rs fun vs => K (v :: vs)
    | none => False
  | .cell a t :: rs, K => match look E a with
    | some (.pointer (some ⟨b, off, none⟩)) => match L.single t with
      | true => ∃ v, w.cell? ⟨b, off, none⟩ = some v ∧ vcRes L E w rs fun vs => K (v :: vs)
      | false => match L.agg t with
        | some n => ∃ cs : List Value, cs.length = n ∧ CellsAt w b off cs ∧ vcRes L E w rs fun vs => K (.agg cs.toArray :: vs)
        | none => False
    | _ => False

def vcPost (L : Lay) (rs : List ResultVar) (R : Value → World → Prop) : Exit → Env → World → Prop
  | .normal, E, w => vcRes L E w rs fun vs => match vs with
    | [v] => R v w
    | vs => R (.tuple vs.toArray) w
  | .ret, E, w => vcRes L E w rs fun vs => match vs with
    | [v] => R v w
    | vs => R (.tuple vs.toArray) w
  | _, _, _ => False

def vcFn (L : Lay) (P : Program) (fn : Func) (args : List Value) (w : World) (R : Value → World → Prop) : Prop :=
  match fn.body with
  | some c => vc L P fn.ntmps c (argEnv 0 args) w (vcPost L fn.results.toList R)
  | none => False

end Go.Vc
