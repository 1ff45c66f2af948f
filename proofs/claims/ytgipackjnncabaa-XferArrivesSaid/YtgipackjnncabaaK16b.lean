/- Own texts of this claim, joined: Mem, VcD, Base, Pl02, Pl03, W02a, W02b. -/
import Derived.Test.YtgipackjnncabaaK16a
import Derived.Maps.AppendAt
import Derived.Laws.OwnMore
import Derived.Laws.MakeOwn
import Derived.Laws.CopyOwn
import Derived.Laws.CopyRow
import Derived.Laws.BytesString
import Derived.Laws.Strings
import Derived.Orders

/- Memory: slices that read as lists, slices that a call owns, blocks known whole; append, make, copy, strings out of bytes. -/
set_option linter.unusedSimpArgs false
set_option linter.unusedVariables false
namespace Go.Vc
open Go.RowKit

/-! ### Values -/
def u8v (x : BitVec 8) : Value := .int .u8 x.toNat
def u32v (x : BitVec 32) : Value := .int .u32 x.toNat

/-! ### What is kept -/
/-- the world is only larger -/
abbrev Ext (w w' : World) : Prop := Below w.heap.size w w'
theorem Ext.refl (w : World) : Ext w w := Below.refl _ _
theorem Ext.trans {a b c : World} (h : Ext a b) (k : Ext b c) : Ext a c := Below.trans h (k.mono h.size)
theorem Ext.new (w : World) (o : Obj) : Ext w (w.alloc o) := (Below.refl _ _).alloc (Nat.le_refl _) o
theorem Below.ext {B : Nat} {a b c : World} (h : Below B a b) (hB : B ≤ b.heap.size) (k : Ext b c) : Below B a c := h.trans (k.mono hB)

theorem cell_lt {w : World} {b o : Nat} {v : Value} (h : w.cell? ⟨b, o, none⟩ = some v) : b < w.heap.size := by
  rcases Nat.lt_or_ge b w.heap.size with h' | h'
  · exact h'
  · unfold World.cell? at h
    rw [Array.getElem?_eq_none h'] at h
    cases h

theorem Below.cell_of {B : Nat} {w w' : World} (h : Below B w w') {b o : Nat} {v : Value} (hb : b < B) (hc : w.cell? ⟨b, o, none⟩ = some v) : w'.cell? ⟨b, o, none⟩ = some v := by
  rw [h.cell (p := ⟨b, o, none⟩) hb]; exact hc

/-! ### A slice that reads as a list -/
def Sl {α : Type} (f : α → Value) (w : World) (a : Option Addr) (xs : List α) : Prop :=
  xs = [] ∨ ∃ b o, a = some ⟨b, o, none⟩ ∧ ∀ i x, xs[i]? = some x → w.cell? ⟨b, o + i, none⟩ = some (f x)

section
variable {α : Type} {f : α → Value} {w w' : World} {a : Option Addr} {xs ys : List α}

theorem Sl.nil (f : α → Value) (w : World) (a : Option Addr) : Sl f w a [] := .inl rfl

/-- all of it lies below block number B -/
def SlB {α : Type} (f : α → Value) (w : World) (B : Nat) (a : Option Addr) (xs : List α) : Prop :=
  Sl f w a xs ∧ (xs ≠ [] → ∀ p, a = some p → p.block < B)

theorem Sl.keep (h : Sl f w a xs) {B : Nat} (hk : Below B w w') (hB : w.heap.size ≤ B) : Sl f w' a xs := by
  rcases h with h | ⟨b, o, ha, hc⟩
  · exact .inl h
  · exact .inr ⟨b, o, ha, fun i x hx => Below.cell_of hk (Nat.lt_of_lt_of_le (cell_lt (hc i x hx)) hB) (hc i x hx)⟩
theorem Sl.ext (h : Sl f w a xs) (hk : Ext w w') : Sl f w' a xs := h.keep hk (Nat.le_refl _)
/-- a reading in an elder world is one in each later world of a call -/
theorem Sl.below {w0 : World} (h : Sl f w0 a xs) (hk : Below w0.heap.size w0 w) : Sl f w a xs := h.keep hk (Nat.le_refl _)

theorem Sl.at [Inhabited α] (h : Sl f w a xs) (i : Int) (h0 : 0 ≤ i) (h1 : i < xs.length) :
    ∃ b o, a = some ⟨b, o, none⟩ ∧ w.cell? ⟨b, o + i.toNat, none⟩ = some (f (xs.getD i.toNat default)) := by
  rcases h with h | ⟨b, o, ha, hc⟩
  · subst h; simp at h1; omega
  · refine ⟨b, o, ha, hc _ _ ?_⟩
    have : i.toNat < xs.length := by omega
    simp [List.getD, List.getElem?_eq_getElem this]

theorem Sl.take (h : Sl f w a xs) (n : Nat) : Sl f w a (xs.take n) := by
  rcases h with h | ⟨b, o, ha, hc⟩
  · subst h; exact .inl (by simp)
  · refine .inr ⟨b, o, ha, fun i x hx => hc i x ?_⟩
    rw [List.getElem?_take] at hx
    split at hx
    · exact hx
    · cases hx

theorem Sl.drop (h : Sl f w a xs) (n c : Nat) (hc : xs.length ≤ c) : Sl f w (if c = n then a else a.map (·.add (n * 1))) (xs.drop n) := by
  rcases h with h | ⟨b, o, ha, hcell⟩
  · subst h; exact .inl (by simp)
  · by_cases e : c = n
    · exact .inl (by subst e; exact List.drop_eq_nil_of_le hc)
    · rw [if_neg e]
      refine .inr ⟨b, o + n, by rw [ha]; simp [addr_add], fun i x hx => ?_⟩
      rw [List.getElem?_drop] at hx
      have := hcell _ _ hx
      rw [Nat.add_assoc]; exact this

/-- the cells that lie at an address -/
theorem Sl.cells (h : Sl f w a xs) : ∀ p, a = some p → ∀ (j : Nat) (u : Value), (xs.map f)[j]? = some u → w.cell? (p.add j) = some u := by
  intro p hp j u hu
  rcases h with h | ⟨b, o, ha, hc⟩
  · subst h; simp at hu
  · rw [hp] at ha
    cases ha
    rw [addr_add]
    rw [List.getElem?_map] at hu
    cases hx : xs[j]? with
    | none => rw [hx] at hu; cases hu
    | some x => rw [hx] at hu; cases hu; exact hc j x hx
end

/-! ### A slice that the call owns: at the head of a row of its own, from block B on -/
def Own {α : Type} (T : TypeId) (f : α → Value) (B : Nat) (w : World) (a : Option Addr) (c : Nat) (xs : List α) : Prop :=
  w.ownsRow B T 1 (.slice a xs.length c) xs.length (xs.map f)

def blockOf (a : Option Addr) : Option Nat := a.map (·.block)

section
variable {α : Type} {T : TypeId} {f : α → Value} {B : Nat} {w w' : World} {a : Option Addr} {c : Nat} {xs ys : List α}

theorem Own.nil (T : TypeId) (f : α → Value) (B : Nat) (w : World) : Own T f B w none 0 [] := World.ownsRow_nil w B T 1

theorem Own.form (h : Own T f B w a c xs) : (a = none ∧ c = 0 ∧ xs = []) ∨ ∃ g cur, a = some ⟨g, 0, none⟩ ∧ B ≤ g ∧ g < w.heap.size ∧ w.heap[g]? = some (.cells cur T (0, 0)) ∧ xs.length ≤ c ∧ c ≤ maxLen ∧ cur.size = c ∧ cur.toList.take xs.length = xs.map f := by
  obtain ⟨h1, h2⟩ := h
  rcases h2 with ⟨h2, h3⟩ | ⟨g, cap, cur, hv, hB, hh, hn, hc, hs, ht⟩
  · injection h2 with e1 e2 e3
    exact .inl ⟨e1, e3, List.eq_nil_of_length_eq_zero h3⟩
  · injection hv with e1 e2 e3
    subst e3
    refine .inr ⟨g, cur, e1, hB, ?_, hh, hn, hc, by simpa using hs, by simpa using ht⟩
    rcases Nat.lt_or_ge g w.heap.size with h' | h'
    · exact h'
    · rw [Array.getElem?_eq_none h'] at hh; cases hh

theorem cell_row {w : World} {g i : Nat} {cur : Array Value} {T : TypeId} {fr : Nat × Nat} (h : w.heap[g]? = some (.cells cur T fr)) : w.cell? ⟨g, i, none⟩ = cur[i]? := by
  simp [World.cell?, h]

theorem Own.sl (h : Own T f B w a c xs) : Sl f w a xs := by
  rcases h.form with ⟨_, _, h3⟩ | ⟨g, cur, ha, _, _, hh, _, _, hs, ht⟩
  · exact .inl h3
  · refine .inr ⟨g, 0, ha, fun i x hx => ?_⟩
    rw [cell_row hh, Nat.zero_add]
    have hi : i < xs.length := by
      rcases Nat.lt_or_ge i xs.length with h' | h'
      · exact h'
      · rw [List.getElem?_eq_none h'] at hx; cases hx
    have h4 : (cur.toList.take xs.length)[i]? = some (f x) := by rw [ht, List.getElem?_map, hx]; rfl
    rw [List.getElem?_take, if_pos hi] at h4
    simpa using h4

theorem Own.ge (h : Own T f B w a c xs) : ∀ g, blockOf a = some g → B ≤ g ∧ g < w.heap.size := by
  intro g hg
  rcases h.form with ⟨h1, _, _⟩ | ⟨g', cur, ha, h2, h3, _⟩
  · subst h1; cases hg
  · subst ha; cases hg; exact ⟨h2, h3⟩

theorem Own.le (h : Own T f B w a c xs) : xs.length ≤ c ∧ c ≤ maxLen := by
  rcases h.form with ⟨_, h2, h3⟩ | ⟨g, cur, _, _, _, _, h4, h5, _⟩
  · subst h3; subst h2; exact ⟨Nat.le_refl _, Nat.zero_le _⟩
  · exact ⟨h4, h5⟩

/-- kept where its own block is -/
theorem Own.keep (h : Own T f B w a c xs) (hk : ∀ g, blockOf a = some g → w'.heap[g]? = w.heap[g]?) : Own T f B w' a c xs := by
  obtain ⟨h1, h2⟩ := h
  refine ⟨h1, ?_⟩
  rcases h2 with h2 | ⟨g, cap, cur, hv, hB, hh, r⟩
  · exact .inl h2
  · refine .inr ⟨g, cap, cur, hv, hB, ?_, r⟩
    injection hv with e1
    rw [hk g (by rw [e1]; rfl)]
    exact hh
theorem Own.ext (h : Own T f B w a c xs) (hk : Ext w w') : Own T f B w' a c xs := h.keep fun g hg => hk.block g (h.ge g hg).2
theorem Own.alloc (h : Own T f B w a c xs) (o : Obj) : Own T f B (w.alloc o) a c xs := h.ext (Ext.new w o)
theorem Own.base (h : Own T f B w a c xs) {B' : Nat} (hB : B' ≤ B) : Own T f B' w a c xs := by
  obtain ⟨h1, h2⟩ := h
  refine ⟨h1, ?_⟩
  rcases h2 with h2 | ⟨g, cap, cur, hv, hB', r⟩
  · exact .inl h2
  · exact .inr ⟨g, cap, cur, hv, by omega, r⟩
end

/-- The world after something was written into block 'row' alone (or new blocks were made). -/
abbrev Gr (w w' : World) (row : Option Nat) : Prop := w.grownBy w' row
theorem Gr.below {w0 w w' : World} {row : Option Nat} {B : Nat} (h : Gr w w' row) (hb : Below B w0 w) (hB : B ≤ w.heap.size) (hr : ∀ g, row = some g → B ≤ g) : Below B w0 w' := hb.grown h hB hr
theorem Gr.keepOwn {α : Type} {T : TypeId} {f : α → Value} {B c : Nat} {w w' : World} {a : Option Addr} {xs : List α} {row : Option Nat} (h : Gr w w' row) (ho : Own T f B w a c xs) (hne : ∀ g, blockOf a = some g → row ≠ some g) : Own T f B w' a c xs :=
  ho.keep fun g hg => h.block g (ho.ge g hg).2 (fun e => hne g hg e.symm)
theorem Gr.keepSl {α : Type} {f : α → Value} {w w' : World} {a : Option Addr} {xs : List α} {row : Option Nat} (h : Gr w w' row) (ho : Sl f w a xs) (hne : xs ≠ [] → ∀ g, blockOf a = some g → row ≠ some g) : Sl f w' a xs := by
  rcases ho with ho | ⟨b, o, ha, hc⟩
  · exact .inl ho
  · by_cases he : xs = []
    · exact .inl he
    · refine .inr ⟨b, o, ha, fun i x hx => ?_⟩
      have hb := hc i x hx
      have := hne he b (by rw [ha]; rfl)
      rw [World.cell?_of_block (w := w) (a := ⟨b, o + i, none⟩) (h.block b (cell_lt hb) (fun e => this e.symm))]
      exact hb

/-! ### The element types -/
structure Elem (P : Program) (t e : TypeId) : Prop where
  und : P.underlying t = some (.slice e)
  info : ∃ i z, P.info? e = some i ∧ i.zero = some z ∧ i.size = 1 ∧ i.bytes ≤ 24 ∧ z.cells.size = 1

theorem mapOne {α : Type} {f : α → Value} (h1 : ∀ x, (f x).oneCell' = true) (xs : List α) : ∀ u ∈ xs.map f, u.oneCell' = true := by
  intro u hu
  obtain ⟨x, _, rfl⟩ := List.mem_map.1 hu
  exact h1 x

/-- append onto a slice of the call's own -/
theorem Own.append {α : Type} {P : Program} {t e ty : TypeId} (he : Elem P t e) {f : α → Value} (h1 : ∀ x, (f x).oneCell' = true) {B : Nat} {w : World} {a : Option Addr} {c : Nat} {xs : List α} (h : Own e f B w a c xs)
    {b : Option Addr} {d : Nat} {ys : List α} (hy : Sl f w b ys) (hlen : xs.length + ys.length ≤ 4294967296) (hB : B ≤ w.heap.size) :
    ∃ a' c' w', (Builtin.append_ #[t, t] ty #[.slice a xs.length c, .slice b ys.length d]).run P w = .ok (.slice a' (xs ++ ys).length c') w' ∧ Own e f B w' a' c' (xs ++ ys) ∧ Gr w w' (blockOf a) ∧
      (blockOf a' = blockOf a ∨ blockOf a' = some w.heap.size) := by
  obtain ⟨i, z, hi, hz, hs, hby, hzc⟩ := he.info
  have hown : w.ownsRow B e 1 (.slice a xs.length c) xs.length (xs.map f) := h
  have hml : xs.length + ys.length ≤ maxLen := by unfold maxLen; omega
  have hbt : (xs.length + ys.length) * i.bytes ≤ 140737488355328 := by
    have := Nat.mul_le_mul hlen hby
    omega
  have hob : (Value.slice a xs.length c).ownBlock = blockOf a := by cases a <;> rfl
  have fin : ∀ v' w', w'.ownsRow B e 1 v' (xs.length + ys.length) (xs.map f ++ ys.map f) → ∃ a' c', v' = .slice a' (xs ++ ys).length c' ∧ Own e f B w' a' c' (xs ++ ys) := by
    intro v' w' hv
    have hv2 := hv.2
    rcases hv2 with ⟨rfl, hn⟩ | ⟨g, cap, cur, rfl, _⟩
    · refine ⟨none, 0, by rw [List.length_append, hn], ?_⟩
      unfold Own
      rw [List.length_append, hn] at *
      rw [List.map_append]; exact hv
    · refine ⟨some ⟨g, 0, none⟩, cap, by rw [List.length_append], ?_⟩
      unfold Own
      rw [List.length_append, List.map_append]; exact hv
  rcases b with _ | p
  · have hy0 : ys = [] := by
      rcases hy with hy | ⟨b, o, hb, _⟩
      · exact hy
      · cases hb
    subst hy0
    refine ⟨a, c, w, ?_, by simpa using h, World.grownBy.refl w _, .inl rfl⟩
    simp only [List.append_nil, List.length_nil]
    rcases hown.2 with ⟨hv, hn⟩ | ⟨g, cap, cur, hv, _, _, hnc, _⟩
    · rw [hv]
      injection hv with e1 e2 e3
      simp [Builtin.append_, run_underlying he.und, run_size hi, Builtin.lenOf, Builtin.firstCells]
    · rw [hv]
      injection hv with e1 e2 e3
      simp [Builtin.append_, run_underlying he.und, run_size hi, Builtin.lenOf, Builtin.firstCells, hnc, storeCells]
  · obtain ⟨v', w', hrun, h2, h3, _, h5⟩ := run_append_own_at (P := P) w B t ty e i z 1 i.bytes he.und hi hz hs rfl hzc (by omega) _ _ _ hown p ys.length d (ys.map f) (by simp) (hy.cells p rfl) (mapOne h1 ys) hml hbt hB
    obtain ⟨a', c', rfl, ho⟩ := fin v' w' h2
    have hob' : (Value.slice a' (xs ++ ys).length c').ownBlock = blockOf a' := by cases a' <;> rfl
    rw [hob] at h3
    refine ⟨a', c', w', hrun, ho, h3, ?_⟩
    rw [hob', hob] at h5
    exact h5

theorem run_newRow {P : Program} (e : TypeId) (cells : Array Value) (w : World) : (newRow e cells).run P w = .ok ⟨w.heap.size, 0, none⟩ (w.alloc (.cells cells e)) := rfl

/-- a slice literal of one element -/
theorem run_build1 {P : Program} {t e : TypeId} (he : Elem P t e) {v : Value} (h1 : v.oneCell' = true) (w : World) :
    (Instr.buildSlice t 1 #[(0, v)]).run P w = .ok (.slice (some ⟨w.heap.size, 0, none⟩) 1 1) (w.alloc (.cells #[v] e)) := by
  obtain ⟨i, z, hi, hz, hs, hby, hzc⟩ := he.info
  have hc : v.cells = #[v] := by cases v <;> first | rfl | (simp [Value.oneCell'] at h1)
  simp [Instr.buildSlice, run_underlying he.und, run_size hi, hs, run_zero hi hz, Instr.fill, hc, run_newRow]
  congr 2
  rw [show Array.range 1 = #[0] from rfl]
  simp

theorem Sl.one {α : Type} {f : α → Value} {e : TypeId} {v : Value} (x : α) (w : World) (hv : v = f x) : Sl f (w.alloc (.cells #[v] e)) (some ⟨w.heap.size, 0, none⟩) [x] := by
  subst hv
  refine .inr ⟨_, _, rfl, fun i y hy => ?_⟩
  rw [World.cell?_alloc_new, Nat.zero_add]
  match i, hy with
  | 0, hy => have : x = y := by simpa using hy
             subst this; rfl

/-! ### Strings out of bytes -/
def bstr (xs : List (BitVec 8)) : ByteArray := ⟨(xs.map UInt8.ofBitVec).toArray⟩

theorem foldl_push : ∀ (xs : List (BitVec 8)) (s : ByteArray), (xs.map fun x => ((x.toNat : Nat) : Int)).foldl (fun r n => r.push (UInt8.ofNat n.toNat)) s = ⟨s.data ++ (xs.map UInt8.ofBitVec).toArray⟩
  | [], s => by simp
  | x :: xs, s => by
    simp only [List.map_cons, List.foldl_cons]
    rw [foldl_push xs]
    have e : UInt8.ofNat (Int.toNat ((x.toNat : Nat) : Int)) = UInt8.ofBitVec x := by
      apply UInt8.toBitVec_inj.1
      apply BitVec.eq_of_toNat_eq
      simp
    rw [e]
    apply ByteArray.ext
    simp [ByteArray.push]

theorem run_toStr {P : Program} {w : World} {a : Option Addr} {c : Nat} {xs : List (BitVec 8)} (h : Sl u8v w a xs) :
    (Conv.bytesToString (.slice a xs.length c)).run P w = .ok (.string (bstr xs)) w := by
  rcases a with _ | p
  · have : xs = [] := by
      rcases h with h | ⟨b, o, hb, _⟩
      · exact h
      · cases hb
    subst this
    rfl
  · have hl := run_loadCells_list (P := P) w p (xs.map u8v) (h.cells p rfl)
    have e : xs.map u8v = (xs.map fun x => ((x.toNat : Nat) : Int)).map (Value.int .u8) := by simp [u8v]
    rw [List.length_map, e] at hl
    rw [run_bytesToString w p xs.length c _ hl, foldl_push]
    simp [bstr]

theorem bstr_inj {xs ys : List (BitVec 8)} : ((bstr xs).toList == (bstr ys).toList) = decide (xs = ys) := by
  have e : ∀ l : List (BitVec 8), (bstr l).toList = l.map UInt8.ofBitVec := by
    intro l
    rw [ByteArray.toList_eq]
    simp [bstr]
  rw [e, e, Bool.eq_iff_iff]
  simp only [beq_iff_eq, decide_eq_true_eq]
  constructor
  · intro h
    have := congrArg (List.map UInt8.toBitVec) h
    have e2 : (UInt8.toBitVec ∘ UInt8.ofBitVec) = id := funext fun x => rfl
    simpa [e2] using this
  · rintro rfl; rfl

theorem str_eq {β : Bool} {s t : ByteArray} {xs ys : List (BitVec 8)} (h : β = (s.toList == t.toList)) (hs : s = bstr xs) (ht : t = bstr ys) : β = decide (xs = ys) := by
  subst hs ht
  rw [h, bstr_inj]

/-! ### make, copy, a store into an owned slice -/
/-- the zero of the element type, as the list's element -/
structure ElemZ {α : Type} (P : Program) (t e : TypeId) (f : α → Value) (d : α) : Prop extends Elem P t e where
  zero : ∃ i, P.info? e = some i ∧ i.zero = some (f d)
  one : ∀ x, (f x).oneCell' = true

theorem run_makeOwn {α : Type} {P : Program} {t e : TypeId} {f : α → Value} {d : α} (he : ElemZ P t e f d) (B : Nat) (w : World) (hB : B ≤ w.heap.size) (n c : Nat) (hnc : n ≤ c) (hc : c ≤ 4294967296) :
    ∃ w', (Instr.makeSlice t (.int .i64 n) (.int .i64 c)).run P w = .ok (.slice (some ⟨w.heap.size, 0, none⟩) (List.replicate n d).length c) w' ∧
      Own e f B w' (some ⟨w.heap.size, 0, none⟩) c (List.replicate n d) ∧ Ext w w' := by
  obtain ⟨i, z, hi, hz, hs, hby, hzc⟩ := he.info
  obtain ⟨i', hi', hz'⟩ := he.zero
  rw [hi] at hi'; cases hi'
  have hb : (i.bytes : Int) * (c : Int) ≤ 281474976710656 := by
    have h1 : ((i.bytes * c : Nat) : Int) ≤ 281474976710656 := by
      have := Nat.mul_le_mul hby hc
      omega
    rwa [Int.natCast_mul] at h1
  have hr := run_make (P := P) w t e i (f d) he.und hi hz' .i64 .i64 n c (by omega) (by omega) hb (by omega)
  refine ⟨w.alloc (.cells (madeCells (f d).cells (c * i.size)) e), by rw [hr]; simp, ?_, Ext.new _ _⟩
  have hcells : (f d).cells = #[f d] := by
    have := he.one d
    generalize f d = v at this
    cases v <;> first | rfl | (simp [Value.oneCell'] at this)
  have hl : (madeCells (f d).cells (c * i.size)).toList = List.replicate c (f d) := by
    rw [hcells, hs, Nat.mul_one]
    exact toList_madeCells_one (f d) c
  refine ⟨by simp, .inr ⟨w.heap.size, c, madeCells (f d).cells (c * i.size), by simp, hB, heap_alloc_new w _, by simpa using hnc, by unfold maxLen; omega, by simp [size_madeCells, hs], ?_⟩⟩
  rw [hl]
  simp [Nat.min_eq_left hnc]

theorem splice_full {α : Type} (cur : List α) (vs : List α) : (cur.take 0 ++ vs ++ cur.drop (0 + vs.length)).take vs.length = vs := by simp

/-- all elements of an owned slice are written anew -/
theorem Own.setRow {α : Type} {T : TypeId} {f : α → Value} {B : Nat} {w : World} {g c : Nat} {xs : List α} (h : Own T f B w (some ⟨g, 0, none⟩) c xs) (ys : List α) (hl : ys.length = xs.length) (cur : Array Value)
    (hc : w.heap[g]? = some (.cells cur T (0, 0))) : Own T f B (w.setRow g ((cur.toList.take 0 ++ ys.map f ++ cur.toList.drop (0 + (ys.map f).length)).toArray)) (some ⟨g, 0, none⟩) c ys := by
  obtain ⟨h1, h2⟩ := h
  refine ⟨by simp, ?_⟩
  rcases h2 with ⟨h2, _⟩ | ⟨g', cap, cur', hv, hB, hh, hn, hcm, hs, ht⟩
  · cases h2
  · injection hv with e1 e2 e3
    cases e1
    rw [hc] at hh
    injection hh with hh
    injection hh with hh
    subst hh
    subst e3
    refine .inr ⟨g, c, _, rfl, hB, setRow_heap w g _ _ T _ hc, by omega, hcm, ?_, by simp⟩
    simp at hs ⊢
    omega

theorem gr_setRow (w : World) (g : Nat) (cs : Array Value) : Gr w (w.setRow g cs) (some g) :=
  ⟨rfl, rfl, rfl, by simp [World.setRow], fun k hk hne => by
    simp only [World.setRow, Array.getElem?_modify]
    rw [if_neg (fun e => hne (by rw [e]))]⟩

theorem Own.copy {α : Type} {P : Program} {t e u ty : TypeId} (he : Elem P t e) {f : α → Value} (h1 : ∀ x, (f x).oneCell' = true) {B : Nat} {w : World} {a : Option Addr} {c : Nat} {xs : List α} (h : Own e f B w a c xs)
    {b : Option Addr} {d : Nat} {ys : List α} (hy : Sl f w b ys) (hl : ys.length = xs.length) :
    ∃ w', (Builtin.copy_ #[t, u] ty #[.slice a xs.length c, .slice b ys.length d]).run P w = .ok (.int .i64 ys.length) w' ∧ Own e f B w' a c ys ∧ Gr w w' (blockOf a) := by
  obtain ⟨i, z, hi, hz, hs, hby, hzc⟩ := he.info
  by_cases h0 : ys = []
  · subst h0
    have hx : xs = [] := List.eq_nil_of_length_eq_zero (by simpa using hl.symm)
    subst hx
    refine ⟨w, ?_, h, World.grownBy.refl w _⟩
    cases a <;> cases b <;> simp [Builtin.copy_, run_underlying he.und, Builtin.lenOf, Builtin.firstCells, run_size hi, hs, storeCells, goInt, loadCells, loadCellsFrom]
  · rcases h.form with ⟨_, _, h3⟩ | ⟨g, cur, ha, hB, hg, hh, hlc, hcm, hsz, ht⟩
    · subst h3; exact absurd (List.eq_nil_of_length_eq_zero (by simpa using hl)) h0
    · subst ha
      rcases b with _ | p
      · rcases hy with hy | ⟨_, _, hb, _⟩
        · exact absurd hy h0
        · cases hb
      · have hr := run_copy_row (P := P) w t u ty e g 0 xs.length c p ys.length d cur e (ys.map f) he.und (by rw [hi]; simp [hs]) hh (by simp [hl]) (hy.cells p rfl) (by simp; omega) (mapOne h1 ys)
        refine ⟨_, by rw [hr]; simp [goInt], h.setRow ys hl cur hh, gr_setRow _ _ _⟩

theorem oneCell_cells {v : Value} (h : v.oneCell' = true) : v.cells = #[v] := by cases v <;> first | rfl | (simp [Value.oneCell'] at h)

/-- one element of an owned slice is written anew -/
theorem Own.store {α : Type} {T : TypeId} {f : α → Value} {B : Nat} {w : World} {a : Option Addr} {c : Nat} {xs : List α} (h : Own T f B w a c xs) (i : Int) (h0 : 0 ≤ i) (h1 : i < xs.length) :
    ∃ g, a = some ⟨g, 0, none⟩ ∧ (w.cell? ⟨g, 0 + i.toNat, none⟩).isSome = true ∧ w.frozen? ⟨g, 0 + i.toNat, none⟩ = false ∧ B ≤ g ∧ g < w.heap.size ∧
      ∀ x, Own T f B (w.setCell ⟨g, 0 + i.toNat, none⟩ (f x)) a c (xs.set i.toNat x) ∧ Gr w (w.setCell ⟨g, 0 + i.toNat, none⟩ (f x)) (some g) := by
  rcases h.form with ⟨_, _, h3⟩ | ⟨g, cur, ha, hB, hg, hh, hlc, hcm, hsz, ht⟩
  · subst h3; simp at h1; omega
  · have hi : i.toNat < xs.length := by omega
    refine ⟨g, ha, ?_, by simp [World.frozen?, hh], hB, hg, fun x => ⟨?_, ?_⟩⟩
    · rw [cell_row hh]; simp; omega
    · subst ha
      refine ⟨by simp, .inr ⟨g, c, cur.setIfInBounds i.toNat (f x), by simp, hB, ?_, by simpa using hlc, hcm, by simpa using hsz, ?_⟩⟩
      · simp [World.setCell, Array.getElem?_modify, hh]
      · simp only [List.length_set, Nat.mul_one, Array.toList_setIfInBounds, List.map_set]
        rw [← ht, List.take_set]
    · exact ⟨rfl, rfl, rfl, by simp [World.setCell], fun k hk hne => Below.heap_setCell _ _ _ _ (fun e => hne (by rw [e]))⟩

/-! ### small things on frames -/
theorem Gr.step {w w1 w2 : World} {row row' : Option Nat} (h : Gr w w1 row) (k : Gr w1 w2 row') (hr : row' = row ∨ ∀ g, row' = some g → w.heap.size ≤ g) : Gr w w2 row :=
  ⟨k.os.trans h.os, k.tape.trans h.tape, k.output.trans h.output, Nat.le_trans h.size k.size, fun i hi hne => by
    rw [k.block i (Nat.lt_of_lt_of_le hi h.size) (fun e => ?_), h.block i hi hne]
    rcases hr with hr | hr
    · exact hne (by rw [e, hr])
    · have := hr i e.symm; omega⟩
theorem Gr.refl (w : World) (row : Option Nat) : Gr w w row := World.grownBy.refl w row
theorem Gr.ofExt {w w' : World} (h : Ext w w') (row : Option Nat) : Gr w w' row := ⟨h.os, h.tape, h.output, h.size, fun k hk _ => h.block k hk⟩
theorem Gr.alloc (w : World) (o : Obj) (row : Option Nat) : Gr w (w.alloc o) row := Gr.ofExt (Ext.new w o) row
theorem Gr.ext {w w' : World} (h : Gr w w' none) : Ext w w' := ⟨h.os, h.tape, h.output, h.size, fun k hk => h.block k hk (by simp)⟩
theorem Ext.drew (w : World) : Ext w w.drew := (Below.refl _ _).drew
/-- what was written lies in a block that was not there -/
theorem Gr.extOf {w0 w w' : World} {row : Option Nat} (h : Gr w w' row) (hb : Ext w0 w) (hr : ∀ g, row = some g → w0.heap.size ≤ g) : Ext w0 w' := h.below hb hb.size hr

end Go.Vc

/- Regions whose order is drawn: one walk in an order in which whatever only reads comes first serves every order. -/
set_option linter.unusedSimpArgs false
set_option linter.unusedVariables false
namespace Go.Vc
open Go.RowKit

section
variable {P : Program} {ops : Array Oper}

/-- an operation that yields a value and leaves the world alone -/
def qOp (P : Program) (ops : Array Oper) (i : Nat) (K : Act → World → Prop) (a : Act) (w : World) : Prop :=
  match ops[i]? with
  | none => K a w
  | some o => if Region.wanted o (yielded ops a.tmps) = true then ∃ v, (execOp a.eval o).run P w = .ok (.value v) w ∧ K (a.put o.dst v) w else K (a.put o.dst undef) w

/-- any other one -/
def eOp (P : Program) (ops : Array Oper) (Q : Exit → Act → World → Prop) (i : Nat) (K : Act → World → Prop) (a : Act) (w : World) : Prop :=
  match ops[i]? with
  | none => K a w
  | some o => if Region.wanted o (yielded ops a.tmps) = true then o.wp P a w K Q else K (a.put o.dst undef) w

def anyC (P : Program) (ops : Array Oper) (eff nd : Nat → Bool) (Q : Exit → Act → World → Prop) : Nat → (World → Prop) → Array Bool → Act → World → Prop
  | 0, C, listed, a, w => Region.ready .any ops listed = [] ∧ Q .normal a w
  | fuel + 1, C, listed, a, w => (Region.ready .any ops listed = [] → Q .normal a w) ∧ ∀ i ∈ Region.ready .any ops listed,
      if eff i = true then eOp P ops Q i (fun a' w' => ∃ C' : World → Prop, (∀ w, C' w → C w) ∧ (nd i = true → C' w') ∧ anyC P ops eff nd Q fuel C' (listed.setIfInBounds i true) a' w') a w
      else qOp P ops i (anyC P ops eff nd Q fuel C (listed.setIfInBounds i true)) a w

theorem wpOp_of_qOp {Q : Exit → Act → World → Prop} {i : Nat} {K K' : Act → World → Prop} {a : Act} {w : World} (h : qOp P ops i K a w) (hk : ∀ a w, K a w → K' a w) : wpOp P ops Q i K' a w := by
  unfold qOp at h
  unfold wpOp
  split
  · rename_i ho; rw [ho] at h; exact hk _ _ h
  · rename_i o ho
    rw [ho] at h
    simp only at h
    split
    · rename_i hw
      rw [if_pos hw] at h
      obtain ⟨v, hrun, h⟩ := h
      exact .inl (wp_of_value hrun (hk _ _ h))
    · rename_i hw
      rw [if_neg hw] at h
      exact hk _ _ h

theorem wpOp_of_eOp {Q : Exit → Act → World → Prop} {i : Nat} {K K' : Act → World → Prop} {a : Act} {w : World} (h : eOp P ops Q i K a w) (hk : ∀ a w, K a w → K' a w) : wpOp P ops Q i K' a w := by
  unfold eOp at h
  unfold wpOp
  split
  · rename_i ho; rw [ho] at h; exact hk _ _ h
  · rename_i o ho
    rw [ho] at h
    simp only at h
    split
    · rename_i hw
      rw [if_pos hw] at h
      exact .inl (Oper.wp_mono hk h)
    · rename_i hw
      rw [if_neg hw] at h
      exact hk _ _ h

theorem anyC_sound {eff nd : Nat → Bool} {Q : Exit → Act → World → Prop} : ∀ (fuel : Nat) (C : World → Prop) (listed : Array Bool) (a : Act) (w : World), anyC P ops eff nd Q fuel C listed a w → wpAny P .any ops Q fuel listed a w
  | 0, _, _, _, _, h => h
  | fuel + 1, C, listed, a, w, h => ⟨h.1, fun i hi => by
      have h2 := h.2 i hi
      split at h2
      · exact wpOp_of_eOp h2 fun a' w' hk => by
          obtain ⟨C', _, _, hk⟩ := hk
          exact anyC_sound fuel C' _ a' w' hk
      · exact wpOp_of_qOp h2 fun a' w' hk => anyC_sound fuel C _ a' w' hk⟩

/-- in state 'a', in every world of the class, the operation yields v -/
def YieldsIn (P : Program) (ops : Array Oper) (D : World → Prop) (o : Oper) (v : Value) (a : Act) : Prop :=
  (Region.wanted o (yielded ops a.tmps) = true ∧ ∀ w, D w → (execOp a.eval o).run P w = .ok (.value v) w) ∨ (Region.wanted o (yielded ops a.tmps) = false ∧ v = undef)

theorem YieldsIn.same {D : World → Prop} {o : Oper} {v : Value} {a a' : Act} (h : YieldsIn P ops D o v a) (he : execOp a'.eval o = execOp a.eval o) (hw : Region.wanted o (yielded ops a'.tmps) = Region.wanted o (yielded ops a.tmps)) :
    YieldsIn P ops D o v a' := by
  unfold YieldsIn at *
  rw [he, hw]; exact h

theorem YieldsIn.qOp {D : World → Prop} {i : Nat} {o : Oper} {v : Value} {a : Act} {w : World} (hi : ops[i]? = some o) (h : YieldsIn P ops D o v a) (hD : D w) {K : Act → World → Prop} (hk : K (a.put o.dst v) w) : qOp P ops i K a w := by
  unfold Vc.qOp
  rw [hi]
  simp only
  rcases h with ⟨hw, h⟩ | ⟨hw, rfl⟩
  · rw [if_pos hw]; exact ⟨v, h w hD, hk⟩
  · rw [if_neg (by rw [hw]; simp)]; exact hk

theorem qOp_put {D : World → Prop} {j : Nat} {oi oj : Oper} {v : Value} (hj : ops[j]? = some oj) (hap : oi.apart ops oj = true) (hsi : ∀ cs b, oi.op ≠ .select cs b) (hsj : ∀ cs b, oj.op ≠ .select cs b)
    {K : Act → World → Prop} {a : Act} {w : World} (hy : YieldsIn P ops D oi v a) (h : qOp P ops j K (a.put oi.dst v) w) :
    qOp P ops j (fun a' w' => w' = w ∧ YieldsIn P ops D oi v a' ∧ K (a'.put oi.dst v) w') a w := by
  obtain ⟨h1, h2, h3⟩ := Oper.apart_spec hap
  have keep : ∀ u, YieldsIn P ops D oi v (a.put oj.dst u) := fun u => hy.same (execOp_put oi hsi a oj.dst u h3) (wanted_put oi a oj.dst u h3)
  unfold qOp at *
  rw [hj] at *
  simp only at *
  rw [wanted_put oj a oi.dst v h1, execOp_put oj hsj a oi.dst v h1] at h
  split
  · rename_i hw
    rw [if_pos hw] at h
    obtain ⟨u, hrun, h⟩ := h
    exact ⟨u, hrun, trivial, keep u, by rw [← Act.put_comm a v u h2]; exact h⟩
  · rename_i hw
    rw [if_neg hw] at h
    exact ⟨trivial, keep _, by rw [← Act.put_comm a v undef h2]; exact h⟩

theorem eOp_put {D : World → Prop} {N : Act → World → Prop} {j : Nat} {oi oj : Oper} {v : Value} (hj : ops[j]? = some oj) (hap : oi.apart ops oj = true) (hsi : ∀ cs b, oi.op ≠ .select cs b) (hsj : ∀ cs b, oj.op ≠ .select cs b)
    {K : Act → World → Prop} {a : Act} {w : World} (hy : YieldsIn P ops D oi v a) (h : eOp P ops (fun e a w => e = .normal ∧ N a w) j K (a.put oi.dst v) w) :
    eOp P ops (fun e a w => e = .normal ∧ N a w) j (fun a' w' => YieldsIn P ops D oi v a' ∧ K (a'.put oi.dst v) w') a w := by
  obtain ⟨h1, h2, h3⟩ := Oper.apart_spec hap
  have keep : ∀ (a : Act), YieldsIn P ops D oi v a → ∀ u, YieldsIn P ops D oi v (a.put oj.dst u) := fun a hy u => hy.same (execOp_put oi hsi a oj.dst u h3) (wanted_put oi a oj.dst u h3)
  unfold eOp at *
  rw [hj] at *
  simp only at *
  rw [wanted_put oj a oi.dst v h1] at h
  split
  · rename_i hw
    rw [if_pos hw] at h
    unfold Oper.wp at *
    rw [execOp_put oj hsj a oi.dst v h1] at h
    generalize (execOp a.eval oj).run P w = r at *
    have back : ∀ (u : Value) (w' : World), K ((a.put oi.dst v).put oj.dst u) w' → YieldsIn P ops D oi v (a.put oj.dst u) ∧ K ((a.put oj.dst u).put oi.dst v) w' :=
      fun u w' hk => ⟨keep a hy u, by rw [← Act.put_comm a v u h2]; exact hk⟩
    cases r with
    | ok m w' =>
      cases m <;> simp only [Oper.upon] at h ⊢
      case value u => exact back u w' h
      case skip => exact back _ w' h
      case defer d =>
        refine ⟨keep { a with defers := d :: a.defers } (hy.same rfl rfl) _, ?_⟩
        rw [← Act.put_comm _ v undef h2, ← Act.put_defers]
        exact h
      case enter f args =>
        refine h.mono fun e w'' he => ?_
        cases e with
        | returned u => exact back u w'' he
        | panicked ch => exact absurd he.1 (by simp)
        | outgrown => obtain ⟨a1, w1, h1⟩ := he; exact absurd h1.1 (by simp)
      case row row args => exact h.mono fun u w'' he => back u w'' he
    | halt x w' =>
      cases x <;> simp only [Oper.upon] at h ⊢
      exact absurd h.1 (by simp)
  · rename_i hw
    rw [if_neg hw] at h
    exact ⟨keep a hy _, by rw [← Act.put_comm a v undef h2]; exact h⟩

theorem qOp_mono {i : Nat} {K K' : Act → World → Prop} {a : Act} {w : World} (h : qOp P ops i K a w) (hk : ∀ a w, K a w → K' a w) : qOp P ops i K' a w := by
  unfold qOp at *
  split
  · rename_i ho; rw [ho] at h; exact hk _ _ h
  · rename_i o ho
    rw [ho] at h
    simp only at h
    split
    · rename_i hw
      rw [if_pos hw] at h
      obtain ⟨v, hrun, h⟩ := h
      exact ⟨v, hrun, hk _ _ h⟩
    · rename_i hw
      rw [if_neg hw] at h
      exact hk _ _ h

theorem eOp_mono {Q : Exit → Act → World → Prop} {i : Nat} {K K' : Act → World → Prop} {a : Act} {w : World} (h : eOp P ops Q i K a w) (hk : ∀ a w, K a w → K' a w) : eOp P ops Q i K' a w := by
  unfold eOp at *
  split
  · rename_i ho; rw [ho] at h; exact hk _ _ h
  · rename_i o ho
    rw [ho] at h
    simp only at h
    split
    · rename_i hw
      rw [if_pos hw] at h
      exact Oper.wp_mono hk h
    · rename_i hw
      rw [if_neg hw] at h
      exact hk _ _ h

theorem wpOp_weaken {Q Q' : Exit → Act → World → Prop} {i : Nat} {K K' : Act → World → Prop} {a : Act} {w : World} (h : wpOp P ops Q i K a w) (hk : ∀ a w, K a w → K' a w) (hq : ∀ e a w, Q e a w → Q' e a w) : wpOp P ops Q' i K' a w := by
  unfold wpOp at *
  split
  · rename_i ho; rw [ho] at h; exact hk _ _ h
  · rename_i o ho
    rw [ho] at h
    simp only at h
    split
    · rename_i hw
      rw [if_pos hw] at h
      rcases h with h | ⟨h1, a1, w1, h2⟩
      · exact .inl (upon_weaken h hk hq)
      · exact .inr ⟨h1, a1, w1, hq _ _ _ h2⟩
    · rename_i hw
      rw [if_neg hw] at h
      exact hk _ _ h

theorem wpAny_weaken {Q Q' : Exit → Act → World → Prop} : ∀ (fuel : Nat) (listed : Array Bool) (a : Act) (w : World), wpAny P .any ops Q fuel listed a w → (∀ e a w, Q e a w → Q' e a w) → wpAny P .any ops Q' fuel listed a w
  | 0, _, _, _, h, hq => ⟨h.1, hq _ _ _ h.2⟩
  | fuel + 1, listed, a, w, h, hq => ⟨fun h0 => hq _ _ _ (h.1 h0), fun i hi => wpOp_weaken (h.2 i hi) (fun a w h => wpAny_weaken fuel _ a w h hq) hq⟩

theorem writes_mem {o : Oper} {d : Nat} (hd : o.dst = some d) : ∀ (os : List Oper), o ∈ os → d ∈ writes os
  | [], h => by cases h
  | o' :: os, h => by
    rcases List.mem_cons.1 h with h | h
    · subst h
      unfold writes
      rw [hd]
      exact List.mem_cons_self
    · have := writes_mem hd os h
      unfold writes
      split
      · exact List.mem_cons_of_mem _ this
      · exact this

theorem wpAny_keep {Q : Exit → Act → World → Prop} {a0 : Act} : ∀ (fuel : Nat) (listed : Array Bool) (a : Act) (w : World), (∀ t, t ∉ writes ops.toList → a.tmps[t]? = a0.tmps[t]?) → wpAny P .any ops Q fuel listed a w →
    wpAny P .any ops (fun e a' w' => Q e a' w' ∧ (e = .normal → ∀ t, t ∉ writes ops.toList → a'.tmps[t]? = a0.tmps[t]?)) fuel listed a w
  | 0, _, a, w, ha, h => ⟨h.1, h.2, fun _ => ha⟩
  | fuel + 1, listed, a, w, ha, h => by
    refine ⟨fun h0 => ⟨h.1 h0, fun _ => ha⟩, fun i hi => ?_⟩
    have h2 := h.2 i hi
    unfold wpOp at *
    split
    · rename_i ho; rw [ho] at h2; exact wpAny_keep fuel _ a w ha h2
    · rename_i o ho
      rw [ho] at h2
      simp only at h2
      have hne : ∀ t, t ∉ writes ops.toList → o.dst ≠ some t := fun t ht e => ht (writes_mem e ops.toList (by simpa using Array.mem_of_getElem? ho))
      have hout : LetsOut Q → LetsOut (fun e a' w' => Q e a' w' ∧ (e = .normal → ∀ t, t ∉ writes ops.toList → a'.tmps[t]? = a0.tmps[t]?)) := fun ⟨a1, w1, h1⟩ => ⟨a1, w1, h1, fun e => by cases e⟩
      split
      · rename_i hw
        rw [if_pos hw] at h2
        rcases h2 with h2 | ⟨h3, h4⟩
        · exact .inl (wp_keep h2 (fun a' w' ha' h' => wpAny_keep fuel _ a' w' (fun t ht => by rw [ha' t (hne t ht), ha t ht]) h') (fun ch a' w' h' => ⟨h', fun e => by cases e⟩) hout)
        · exact .inr ⟨h3, hout h4⟩
      · rename_i hw
        rw [if_neg hw] at h2
        exact wpAny_keep fuel _ _ w (fun t ht => by rw [Act.put_tmps_other a o.dst undef (hne t ht), ha t ht]) h2

/-! ### what waits for what -/
def dataEdge (e : Edge) : Bool := match e.ground with
  | .data => true
  | .guard => true
  | .chain => true
  | _ => false

def reachB (ops : Array Oper) (i : Nat) : Nat → Nat → Bool
  | 0, _ => false
  | f + 1, j => match ops[j]? with
    | none => false
    | some o => o.after.toList.any (fun e => Region.binds .any e && Nat.beq e.on i) || o.after.toList.any (fun e => Region.binds .any e && dataEdge e && reachB ops i f e.on)

def Closed (ops : Array Oper) (listed : Array Bool) : Prop :=
  ∀ j o, ops[j]? = some o → listed.getD j false = true → ∀ e ∈ o.after, Region.binds .any e = true → listed.getD e.on false = true

theorem reachB_listed {i : Nat} {listed : Array Bool} (hc : Closed ops listed) : ∀ (f j : Nat) (o : Oper), ops[j]? = some o → (∀ e ∈ o.after, Region.binds .any e = true → listed.getD e.on false = true) → reachB ops i f j = true → listed.getD i false = true
  | 0, _, _, _, _, h => by cases h
  | f + 1, j, o, ho, hall, h => by
    unfold reachB at h
    rw [ho] at h
    simp only [Bool.or_eq_true, List.any_eq_true, Bool.and_eq_true] at h
    rcases h with ⟨e, he, hb, h⟩ | ⟨e, he, ⟨hb, _⟩, h⟩
    · rw [← Nat.eq_of_beq_eq_true h]
      exact hall e (by simpa using he) hb
    · have hl := hall e (by simpa using he) hb
      cases hoe : ops[e.on]? with
      | none => unfold reachB at h; cases f <;> simp [reachB, hoe] at h
      | some o' => exact reachB_listed hc f e.on o' hoe (hc e.on o' hoe hl) h

theorem closed_set {listed : Array Bool} (hc : Closed ops listed) {j : Nat} (hj : j ∈ Region.ready .any ops listed) : Closed ops (listed.setIfInBounds j true) := by
  intro k o ho hk e he hb
  obtain ⟨_, oj, hoj, hall⟩ := mem_ready.1 hj
  by_cases e1 : j = k
  · subst e1
    rw [hoj] at ho; cases ho
    exact getD_set_true (hall e he hb)
  · rw [getD_set_ne false e1] at hk
    exact getD_set_true (hc k o ho hk e he hb)

theorem not_listed {i : Nat} {listed : Array Bool} (hi : i ∈ Region.ready .any ops listed) : ¬ listed.getD i false = true := by
  have h0 := (mem_ready.1 hi).1
  intro h1
  rcases Nat.lt_or_ge i listed.size with h' | h'
  · simp [h'] at h0 h1; rw [h0] at h1; cases h1
  · simp [Array.getElem?_eq_none h'] at h1

/-- **What only reads may be taken first.** -/
theorem anyC_take {eff nd : Nat → Bool} {D : World → Prop} {N : Act → World → Prop} {i : Nat} {oi : Oper} {v : Value} (hi : ops[i]? = some oi) (he : eff i = false)
    (hsel : ∀ (j : Nat) (o : Oper) cs b, ops[j]? = some o → o.op ≠ .select cs b)
    (hD0 : (∀ w, D w) ∨ ∀ j, eff j = true → nd j = false → ∃ f, reachB ops i f j = true) :
    ∀ (fuel : Nat) (C : World → Prop) (listed : Array Bool) (a : Act) (w : World), ((∀ w, D w) ∨ ∀ w, C w → D w) → Closed ops listed →
      (∀ j oj, ops[j]? = some oj → j ≠ i → listed.getD j true = false → (∀ e ∈ oj.after, Region.binds .any e = true → e.on ≠ i) → oi.apart ops oj = true) →
      i ∈ Region.ready .any ops listed → D w → YieldsIn P ops D oi v a →
      anyC P ops eff nd (fun e a w => e = .normal ∧ N a w) fuel C (listed.setIfInBounds i true) (a.put oi.dst v) w → anyC P ops eff nd (fun e a w => e = .normal ∧ N a w) (fuel + 1) C listed a w := by
  intro fuel
  induction fuel with
  | zero =>
    intro C listed a w hD hc _ hr hw hy H
    refine ⟨fun h => (by rw [h] at hr; cases hr), fun j hj => ?_⟩
    by_cases hji : j = i
    · subst hji
      rw [he]
      exact hy.qOp hi hw H
    · have := ready_mono hj hji
      rw [H.1] at this
      cases this
  | succ fuel ih =>
    intro C listed a w hD hc hfree hr hw hy H
    refine ⟨fun h => (by rw [h] at hr; cases hr), fun j hj => ?_⟩
    by_cases hji : j = i
    · subst hji
      rw [he]
      exact hy.qOp hi hw H
    · have h1 := H.2 j (ready_mono hj hji)
      obtain ⟨hjun, oj, hoj, hall⟩ := mem_ready.1 hj
      have hnot : ∀ e ∈ oj.after, Region.binds .any e = true → e.on ≠ i := fun e he' hb heq => by
        have h1 := hall e he' hb
        rw [heq] at h1
        exact not_listed hr h1
      have hap := hfree j oj hoj hji hjun hnot
      have hfree' : ∀ k ok, ops[k]? = some ok → k ≠ i → (listed.setIfInBounds j true).getD k true = false →
          (∀ e ∈ ok.after, Region.binds .any e = true → e.on ≠ i) → oi.apart ops ok = true := fun k ok hk hki hun hno => by
        refine hfree k ok hk hki ?_ hno
        by_cases hjk : j = k
        · subst hjk; exact hjun
        · rw [getD_set_ne true hjk] at hun; exact hun
      have next : ∀ (C' : World → Prop) a' w', ((∀ w, D w) ∨ ∀ w, C' w → D w) → D w' → YieldsIn P ops D oi v a' → anyC P ops eff nd (fun e a w => e = .normal ∧ N a w) fuel C' ((listed.setIfInBounds i true).setIfInBounds j true) (a'.put oi.dst v) w' →
          anyC P ops eff nd (fun e a w => e = .normal ∧ N a w) (fuel + 1) C' (listed.setIfInBounds j true) a' w' := by
        intro C' a' w' hD' hw' hy' H'
        refine ih C' (listed.setIfInBounds j true) a' w' hD' (closed_set hc hj) hfree' (ready_mono hr (Ne.symm hji)) hw' hy' ?_
        rw [Array.setIfInBounds_comm _ _ hji]
        exact H'
      cases hej : eff j with
      | false =>
        rw [hej] at h1
        simp only [Bool.false_eq_true, if_false] at h1 ⊢
        exact qOp_mono (qOp_put hoj hap (fun cs b => hsel i oi cs b hi) (fun cs b => hsel j oj cs b hoj) hy h1) fun a' w' ⟨e1, h2, h3⟩ => next C a' w' hD (by rw [e1]; exact hw) h2 h3
      | true =>
        rw [hej] at h1
        simp only [if_true] at h1 ⊢
        refine eOp_mono (eOp_put hoj hap (fun cs b => hsel i oi cs b hi) (fun cs b => hsel j oj cs b hoj) hy h1) fun a' w' ⟨h2, C', hsub, h3, h4⟩ => ⟨C', hsub, h3, next C' a' w' ?_ ?_ h2 h4⟩
        · rcases hD with hD | hD
          · exact .inl hD
          · exact .inr fun w h => hD w (hsub w h)
        · rcases hD with hD | hD
          · exact hD w'
          · rcases hD0 with hD0 | hreach
            · exact hD0 w'
            · cases hnd : nd j with
              | true => exact hD w' (hsub w' (h3 hnd))
              | false =>
                obtain ⟨f, hf⟩ := hreach j hej hnd
                exact absurd (reachB_listed hc f j oj hoj hall hf) (not_listed hr)

/-- The only one that may come up. -/
theorem anyC_one {eff nd : Nat → Bool} {C : World → Prop} {Q : Exit → Act → World → Prop} {i : Nat} {fuel : Nat} {listed : Array Bool} {a : Act} {w : World} (hr : Region.ready .any ops listed = [i]) (he : eff i = true)
    (h : eOp P ops Q i (fun a' w' => ∃ C' : World → Prop, (∀ w, C' w → C w) ∧ (nd i = true → C' w') ∧ anyC P ops eff nd Q fuel C' (listed.setIfInBounds i true) a' w') a w) : anyC P ops eff nd Q (fuel + 1) C listed a w := by
  refine ⟨fun h0 => (by rw [hr] at h0; cases h0), fun j hj => ?_⟩
  rw [hr] at hj
  have hji : j = i := by simpa using hj
  subst hji
  rw [he]
  exact h

/-! ### The walk in an order in which readers come first -/
variable {L : Lay} {n : Nat}

/-- an operation that reads memory: it reads the same in every world of the class -/
def vcRd (L : Lay) (P : Program) (o : Op) (E : Env) (C : World → Prop) (K : Value → Prop) : Prop :=
  match o with
  | .load t x => match ev E x with
    | some (.pointer (some ⟨b, off, none⟩)) => match L.single t with
      | true => ∃ v, (∀ w, C w → w.cell? ⟨b, off, none⟩ = some v) ∧ K v
      | false => match L.agg t with
        | some m => ∃ cs : List Value, cs.length = m ∧ (∀ w, C w → CellsAt w b off cs) ∧ K (.agg cs.toArray)
        | none => False
    | _ => False
  | .convert src dst x => match L.isBytes src, L.isStr dst with
    | true, true => match ev E x with
      | some (.slice p m c) => ∃ s, (∀ w, C w → (Conv.bytesToString (.slice p m c)).run P w = .ok (.string s) w) ∧ K (.string s)
      | _ => False
    | _, _ => False
  | _ => False

theorem vcRd_sound (hL : L.Ok P) {E : Env} {a : Act} (hr : Rep n E a) {o : Oper} {C : World → Prop} {K : Value → Prop} (h : vcRd L P o.op E C K) : ∃ v, (∀ w, C w → (execOp a.eval o).run P w = .ok (.value v) w) ∧ K v := by
  generalize ho : o.op = op at h
  cases op <;> simp only [vcRd] at h
  case load t x =>
    split at h
    · rename_i b off hx
      split at h
      · rename_i hs
        obtain ⟨v, hc, hk⟩ := h
        obtain ⟨d, hu, hd, _⟩ := hL.single _ hs
        refine ⟨v, fun w hw => ?_, hk⟩
        have hc := hc w hw
        unfold execOp
        simp [ho, ev_sound hr hx, Instr.loadAt, Instr.sureAddr, loadVar, run_isAgg hu, hd, hc]
      · split at h
        · rename_i m hm
          obtain ⟨cs, hl, hc, hk⟩ := h
          obtain ⟨d, hu, hd, i, hi, hsz⟩ := hL.agg _ _ hm
          refine ⟨.agg cs.toArray, fun w hw => ?_, hk⟩
          have hrun := run_loadCells_list (P := P) w ⟨b, off, none⟩ cs (fun j v hj => by rw [addr_add]; exact hc w hw j v hj)
          rw [hl] at hrun
          unfold execOp
          simp [ho, ev_sound hr hx, Instr.loadAt, Instr.sureAddr, loadVar, run_isAgg hu, hd, run_size hi, hsz, hrun]
        · exact h.elim
    · exact h.elim
  case convert src dst x =>
    split at h
    · rename_i hb hs
      split at h
      · rename_i p m c hx
        obtain ⟨s, hrun, hk⟩ := h
        obtain ⟨e, hu, hue⟩ := hL.isBytes _ hb
        refine ⟨.string s, fun w hw => ?_, hk⟩
        have hrun := hrun w hw
        unfold execOp
        simp [ho, ev_sound hr hx, convert, run_underlying hu, run_underlying (hL.isStr _ hs), run_underlying hue, hrun]
      · exact h.elim
    · exact h.elim
  all_goals exact h.elim

def vcE1 (L : Lay) (P : Program) (n : Nat) (C : World → Prop) (nd : List Nat) (o : Oper) (i : Nat) (E : Env) (w : World) (K : (World → Prop) → Env → World → Prop) : Prop :=
  match opClass L o.op with
  | 0 => vcOp L P o.op o.type E w fun v _ => vcPut n o.dst v E fun E' => K C E' w
  | 1 => vcRd L P o.op E C fun v => vcPut n o.dst v E fun E' => K C E' w
  | _ => vcOp L P o.op o.type E w fun v w' => match memNat nd i with
    | true => ∃ C' : World → Prop, (∀ w, C' w → C w) ∧ C' w' ∧ vcPut n o.dst v E fun E' => K C' E' w'
    | false => vcPut n o.dst v E fun E' => K C E' w'

def vcE (L : Lay) (P : Program) (n : Nat) (C : World → Prop) (nd : List Nat) (all : Array Oper) : List Nat → Env → World → (Env → World → Prop) → Prop
  | [], E, w, K => K E w
  | i :: ord, E, w, K => match all.toList[i]? with
    | none => False
    | some o => match o.guard with
      | none => vcE1 L P n C nd o i E w fun C' E' w' => vcE L P n C' nd all ord E' w' K
      | some (j, want) => match (all.toList[j]?).bind (·.dst) with
        | some d => match look E d with
          | some (.bool β) => bsel β
              (match want with
                | true => vcE1 L P n C nd o i ((d, .bool true) :: E) w fun C' E' w' => vcE L P n C' nd all ord E' w' K
                | false => vcPut n o.dst undef ((d, .bool true) :: E) fun E' => vcE L P n C nd all ord E' w K)
              (match want with
                | true => vcPut n o.dst undef ((d, .bool false) :: E) fun E' => vcE L P n C nd all ord E' w K
                | false => vcE1 L P n C nd o i ((d, .bool false) :: E) w fun C' E' w' => vcE L P n C' nd all ord E' w' K)
          | some (.tuple _) => vcPut n o.dst undef E fun E' => vcE L P n C nd all ord E' w K
          | _ => False
        | none => False

def classAt (L : Lay) (ops : Array Oper) (i : Nat) : Nat := match ops.toList[i]? with
  | some o => opClass L o.op
  | none => 0

/-- 'c': is it known that the world is of the class? -/
def eagerOk (L : Lay) (ops : Array Oper) (nd : List Nat) : Bool → List Nat → Array Bool → Bool
  | _, [], listed => (Region.ready .any ops listed).isEmpty
  | c, i :: ord, listed =>
    if Nat.ble 2 (classAt L ops i) = true then (Region.ready .any ops listed == [i]) && (!memNat nd i || c) && eagerOk L ops nd (memNat nd i) ord (listed.setIfInBounds i true)
    else (Region.ready .any ops listed).contains i && Region.free .any ops listed i && (!Nat.beq (classAt L ops i) 1 || c) && eagerOk L ops nd c ord (listed.setIfInBounds i true)

def ndOk (L : Lay) (ops : Array Oper) (nd : List Nat) : Bool :=
  (List.range ops.size).all fun j => !Nat.ble 2 (classAt L ops j) || memNat nd j || (List.range ops.size).all fun i => !Nat.beq (classAt L ops i) 1 || reachB ops i 12 j

def drawOk (L : Lay) (ops : Array Oper) (nd ord : List Nat) : Bool :=
  Region.noSelect ops && ndOk L ops nd && Nat.beq ord.length ops.size && eagerOk L ops nd true ord (Array.replicate ops.size false)

theorem anyC_of_vcE (hL : L.Ok P) {ops : Array Oper} {nd : List Nat} {N : Act → World → Prop} (hs : Region.noSelect ops = true) (hnd : ndOk L ops nd = true) :
    ∀ (ord : List Nat) (C : World → Prop) (c : Bool) (listed : Array Bool) (E : Env) (a : Act) (w : World) (K : Env → World → Prop), eagerOk L ops nd c ord listed = true → Closed ops listed → Rep n E a → (c = true → C w) →
      vcE L P n C nd ops ord E w K → (∀ E' a' w', Rep n E' a' → K E' w' → N a' w') →
      anyC P ops (fun i => Nat.ble 2 (classAt L ops i)) (fun i => memNat nd i) (fun e a w => e = .normal ∧ N a w) ord.length C listed a w
  | [], C, c, listed, E, a, w, K, hok, hc, hr, hI, h, hK => ⟨by simpa [eagerOk] using hok, rfl, hK E a w hr h⟩
  | i :: ord, C, c, listed, E, a, w, K, hok, hc, hr, hI, h, hK => by
    unfold eagerOk at hok
    unfold vcE at h
    split at h
    · exact h.elim
    rename_i o ho
    have hoi : ops[i]? = some o := by simpa using ho
    have hcl : classAt L ops i = opClass L o.op := by unfold classAt; rw [ho]
    -- not wanted
    have skip : ∀ (E : Env), Rep n E a → Region.wanted o (yielded ops a.tmps) = false → (vcPut n o.dst undef E fun E' => vcE L P n C nd ops ord E' w K) →
        anyC P ops (fun i => Nat.ble 2 (classAt L ops i)) (fun i => memNat nd i) (fun e a w => e = .normal ∧ N a w) (ord.length + 1) C listed a w := by
      intro E hr hw h
      obtain ⟨E', hr', h'⟩ := vcPut_sound hr h
      by_cases he : Nat.ble 2 (classAt L ops i) = true
      · rw [if_pos he] at hok
        simp only [Bool.and_eq_true, beq_iff_eq] at hok
        have hready : i ∈ Region.ready .any ops listed := by rw [hok.1.1]; simp
        have hCw : memNat nd i = true → C w := fun hm => hI (by simpa [hm] using hok.1.2)
        refine anyC_one hok.1.1 he ?_
        unfold eOp
        rw [hoi]
        simp only [hw, Bool.false_eq_true, if_false]
        exact ⟨C, fun _ h => h, hCw, anyC_of_vcE hL hs hnd ord C _ _ E' _ w K hok.2 (closed_set hc hready) hr' hCw h' hK⟩
      · rw [if_neg he] at hok
        simp only [Bool.and_eq_true] at hok
        have hready : i ∈ Region.ready .any ops listed := by simpa using hok.1.1.1
        refine anyC_take (D := fun _ => True) hoi (by cases hh : Nat.ble 2 (classAt L ops i) with | false => rfl | true => exact absurd hh he) (Region.noSelect_spec hs) (.inl fun _ => trivial) ord.length C listed a w (.inl fun _ => trivial) hc (Region.free_spec hoi hok.1.1.2) hready trivial (.inr ⟨hw, rfl⟩) ?_
        exact anyC_of_vcE hL hs hnd ord C _ _ E' _ w K hok.2 (closed_set hc hready) hr' hI h' hK
    have run : ∀ (E : Env), Rep n E a → Region.wanted o (yielded ops a.tmps) = true → (vcE1 L P n C nd o i E w fun C' E' w' => vcE L P n C' nd ops ord E' w' K) →
        anyC P ops (fun i => Nat.ble 2 (classAt L ops i)) (fun i => memNat nd i) (fun e a w => e = .normal ∧ N a w) (ord.length + 1) C listed a w := by
      intro E hr hw h
      unfold vcE1 at h
      split at h
      · rename_i h0
        obtain ⟨v, hrun, hk⟩ := vcOp_pure hL hr h0 h
        obtain ⟨E', hr', h'⟩ := vcPut_sound hr hk
        have he : Nat.ble 2 (classAt L ops i) = false := by rw [hcl, h0]; rfl
        rw [if_neg (by rw [he]; simp)] at hok
        simp only [Bool.and_eq_true] at hok
        have hready : i ∈ Region.ready .any ops listed := by simpa using hok.1.1.1
        refine anyC_take (D := fun _ => True) hoi he (Region.noSelect_spec hs) (.inl fun _ => trivial) ord.length C listed a w (.inl fun _ => trivial) hc (Region.free_spec hoi hok.1.1.2) hready trivial (.inl ⟨hw, fun w' _ => hrun w'⟩) ?_
        exact anyC_of_vcE hL hs hnd ord C _ _ E' _ w K hok.2 (closed_set hc hready) hr' hI h' hK
      · rename_i h1
        obtain ⟨v, hrun, hk⟩ := vcRd_sound hL hr h
        obtain ⟨E', hr', h'⟩ := vcPut_sound hr hk
        have he : Nat.ble 2 (classAt L ops i) = false := by rw [hcl, h1]; rfl
        rw [if_neg (by rw [he]; simp)] at hok
        simp only [Bool.and_eq_true] at hok
        have hready : i ∈ Region.ready .any ops listed := by simpa using hok.1.1.1
        have hCw : C w := hI (by have h2 := hok.1.2; rw [hcl, h1] at h2; simpa using h2)
        refine anyC_take (D := C) hoi he (Region.noSelect_spec hs) (.inr fun j hj hm => ?_) ord.length C listed a w (.inr fun _ h => h) hc (Region.free_spec hoi hok.1.1.2) hready hCw (.inl ⟨hw, hrun⟩) ?_
        · refine ⟨12, ?_⟩
          have hlt : ∀ k, classAt L ops k ≠ 0 → k < ops.size := by
            intro k hk
            rcases Nat.lt_or_ge k ops.size with h' | h'
            · exact h'
            · exact absurd (by unfold classAt; rw [List.getElem?_eq_none (by simpa using h')]) hk
          have hj2 := hlt j (by intro e; rw [e] at hj; cases hj)
          have hi2 := hlt i (by rw [hcl, h1]; simp)
          have h2 := List.all_eq_true.1 hnd j (List.mem_range.2 hj2)
          simp only [hj, hm, Bool.not_true, Bool.false_or] at h2
          have h3 := List.all_eq_true.1 h2 i (List.mem_range.2 hi2)
          simpa [hcl, h1] using h3
        · exact anyC_of_vcE hL hs hnd ord C _ _ E' _ w K hok.2 (closed_set hc hready) hr' hI h' hK
      · rename_i h0 h1
        have he : Nat.ble 2 (classAt L ops i) = true := by
          rw [hcl]
          apply Nat.ble_eq_true_of_le
          match hk : opClass L o.op with
          | 0 => exact absurd hk h0
          | 1 => exact absurd hk h1
          | k + 2 => omega
        rw [if_pos he] at hok
        simp only [Bool.and_eq_true, beq_iff_eq] at hok
        have hready : i ∈ Region.ready .any ops listed := by rw [hok.1.1]; simp
        refine anyC_one hok.1.1 he ?_
        unfold eOp
        rw [hoi]
        simp only [hw, if_true]
        refine vcOp_sound hL hr h fun v w' hv => ?_
        split at hv
        · rename_i hm
          obtain ⟨C', hsub, hCw, hv⟩ := hv
          obtain ⟨E', hr', h'⟩ := vcPut_sound hr hv
          exact ⟨C', hsub, fun _ => hCw, anyC_of_vcE hL hs hnd ord C' _ _ E' _ w' K hok.2 (closed_set hc hready) hr' (fun _ => hCw) h' hK⟩
        · rename_i hm
          obtain ⟨E', hr', h'⟩ := vcPut_sound hr hv
          exact ⟨C, fun _ h => h, (fun e => by rw [hm] at e; cases e), anyC_of_vcE hL hs hnd ord C _ _ E' _ w' K hok.2 (closed_set hc hready) hr' (fun e => by rw [hm] at e; cases e) h' hK⟩
    split at h
    · rename_i hg
      exact run E hr (by simp [Region.wanted, hg]) h
    · rename_i j want hg
      split at h
      · rename_i d hd
        split at h
        · rename_i β hv
          have hy := yielded_of hr hd hv
          have hw : Region.wanted o (yielded ops a.tmps) = (β == want) := by
            simp only [Region.wanted, hg, hy]
            cases β <;> cases want <;> rfl
          have h2 := bsel_elim h
          clear h
          rcases h2 with ⟨hβ, h⟩ | ⟨hβ, h⟩ <;> subst hβ
          · cases want
            · exact skip _ (hr.again hv) (by rw [hw]; rfl) h
            · exact run _ (hr.again hv) (by rw [hw]; rfl) h
          · cases want
            · exact run _ (hr.again hv) (by rw [hw]; rfl) h
            · exact skip _ (hr.again hv) (by rw [hw]; rfl) h
        · rename_i vs hv
          have hy := yielded_of hr hd hv
          exact skip _ hr (by simp only [Region.wanted, hg, hy]; rfl) h
        · exact h.elim
      · exact h.elim


theorem drawOk_spec {ops : Array Oper} {nd ord : List Nat} (h : drawOk L ops nd ord = true) : Region.noSelect ops = true ∧ ndOk L ops nd = true ∧ ord.length = ops.size ∧ eagerOk L ops nd true ord (Array.replicate ops.size false) = true := by
  simp only [drawOk, Bool.and_eq_true] at h
  exact ⟨h.1.1.1, h.1.1.2, Nat.eq_of_beq_eq_true h.1.2, h.2⟩

theorem closed_none (ops : Array Oper) : Closed ops (Array.replicate ops.size false) := by
  intro j o hj h
  have hlt : j < ops.size := (Array.getElem?_eq_some_iff.1 hj).1
  simp [hlt] at h

theorem wpAny_draw (hL : L.Ok P) {ops : Array Oper} {C : World → Prop} {nd ord : List Nat} (hok : drawOk L ops nd ord = true) {E : Env} {a : Act} {w : World} (hr : Rep n E a) (hC : C w) {K : Env → World → Prop} {N : Act → World → Prop}
    (h : vcE L P n C nd ops ord E w K) (hK : ∀ E' a' w', Rep n E' a' → K E' w' → N a' w') : wpAny P .any ops (fun e a w => e = .normal ∧ N a w) ops.size (Array.replicate ops.size false) a w := by
  obtain ⟨h1, h2, h3, h4⟩ := drawOk_spec hok
  have := anyC_sound _ _ _ _ _ (anyC_of_vcE hL h1 h2 ord C true _ E a w K h4 (closed_none ops) hr (fun _ => hC) h hK)
  rwa [h3] at this

/-- **A region that draws its order, walked in one order.** -/
theorem vcDraw_go (hL : L.Ok P) (hm : P.follows .mixedOrders = true) (C : World → Prop) (nd ord : List Nat) {id : Nat} {ops : Array Oper} {E : Env} {w : World} {Q : Exit → Env → World → Prop} (hok : drawOk L ops nd ord = true)
    (h : ∀ w1, w1 = w.drew → C w1 ∧ vcE L P n C nd ops ord E w1 fun E' w' => Q .normal E' w') : vcDraw P n id ops E w Q := by
  unfold vcDraw
  intro a hr
  obtain ⟨hC, h⟩ := h _ rfl
  refine wp_region_any hm ?_
  have := wpAny_draw hL hok hr hC h fun E' a' w' hr' hq => (⟨E', hr', hq⟩ : lift n Q .normal a' w')
  exact wpAny_weaken _ _ _ _ this fun e a w ⟨he, h⟩ => by subst he; exact h

/-- The same; the ways through it meet again behind it. -/
theorem vcDraw_meet (hL : L.Ok P) (hm : P.follows .mixedOrders = true) (C : World → Prop) (nd ord : List Nat) {σ : Type} (new : σ → Env) (I : σ → World → Prop) (ns : List Nat)
    {id : Nat} {ops : Array Oper} {E : Env} {w : World} {Q : Exit → Env → World → Prop} (hns : ∀ s, (new s).map (·.1) = ns) (hst : staleOk E ns (writes ops.toList) = true) (hok : drawOk L ops nd ord = true)
    (h1 : ∀ w1, w1 = w.drew → C w1 ∧ vcE L P n C nd ops ord E w1 fun E' w' => ∃ s, subE (new s) E' ∧ I s w') (h2 : ∀ s w', I s w' → Q .normal (new s ++ E) w') : vcDraw P n id ops E w Q := by
  unfold vcDraw
  intro a hr
  obtain ⟨hC, h⟩ := h1 _ rfl
  refine wp_region_any hm ?_
  have h3 := wpAny_draw (N := fun a' w' => ∃ E', Rep n E' a' ∧ ∃ s, subE (new s) E' ∧ I s w') hL hok hr hC h fun E' a' w' hr' hq => ⟨E', hr', hq⟩
  refine wpAny_weaken _ _ _ _ (wpAny_keep (a0 := a) _ _ _ _ (fun _ _ => rfl) h3) ?_
  rintro e a' w' ⟨⟨rfl, E', hr', s, hsub, hI⟩, hk⟩
  refine ⟨new s ++ E, ⟨hr'.size, hr'.defers, fun t v hv => ?_⟩, h2 s w' hI⟩
  rw [look_append] at hv
  split at hv
  · rename_i u hu
    exact hr'.vals t v (subE_sound hsub t v (by rw [hu]; exact hv))
  · rename_i hu
    have ht : t ∉ writes ops.toList := by
      intro ht
      rcases staleOk_spec hst t ht with h | h
      · rw [← hns s] at h
        obtain ⟨u, h⟩ := memNat_look h
        rw [hu] at h; cases h
      · rw [hv] at h; cases h
    rw [hk rfl t ht]
    exact hr.vals t v hv

end
end Go.Vc

/- The element types of this seat's program, and small arithmetic for its walks. -/
namespace Go.Proofs.Ytgipackjnncabaa
open Go.Vc

theorem elem_of {P : Program} {α : Type} {f : α → Value} {d : α} {t e b : Nat} (h1 : P.underlying t = some (.slice e)) (h2 : (P.info? e).map (fun i => (i.zero, i.size, i.bytes)) = some (some (f d), 1, b)) (hb : b ≤ 24) (hv : ∀ x, (f x).oneCell' = true) : ElemZ P t e f d := by
  cases hi : P.info? e with
  | none => rw [hi] at h2; cases h2
  | some i =>
    rw [hi] at h2
    simp only [Option.map_some, Option.some.injEq, Prod.mk.injEq] at h2
    exact { und := h1, info := ⟨i, f d, hi, h2.1, h2.2.1, by omega, by rw [oneCell_cells (hv d)]; rfl⟩, zero := ⟨i, hi, h2.1⟩, one := hv }

theorem e8 : ElemZ Try.prog 22 5 u8v 0 := elem_of (b := 1) (by kernel_rfl) (by kernel_rfl) (by omega) (fun _ => rfl)
theorem e32 : ElemZ Try.prog 37 42 u32v 0 := elem_of (b := 4) (by kernel_rfl) (by kernel_rfl) (by omega) (fun _ => rfl)
/-- a slice as an element: its address, its length, its capacity -/
def slv (x : Option Addr × Nat × Nat) : Value := .slice x.1 x.2.1 x.2.2
theorem esl : ElemZ Try.prog 50 22 slv (none, 0, 0) := elem_of (b := 24) (by kernel_rfl) (by kernel_rfl) (by omega) (fun _ => rfl)

theorem mixed : Try.prog.follows .mixedOrders = true := by kernel_rfl

/-! ### wraps -/
theorem wu {k : IntKind} (hk : k.signed = false) (z : Int) : k.wrap z = z % 2 ^ k.bits := by
  unfold IntKind.wrap; simp [hk]
theorem wu8 (z : Int) : IntKind.u8.wrap z = z % 256 := wu rfl z
theorem wu16 (z : Int) : IntKind.u16.wrap z = z % 65536 := wu rfl z
theorem wu32 (z : Int) : IntKind.u32.wrap z = z % 4294967296 := wu rfl z
theorem wu64 (z : Int) : IntKind.u64.wrap z = z % 18446744073709551616 := wu rfl z
theorem wi64 {z : Int} (h : -9223372036854775808 ≤ z ∧ z ≤ 9223372036854775807) : IntKind.i64.wrap z = z := wrap_i64 h
theorem wi32 (z : Int) : IntKind.i32.wrap z = (z + 2147483648) % 4294967296 - 2147483648 := by
  unfold IntKind.wrap IntKind.bits IntKind.signed
  simp only [Bool.true_and, decide_eq_true_eq]
  have e1 : (2 : Int) ^ 32 = 4294967296 := by decide
  have e2 : (2 : Int) ^ (32 - 1) = 2147483648 := by decide
  rw [e1, e2]
  split <;> omega

/-! ### tests -/
theorem nz_true {x : Nat} (h : (!decide ((x : Int) = 0)) = true) : x ≠ 0 := by simpa using h
theorem nz_false {x : Nat} (h : (!decide ((x : Int) = 0)) = false) : x = 0 := by simpa using h
theorem ne_true {a b : Int} (h : (!decide (a = b)) = true) : a ≠ b := by simpa using h
theorem ne_false {a b : Int} (h : (!decide (a = b)) = false) : a = b := by simpa using h
theorem dt {p : Prop} [Decidable p] (h : decide p = true) : p := of_decide_eq_true h
theorem df {p : Prop} [Decidable p] (h : decide p = false) : ¬ p := of_decide_eq_false h

end Go.Proofs.Ytgipackjnncabaa

/- Plain facts on bytes as numbers: no program in sight. -/
namespace Go.Proofs.Ytgipackjnncabaa

/-- bytes as a number, the lowest first -/
def decN : List (BitVec 8) → Nat
  | [] => 0
  | b :: l => b.toNat + 256 * decN l

theorem decN_lt : ∀ l : List (BitVec 8), decN l < 256 ^ l.length
  | [] => by simp [decN]
  | b :: l => by
    have := decN_lt l
    have hb := b.isLt
    simp only [decN, List.length_cons, Nat.pow_succ]
    omega

theorem decN_append : ∀ (l m : List (BitVec 8)), decN (l ++ m) = decN l + 256 ^ l.length * decN m
  | [], m => by simp [decN]
  | b :: l, m => by
    simp only [List.cons_append, decN, decN_append l m, List.length_cons, Nat.pow_succ]
    rw [Nat.mul_comm (256 ^ l.length) 256, Nat.mul_assoc]
    omega

theorem decN_single (b : BitVec 8) : decN [b] = b.toNat := by simp [decN]

theorem take_succ_getD (l : List (BitVec 8)) (k : Nat) (h : k < l.length) : l.take (k + 1) = l.take k ++ [l.getD k default] := by
  rw [List.take_succ_eq_append_getElem h]
  simp [List.getD, List.getElem?_eq_getElem h]

theorem drop_getD (l : List (BitVec 8)) (k j : Nat) : (l.drop k).getD j default = l.getD (k + j) default := by
  simp [List.getD, List.getElem?_drop]

theorem drop_cons_getD (l : List (BitVec 8)) (k : Nat) (h : k < l.length) : l.drop k = l.getD k default :: l.drop (k + 1) := by
  rw [List.drop_eq_getElem_cons h]
  simp [List.getD, List.getElem?_eq_getElem h]

/-- one byte more is laid above -/
theorem or_up (n b j : Nat) (hn : n < 256 ^ j) (hb : b < 256) (hj : j < 8) :
    Go.IntKind.u64.wrap ((BitVec.ofInt Go.IntKind.u64.bits (n : Int) ||| BitVec.ofInt Go.IntKind.u64.bits (Go.IntKind.u64.wrap ((b : Int) * 2 ^ min (8 * (j : Int)).toNat Go.IntKind.u64.bits))).toNat : Int) = ((n + 256 ^ j * b : Nat) : Int) := by
  have e1 : min (8 * (j : Int)).toNat Go.IntKind.u64.bits = 8 * j := by
    show min (8 * (j : Int)).toNat 64 = 8 * j
    omega
  have p8 : (256 : Nat) ^ (j + 1) ≤ 2 ^ 64 := by
    have : (256 : Nat) ^ (j + 1) ≤ 256 ^ 8 := Nat.pow_le_pow_right (by decide) (by omega)
    exact this
  have hsum : n + 256 ^ j * b < 256 ^ (j + 1) := by
    have h1 : 256 ^ j * b ≤ 256 ^ j * 255 := Nat.mul_le_mul_left _ (by omega)
    rw [Nat.pow_succ]
    omega
  have e2 : ((b : Int) * 2 ^ (8 * j)) = ((256 ^ j * b : Nat) : Int) := by
    rw [Int.pow_mul, Int.mul_comm, show (2 : Int) ^ 8 = ((256 : Nat) : Int) from by decide, ← Int.natCast_pow, ← Int.natCast_mul]
  have hm : 256 ^ j * b < 2 ^ 64 := by omega
  have e4 : n ||| 256 ^ j * b = n + 256 ^ j * b := by
    have h := Nat.shiftLeft_add_eq_or_of_lt (i := 8 * j) (b := n) (by rw [Nat.pow_mul]; exact hn) b
    rw [Nat.shiftLeft_eq, Nat.pow_mul, show (2 : Nat) ^ 8 = 256 from rfl, Nat.mul_comm] at h
    rw [Nat.or_comm, ← h, Nat.add_comm]
  rw [e1, e2, wu64, wu64]
  have hs2 : n + 256 ^ j * b < 2 ^ 64 := by omega
  clear e1 e2 hsum p8 hn
  generalize 256 ^ j * b = m at *
  have e3 : ((m : Nat) : Int) % 18446744073709551616 = (m : Int) := by omega
  rw [e3]
  show (((BitVec.ofInt 64 (n : Int) ||| BitVec.ofInt 64 (m : Int)).toNat : Nat) : Int) % 18446744073709551616 = _
  rw [BitVec.ofInt_natCast, BitVec.ofInt_natCast, BitVec.toNat_or, BitVec.toNat_ofNat, BitVec.toNat_ofNat, Nat.mod_eq_of_lt (by omega), Nat.mod_eq_of_lt hm, e4]
  omega

/-- what octet.Get answers -/
def getF (bs : List (BitVec 8)) (at_ width : Int) : Nat × Int :=
  if width < 1 ∨ 8 < width ∨ at_ < 0 ∨ (bs.length : Int) < at_ then (0, 1)
  else if (bs.length : Int) - at_ < width then (0, 2) else (decN ((bs.drop at_.toNat).take width.toNat), 0)

/-- what octet.PutRun answers -/
def putRunF (bs xs : List (BitVec 8)) : List (BitVec 8) × Int :=
  if 65535 < xs.length then ([], 3) else (bs ++ [BitVec.ofNat 8 xs.length, BitVec.ofNat 8 (xs.length / 256)] ++ xs, 0)

/-- what octet.GetRun answers: the bytes, the offset behind them, an error's number -/
def getRunF (bs : List (BitVec 8)) (at_ : Int) : List (BitVec 8) × Int × Int :=
  if at_ < 0 ∨ (bs.length : Int) < at_ then ([], 0, 1)
  else if (bs.length : Int) - at_ < 2 then ([], 0, 2)
  else if (bs.length : Int) - at_ - 2 < decN ((bs.drop at_.toNat).take 2) then ([], 0, 2)
  else ((bs.drop (at_.toNat + 2)).take (decN ((bs.drop at_.toNat).take 2)), at_ + 2 + decN ((bs.drop at_.toNat).take 2), 0)

end Go.Proofs.Ytgipackjnncabaa

/- Plain laws of layer 3: sums of 32 bits over lists of bits. No program in sight. -/
set_option linter.unusedSimpArgs false
set_option linter.unusedVariables false
namespace Go.Proofs.Ytgipackjnncabaa

def poly : BitVec 32 := 3988292384#32
/-- one bit taken in -/
def stepB (r : BitVec 32) (x : Bool) : BitVec 32 := (r >>> 1) ^^^ (if (r.getLsbD 0 ^^ x) = true then poly else 0#32)
def crcB (r : BitVec 32) (l : List Bool) : BitVec 32 := l.foldl stepB r
/-- a byte's bits, the lowest first -/
def bits8 (c : BitVec 8) : List Bool := (List.range 8).map fun k => c.getLsbD k
def bitsF (bs : List (BitVec 8)) : List Bool := bs.flatMap bits8
/-- a sum that goes on -/
def onF (s : BitVec 32) (bs : List (BitVec 8)) : BitVec 32 := ~~~(crcB (~~~s) (bitsF bs))
def sumF (bs : List (BitVec 8)) : BitVec 32 := onF 0#32 bs

theorem crcB_nil (r : BitVec 32) : crcB r [] = r := rfl
theorem crcB_cons (r : BitVec 32) (x : Bool) (l : List Bool) : crcB r (x :: l) = crcB (stepB r x) l := rfl
theorem crcB_append (r : BitVec 32) (l m : List Bool) : crcB r (l ++ m) = crcB (crcB r l) m := List.foldl_append ..
theorem crcB_snoc (r : BitVec 32) (l : List Bool) (x : Bool) : crcB r (l ++ [x]) = stepB (crcB r l) x := by rw [crcB_append]; rfl
theorem bitsF_append (a b : List (BitVec 8)) : bitsF (a ++ b) = bitsF a ++ bitsF b := List.flatMap_append ..
theorem bitsF_cons (c : BitVec 8) (b : List (BitVec 8)) : bitsF (c :: b) = bits8 c ++ bitsF b := rfl
theorem bitsF_nil : bitsF [] = [] := rfl
theorem bits8_len (c : BitVec 8) : (bits8 c).length = 8 := by simp [bits8]
theorem bitsF_len (bs : List (BitVec 8)) : (bitsF bs).length = 8 * bs.length := by
  induction bs with
  | nil => rfl
  | cons c l ih => rw [bitsF_cons, List.length_append, bits8_len, ih, List.length_cons]; omega

/-- it goes on from piece to piece -/
theorem onF_append (s : BitVec 32) (a b : List (BitVec 8)) : onF s (a ++ b) = onF (onF s a) b := by
  unfold onF
  rw [bitsF_append, crcB_append, BitVec.not_not]

theorem pick_xor (p q : Bool) : (if (p ^^ q) = true then poly else 0#32) = (if p = true then poly else 0#32) ^^^ (if q = true then poly else 0#32) := by
  cases p <;> cases q <;> simp
theorem stepB_xor (a b : BitVec 32) (x y : Bool) : stepB (a ^^^ b) (x ^^ y) = stepB a x ^^^ stepB b y := by
  unfold stepB
  rw [BitVec.ushiftRight_xor_distrib, BitVec.getLsbD_xor]
  generalize a.getLsbD 0 = p
  generalize b.getLsbD 0 = q
  rw [show ((p ^^ q) ^^ (x ^^ y)) = ((p ^^ x) ^^ (q ^^ y)) by cases p <;> cases q <;> cases x <;> cases y <;> rfl, pick_xor]
  ac_rfl

def xorL : List Bool → List Bool → List Bool := List.zipWith (· ^^ ·)

theorem crcB_xor : ∀ (l m : List Bool) (a b : BitVec 32), l.length = m.length → crcB (a ^^^ b) (xorL l m) = crcB a l ^^^ crcB b m
  | [], [], a, b, _ => rfl
  | x :: l, y :: m, a, b, h => by
    show crcB (a ^^^ b) ((x ^^ y) :: xorL l m) = _
    rw [crcB_cons, crcB_cons, crcB_cons, stepB_xor]
    exact crcB_xor l m _ _ (by simpa using h)
  | [], _ :: _, _, _, h => by simp at h
  | _ :: _, [], _, _, h => by simp at h

theorem xorL_self : ∀ l : List Bool, xorL l l = List.replicate l.length false
  | [] => rfl
  | x :: l => by
    show (x ^^ x) :: xorL l l = _
    rw [xorL_self l, Bool.xor_self]
    rfl
theorem xorL_false : ∀ l : List Bool, xorL l (List.replicate l.length false) = l
  | [] => rfl
  | x :: l => by
    show (x ^^ false) :: xorL l (List.replicate l.length false) = _
    rw [xorL_false l, Bool.xor_false]

theorem poly_msb : poly.getLsbD 31 = true := by decide
theorem stepB_msb (r : BitVec 32) (x : Bool) : (stepB r x).getLsbD 31 = (r.getLsbD 0 ^^ x) := by
  unfold stepB
  rw [BitVec.getLsbD_xor, BitVec.getLsbD_ushiftRight, BitVec.getLsbD_of_ge r _ (by omega)]
  cases h : (r.getLsbD 0 ^^ x) <;> simp [poly_msb]

theorem shr_toNat (r : BitVec 32) : r.toNat = 2 * (r >>> 1).toNat + (r.getLsbD 0).toNat := by
  rw [BitVec.toNat_ushiftRight, Nat.shiftRight_eq_div_pow]
  have : (r.getLsbD 0).toNat = r.toNat % 2 := by
    rw [BitVec.getLsbD, Nat.testBit_zero]
    rcases Nat.mod_two_eq_zero_or_one r.toNat with h | h <;> simp [h]
  omega

/-- bits, the lowest first, as a number -/
def packN : List Bool → Nat
  | [] => 0
  | x :: l => x.toNat + 2 * packN l
theorem packN_lt : ∀ l : List Bool, packN l < 2 ^ l.length
  | [] => by decide
  | x :: l => by
    have := packN_lt l
    have hx : x.toNat ≤ 1 := Bool.toNat_le x
    show x.toNat + 2 * packN l < 2 ^ (l.length + 1)
    rw [Nat.pow_succ]
    omega
theorem packN_zero : ∀ l : List Bool, packN l = 0 → ∀ x ∈ l, x = false
  | [], _, _, h => by cases h
  | x :: l, h, y, hy => by
    have h0 : x.toNat + 2 * packN l = 0 := h
    rcases List.mem_cons.1 hy with rfl | hy
    · cases y with
      | false => rfl
      | true => simp at h0
    · exact packN_zero l (by omega) y hy

/-- from naught back: within 32 bits, what leads to naught is the bits themselves -/
theorem crcB_zero_back : ∀ (l : List Bool) (r : BitVec 32), l.length ≤ 32 → crcB r l = 0#32 → r.toNat = packN l
  | [], r, _, h => by
    have : r = 0#32 := h
    rw [this]; rfl
  | x :: l, r, hl, h => by
    rw [crcB_cons] at h
    have hl2 : l.length + 1 ≤ 32 := hl
    have ih := crcB_zero_back l (stepB r x) (by omega) h
    have hp := packN_lt l
    have hp2 : 2 ^ l.length ≤ 2 ^ 31 := Nat.pow_le_pow_right (by decide) (by omega)
    have hm : (stepB r x).getLsbD 31 = false := by
      rw [BitVec.getLsbD, Nat.testBit_lt_two_pow (by rw [ih]; omega)]
    rw [stepB_msb] at hm
    have hs : stepB r x = r >>> 1 := by
      unfold stepB
      rw [hm]
      simp
    rw [hs] at ih
    have hx : r.getLsbD 0 = x := by
      revert hm
      cases r.getLsbD 0 <;> cases x <;> simp
    rw [shr_toNat r, ih, hx]
    show _ = x.toNat + 2 * packN l
    omega

theorem crcB_pack : ∀ (l : List Bool), l.length ≤ 32 → crcB (BitVec.ofNat 32 (packN l)) l = 0#32
  | [], _ => rfl
  | x :: l, hl => by
    have hl2 : l.length + 1 ≤ 32 := hl
    have hp := packN_lt l
    have hp2 : 2 ^ l.length ≤ 2 ^ 31 := Nat.pow_le_pow_right (by decide) (by omega)
    have hx1 : x.toNat ≤ 1 := Bool.toNat_le x
    rw [crcB_cons]
    have e : packN (x :: l) = x.toNat + 2 * packN l := rfl
    have hb : (BitVec.ofNat 32 (packN (x :: l))).getLsbD 0 = x := by
      rw [BitVec.getLsbD_ofNat, e, Nat.testBit_zero]
      cases x <;> simp <;> omega
    have hs : stepB (BitVec.ofNat 32 (packN (x :: l))) x = BitVec.ofNat 32 (packN l) := by
      unfold stepB
      rw [hb, Bool.xor_self]
      apply BitVec.eq_of_toNat_eq
      simp only [Bool.false_eq_true, if_false, BitVec.xor_zero, BitVec.toNat_ushiftRight, BitVec.toNat_ofNat, Nat.shiftRight_eq_div_pow, e]
      omega
    rw [hs]
    exact crcB_pack l (by omega)

theorem crcB_zeros_inj {n : Nat} : ∀ {r : BitVec 32}, crcB r (List.replicate n false) = 0#32 → r = 0#32 := by
  induction n with
  | zero => intro r h; exact h
  | succ n ih =>
    intro r h
    rw [List.replicate_succ, crcB_cons] at h
    have h1 := ih h
    have h2 : crcB r [false] = 0#32 := h1
    have h3 := crcB_zero_back [false] r (by decide) h2
    exact BitVec.eq_of_toNat_eq h3
theorem crcB_zeros (n : Nat) : crcB 0#32 (List.replicate n false) = 0#32 := by
  induction n with
  | zero => rfl
  | succ n ih =>
    rw [List.replicate_succ, crcB_cons, show stepB 0#32 false = 0#32 from by decide]
    exact ih

/-- unlike beginnings lead to unlike ends -/
theorem crcB_inj (l : List Bool) {a b : BitVec 32} (h : crcB a l = crcB b l) : a = b := by
  have h1 := crcB_xor l l a b rfl
  rw [xorL_self, h, BitVec.xor_self] at h1
  have h2 := crcB_zeros_inj h1
  have h3 : a ^^^ b ^^^ b = b := by rw [h2, BitVec.zero_xor]
  rwa [BitVec.xor_assoc, BitVec.xor_self, BitVec.xor_zero] at h3

theorem onF_inj (b : List (BitVec 8)) {x y : BitVec 32} : onF x b = onF y b ↔ x = y := by
  constructor
  · intro h
    unfold onF at h
    have h1 := BitVec.not_inj.1 h
    have h2 := crcB_inj _ h1
    exact BitVec.not_inj.1 h2
  · rintro rfl; rfl

/-- a word's bits behind are the word laid over -/
theorem crcB_word (r : BitVec 32) (l : List Bool) (hl : l.length = 32) : crcB r l = crcB (r ^^^ BitVec.ofNat 32 (packN l)) (List.replicate 32 false) := by
  have h2 := crcB_xor l (List.replicate l.length false) (BitVec.ofNat 32 (packN l)) (r ^^^ BitVec.ofNat 32 (packN l)) (by simp)
  rw [xorL_false, crcB_pack l (by omega), BitVec.zero_xor, hl, BitVec.xor_comm r, ← BitVec.xor_assoc, BitVec.xor_self, BitVec.zero_xor] at h2
  rw [BitVec.xor_comm r, ← h2]

/-! ### the bits' numbers -/
theorem packN_append : ∀ l m : List Bool, packN (l ++ m) = packN l + 2 ^ l.length * packN m
  | [], m => by simp [packN]
  | x :: l, m => by
    show x.toNat + 2 * packN (l ++ m) = x.toNat + 2 * packN l + 2 ^ (l.length + 1) * packN m
    rw [packN_append l m, Nat.mul_add, Nat.pow_succ, Nat.mul_comm (2 ^ l.length) 2, Nat.mul_assoc, Nat.add_assoc]
theorem packN_bits8' : ∀ n : Fin 256, packN ((List.range 8).map fun k => Nat.testBit n.val k) = n.val := by decide +kernel
theorem packN_bits8 (c : BitVec 8) : packN (bits8 c) = c.toNat := packN_bits8' ⟨c.toNat, c.isLt⟩

/-! ### single bits -/
def bitAt (s : List (BitVec 8)) (j : Nat) : Bool := (s.getD (j / 8) 0#8).getLsbD (j % 8)

theorem bitsF_range (s : List (BitVec 8)) : bitsF s = (List.range (8 * s.length)).map (bitAt s) := by
  induction s with
  | nil => rfl
  | cons c l ih =>
    rw [bitsF_cons, ih, List.length_cons, show 8 * (l.length + 1) = 8 + 8 * l.length by omega, List.range_add, List.map_append, List.map_map]
    congr 1
    apply List.map_congr_left
    intro k hk
    unfold bitAt
    simp only [Function.comp]
    rw [show (8 + k) / 8 = k / 8 + 1 by omega, show (8 + k) % 8 = k % 8 by omega]
    rfl

theorem xorL_map (l : List Nat) (f g : Nat → Bool) : xorL (l.map f) (l.map g) = l.map fun j => f j ^^ g j := by
  unfold xorL
  rw [List.zipWith_map, List.zipWith_self]

/-- one bit turned -/
theorem bitAt_turn (s : List (BitVec 8)) (j i : Nat) (hj : j / 8 < s.length) :
    bitAt (s.set (j / 8) (s.getD (j / 8) 0#8 ^^^ 1#8 <<< (j % 8))) i = (bitAt s i ^^ decide (i = j)) := by
  unfold bitAt
  by_cases h : i / 8 = j / 8
  · rw [h]
    have e : (s.set (j / 8) (s.getD (j / 8) 0#8 ^^^ 1#8 <<< (j % 8))).getD (j / 8) 0#8 = s.getD (j / 8) 0#8 ^^^ 1#8 <<< (j % 8) := by
      simp [List.getD, List.getElem?_set, hj]
    rw [e, BitVec.getLsbD_xor]
    congr 1
    rw [BitVec.getLsbD_shiftLeft]
    have h8 : i % 8 < 8 := Nat.mod_lt _ (by decide)
    rw [BitVec.getLsbD_one]
    by_cases h3 : i = j
    · subst h3; simp [h8]
    · have : i % 8 ≠ j % 8 := by omega
      simp only [h3, decide_false, h8]
      rcases Nat.lt_or_ge (i % 8) (j % 8) with h4 | h4
      · simp [h4]
      · have : i % 8 - j % 8 ≠ 0 := by omega
        simp [this]
  · have e : (s.set (j / 8) (s.getD (j / 8) 0#8 ^^^ 1#8 <<< (j % 8))).getD (i / 8) 0#8 = s.getD (i / 8) 0#8 := by
      simp [List.getD, List.getElem?_set, Ne.symm h]
    rw [e]
    have : i ≠ j := by rintro rfl; exact h rfl
    simp [this]

/-- the burst's bits: from place k on, the first i -/
def burstE (k i : Nat) (x : BitVec 32) (j : Nat) : Bool := decide (k ≤ j) && decide (j < k + i) && x.getLsbD (j - k)
theorem burstE_zero (k : Nat) (x : BitVec 32) (j : Nat) : burstE k 0 x j = false := by
  unfold burstE
  by_cases h : k ≤ j
  · have : ¬ j < k + 0 := by omega
    rw [decide_eq_false this]
    simp
  · simp [h]
theorem burstE_succ (k i : Nat) (x : BitVec 32) (j : Nat) : burstE k (i + 1) x j = (burstE k i x j ^^ (x.getLsbD i && decide (j = k + i))) := by
  unfold burstE
  by_cases h : j = k + i
  · subst h
    simp
  · by_cases h2 : j < k + i
    · have : j < k + (i + 1) := by omega
      simp [h, h2, this]
    · have : ¬ j < k + (i + 1) := by omega
      simp [h, h2, this]
theorem burstE_list (k i n : Nat) (x : BitVec 32) (hn : k + i ≤ n) :
    (List.range n).map (burstE k i x) = List.replicate k false ++ ((List.range i).map (fun j => x.getLsbD j) ++ List.replicate (n - k - i) false) := by
  obtain ⟨m, rfl⟩ : ∃ m, n = k + (i + m) := ⟨n - k - i, by omega⟩
  rw [List.range_add, List.map_append, List.map_map, List.range_add, List.map_append, List.map_map, show k + (i + m) - k - i = m by omega]
  congr 1
  · rw [List.eq_replicate_iff]
    refine ⟨by simp, fun b hb => ?_⟩
    obtain ⟨j, hj, rfl⟩ := List.mem_map.1 hb
    have := List.mem_range.1 hj
    have h : ¬ k ≤ j := by omega
    simp [burstE, h]
  · congr 1
    · apply List.map_congr_left
      intro j hj
      have := List.mem_range.1 hj
      simp [burstE, this]
    · rw [List.eq_replicate_iff]
      refine ⟨by simp, fun b hb => ?_⟩
      obtain ⟨j, hj, rfl⟩ := List.mem_map.1 hb
      have : ¬ (k + (i + j) < k + i) := by omega
      show (decide (k ≤ k + (i + j)) && decide (k + (i + j) < k + i) && x.getLsbD (k + (i + j) - k)) = false
      rw [decide_eq_false this]
      simp

/-- a burst that leads to naught is none -/
theorem burst_none (k i n : Nat) (x : BitVec 32) (hn : k + i ≤ n) (hi : i ≤ 32) (h : crcB 0#32 ((List.range n).map (burstE k i x)) = 0#32) : ∀ j, j < i → x.getLsbD j = false := by
  rw [burstE_list k i n x hn, crcB_append, crcB_zeros, crcB_append] at h
  have h1 := crcB_zeros_inj h
  have h2 := crcB_zero_back _ 0#32 (by simpa using hi) h1
  have h3 := packN_zero _ h2.symm
  intro j hj
  exact h3 _ (List.mem_map.2 ⟨j, List.mem_range.2 hj, rfl⟩)

/-! ### sealed texts -/
theorem packN_bitsF : ∀ t : List (BitVec 8), packN (bitsF t) = decN t
  | [] => rfl
  | c :: l => by rw [bitsF_cons, packN_append, packN_bits8, bits8_len, packN_bitsF l]; rfl

theorem xor_full {r t : BitVec 32} : r ^^^ t = BitVec.allOnes 32 ↔ ~~~r = t := by
  constructor
  · intro h
    have h1 : r ^^^ (r ^^^ t) = r ^^^ BitVec.allOnes 32 := by rw [h]
    rw [← BitVec.xor_assoc, BitVec.xor_self, BitVec.zero_xor, BitVec.xor_allOnes] at h1
    exact h1.symm
  · rintro rfl
    rw [← BitVec.xor_allOnes, ← BitVec.xor_assoc, BitVec.xor_self, BitVec.zero_xor]

theorem sealed_iff (b t : List (BitVec 8)) (ht : t.length = 4) :
    sumF b = BitVec.ofNat 32 (decN t) ↔ crcB (BitVec.allOnes 32) (bitsF (b ++ t)) = crcB (BitVec.allOnes 32) (List.replicate 32 false) := by
  have e : (~~~0#32 : BitVec 32) = BitVec.allOnes 32 := by decide
  unfold sumF onF
  rw [e, bitsF_append, crcB_append, crcB_word _ (bitsF t) (by rw [bitsF_len, ht]), packN_bitsF]
  generalize crcB (BitVec.allOnes 32) (bitsF b) = R
  rw [← xor_full]
  constructor
  · intro h; rw [h]
  · intro h; exact crcB_inj _ h

/-- a sealed text with a burst of turned bits is sealed only where no bit was turned -/
theorem turned_sealed (b t b' t' : List (BitVec 8)) (k i : Nat) (x : BitVec 32) (ht : t.length = 4) (ht' : t'.length = 4) (hl : b'.length = b.length) (hi : i ≤ 32) (hk : k + i ≤ 8 * (b.length + 4))
    (hs : sumF b = BitVec.ofNat 32 (decN t)) (hb : ∀ j, j < 8 * (b.length + 4) → bitAt (b' ++ t') j = (bitAt (b ++ t) j ^^ burstE k i x j)) :
    sumF b' = BitVec.ofNat 32 (decN t') ↔ ∀ j, j < i → x.getLsbD j = false := by
  have h0 := (sealed_iff b t ht).1 hs
  have e1 : bitsF (b' ++ t') = xorL (bitsF (b ++ t)) ((List.range (8 * (b.length + 4))).map (burstE k i x)) := by
    rw [bitsF_range, bitsF_range, List.length_append, List.length_append, hl, ht, ht', xorL_map]
    exact List.map_congr_left fun j hj => hb j (List.mem_range.1 hj)
  have h1 := crcB_xor (bitsF (b ++ t)) ((List.range (8 * (b.length + 4))).map (burstE k i x)) (BitVec.allOnes 32) 0#32 (by rw [bitsF_len]; simp [ht])
  rw [BitVec.xor_zero, ← e1, h0] at h1
  rw [sealed_iff b' t' ht', h1]
  constructor
  · intro h
    apply burst_none k i _ x hk hi
    have h2 : ∀ a c : BitVec 32, a ^^^ c = a → c = 0#32 := by
      intro a c h
      have h3 : a ^^^ (a ^^^ c) = a ^^^ a := by rw [h]
      rwa [← BitVec.xor_assoc, BitVec.xor_self, BitVec.zero_xor] at h3
    exact h2 _ _ h
  · intro h
    have e2 : (List.range (8 * (b.length + 4))).map (burstE k i x) = List.replicate (8 * (b.length + 4)) false := by
      rw [List.eq_replicate_iff]
      refine ⟨by simp, fun y hy => ?_⟩
      obtain ⟨j, hj, rfl⟩ := List.mem_map.1 hy
      unfold burstE
      by_cases h1 : k ≤ j
      · by_cases h2 : j < k + i
        · rw [h (j - k) (by omega)]; simp
        · simp [h2]
      · simp [h1]
    rw [e2, crcB_zeros, BitVec.xor_zero]

/-! ### texts laid over one another -/
def xorB (a b : List (BitVec 8)) : List (BitVec 8) := List.zipWith (· ^^^ ·) a b
theorem bits8_xor (a b : BitVec 8) : bits8 (a ^^^ b) = xorL (bits8 a) (bits8 b) := by
  unfold bits8
  rw [xorL_map]
  apply List.map_congr_left
  intro k _
  rw [BitVec.getLsbD_xor]
theorem xorL_append {a b c d : List Bool} (h : a.length = c.length) : xorL (a ++ b) (c ++ d) = xorL a c ++ xorL b d := List.zipWith_append h
theorem bitsF_xor : ∀ a b : List (BitVec 8), a.length = b.length → bitsF (xorB a b) = xorL (bitsF a) (bitsF b)
  | [], [], _ => rfl
  | x :: a, y :: b, h => by
    show bitsF ((x ^^^ y) :: xorB a b) = _
    rw [bitsF_cons, bitsF_cons, bitsF_cons, bits8_xor, bitsF_xor a b (by simpa using h), xorL_append (by rw [bits8_len, bits8_len])]
  | [], _ :: _, h => by simp at h
  | _ :: _, [], h => by simp at h
theorem sum_linear (a b c : List (BitVec 8)) (h1 : a.length = b.length) (h2 : a.length = c.length) : sumF (xorB (xorB a b) c) = sumF a ^^^ sumF b ^^^ sumF c := by
  have hab : (xorB a b).length = a.length := by simp [xorB, h1]
  unfold sumF onF
  have e : (~~~0#32 : BitVec 32) = BitVec.allOnes 32 := by decide
  rw [e, bitsF_xor _ _ (by omega), bitsF_xor _ _ h1]
  have g1 := crcB_xor (bitsF a) (bitsF b) (BitVec.allOnes 32) (BitVec.allOnes 32) (by rw [bitsF_len, bitsF_len, h1])
  have g2 := crcB_xor (xorL (bitsF a) (bitsF b)) (bitsF c) (BitVec.allOnes 32 ^^^ BitVec.allOnes 32) (BitVec.allOnes 32) (by rw [xorL, List.length_zipWith, bitsF_len, bitsF_len, bitsF_len]; omega)
  rw [BitVec.xor_self, BitVec.zero_xor] at g2
  rw [g2, ← BitVec.xor_self (x := BitVec.allOnes 32), g1]
  simp only [← BitVec.xor_allOnes]
  generalize crcB (BitVec.allOnes 32) (bitsF a) = p
  generalize crcB (BitVec.allOnes 32) (bitsF b) = q
  generalize crcB (BitVec.allOnes 32) (bitsF c) = r
  rw [show p ^^^ BitVec.allOnes 32 ^^^ (q ^^^ BitVec.allOnes 32) = p ^^^ q ^^^ (BitVec.allOnes 32 ^^^ BitVec.allOnes 32) by ac_rfl, BitVec.xor_self, BitVec.xor_zero]
  ac_rfl

end Go.Proofs.Ytgipackjnncabaa

/- Walks of layer 2, first part: numbers laid down as bytes; what the references do with bytes. -/
set_option linter.unusedVariables false
namespace Go.Proofs.Ytgipackjnncabaa
open Go.Vc Go.RowKit

/-- the lowest 'width' bytes -/
def enc (width n : Nat) : List (BitVec 8) := (List.range width).map fun i => BitVec.ofNat 8 (n / 256 ^ i)
def putF (bs : List (BitVec 8)) (width : Int) (n : Nat) : List (BitVec 8) × Int :=
  if width < 1 ∨ 8 < width then ([], 1) else if 256 ^ width.toNat ≤ n then ([], 3) else (bs ++ enc width.toNat n, 0)

/-- bytes in new memory, and an error's number -/
def PutPost (r : List (BitVec 8) × Int) (w : World) (v : Value) (w' : World) : Prop :=
  ∃ a' c', v = .tuple #[.slice a' r.1.length c', .int .i64 r.2] ∧ Own 5 u8v w.heap.size w' a' c' r.1 ∧ Ext w w'
/-- bytes in new memory -/
def BytesPost (r : List (BitVec 8)) (w : World) (v : Value) (w' : World) : Prop :=
  ∃ a' c', v = .slice a' r.length c' ∧ Own 5 u8v w.heap.size w' a' c' r ∧ Ext w w'

theorem enc_len (width n : Nat) : (enc width n).length = width := by simp [enc]
theorem enc_succ (k n : Nat) : enc (k + 1) n = enc k n ++ [BitVec.ofNat 8 (n / 256 ^ k)] := by simp [enc, List.range_succ]
theorem enc_zero (n : Nat) : enc 0 n = [] := rfl

theorem shr8 (n k : Nat) (hk : k < 8) : (n : Int).fdiv (2 ^ min (8 * (k : Int)).toNat IntKind.u64.bits) = ((n / 256 ^ k : Nat) : Int) := by
  have e1 : min (8 * (k : Int)).toNat IntKind.u64.bits = 8 * k := by
    show min (8 * (k : Int)).toNat 64 = 8 * k
    omega
  rw [e1, Int.pow_mul]
  have e2 : ((2 : Int) ^ 8) ^ k = ((256 ^ k : Nat) : Int) := by simp
  rw [e2, Int.fdiv_eq_ediv_of_nonneg _ (Int.natCast_nonneg _)]
  rfl

theorem pow256_8 : (256 : Nat) ^ 8 = 2 ^ 64 := by decide

/-- octet.Put -/
theorem put_calls {w : World} {a : Option Addr} {c : Nat} {bs : List (BitVec 8)} (h : Sl u8v w a bs) (hl : bs.length ≤ 16777216) (width : Int) (n : Nat) (hn : n < 2 ^ 64) :
    Calls Try.prog 42 #[.slice a bs.length c, .int .i64 width, .int .u64 n] w (Ret (PutPost (putF bs width n) w)) := by
  refine calls_of_vc lok Try.func42 ?_ rfl
  conv => whnf
  refine vcReg_meet lok (fun β : Bool => [(15, .bool β)]) (fun β w' => w' = w ∧ β = decide (width < 1 ∨ 8 < width)) [15] (fun _ => rfl) rfl ?_ ?_
  · conv => whnf
    refine bcase (fun h1 => ?_) (fun h1 => ?_)
    · conv => whnf
      exact ⟨_, ⟨rfl, trivial⟩, rfl, by simp at h1; simp; omega⟩
    · conv => whnf
      exact ⟨_, ⟨rfl, trivial⟩, rfl, by simp at h1; simp; omega⟩
  rintro β w' ⟨rfl, hβ⟩
  conv => whnf
  refine vcCond_split lok rfl (fun h1 => ?_) (fun h1 => ?_) <;> rw [h1] at hβ
  · have hβ := of_decide_eq_true hβ.symm
    conv => whnf
    have e : putF bs width n = ([], 1) := if_pos hβ
    rw [e]
    exact ⟨none, 0, rfl, Own.nil _ _ _ _, Ext.refl _⟩
  have hβ := of_decide_eq_false hβ.symm
  obtain ⟨k, rfl⟩ := Int.eq_ofNat_of_zero_le (a := width) (by omega)
  have e0 : putF bs k n = if 256 ^ k ≤ n then ([], 3) else (bs ++ enc k n, 0) := by
    unfold putF; rw [if_neg hβ]; simp
  conv => whnf
  refine vcReg_meet lok (fun β : Bool => [(25, .bool β)]) (fun β w'' => w'' = w' ∧ β = decide (256 ^ k ≤ n)) [25] (fun _ => rfl) rfl ?_ ?_
  · conv => whnf
    refine bcase (fun h3 => ?_) (fun h3 => ?_)
    · have h3 := of_decide_eq_true h3
      conv => whnf
      intro z hz
      obtain rfl : z = (k : Int) := by rw [hz, wu64]; omega
      conv => whnf
      intro z2 hz2
      obtain rfl : z2 = 8 * (k : Int) := by rw [hz2, wu64]; omega
      conv => whnf
      refine ⟨by omega, ?_⟩
      conv => whnf
      intro z3 hz3
      rw [shr8 n k (by omega)] at hz3
      subst hz3
      conv => whnf
      refine ⟨_, ⟨rfl, trivial⟩, rfl, ?_⟩
      rw [← decide_not, decide_eq_decide]
      have : 0 < 256 ^ k := Nat.pow_pos (by decide)
      rw [Int.natCast_eq_zero, Nat.div_eq_zero_iff]
      omega
    · have h3 := of_decide_eq_false h3
      conv => whnf
      refine ⟨_, ⟨rfl, trivial⟩, rfl, ?_⟩
      obtain rfl : k = 8 := by omega
      rw [pow256_8]
      simp; omega
  rintro β w'' ⟨rfl, hβ2⟩
  conv => whnf
  refine vcCond_split lok rfl (fun h1 => ?_) (fun h1 => ?_) <;> rw [h1] at hβ2
  · have hβ2 := of_decide_eq_true hβ2.symm
    conv => whnf
    rw [e0, if_pos hβ2]
    exact ⟨none, 0, rfl, Own.nil _ _ _ _, Ext.refl _⟩
  have hβ2 := of_decide_eq_false hβ2.symm
  rw [e0, if_neg hβ2]
  conv => whnf
  refine ⟨by omega, ?_⟩
  conv => whnf
  obtain ⟨w1, hr1, ho1, hx1⟩ := run_makeOwn e8 w''.heap.size w'' (Nat.le_refl _) bs.length (bs.length + k) (by omega) (by omega)
  rw [Int.natCast_add] at hr1
  refine ⟨_, _, hr1, ?_⟩
  conv => whnf
  obtain ⟨w2, hr2, ho2, hg2⟩ := ho1.copy (ty := 3) (u := 22) (d := c) e8.toElem (fun _ => rfl) (h.ext hx1) (by simp)
  refine ⟨_, _, hr2, ?_⟩
  have hx2 : Ext w'' w2 := hg2.extOf hx1 (fun g hg => by cases hg; exact Nat.le_refl _)
  conv => whnf
  have hb8 : k ≤ 8 := by omega
  refine vcLoop_inv lok (σ := Nat × Option Addr × Nat)
    (fun s => [(37, .int .i64 s.1), (36, .int .i64 k), (2, .int .u64 n), (8, .slice s.2.1 (bs ++ enc s.1 n).length s.2.2)])
    (fun s w => s.1 ≤ k ∧ Own 5 u8v w''.heap.size w s.2.1 s.2.2 (bs ++ enc s.1 n) ∧ Ext w'' w) (fun s => k - s.1)
    (0, _, _) ⟨rfl, rfl, rfl, by simp [enc]; rfl, trivial⟩ ⟨Nat.zero_le _, by simpa [enc] using ho2, hx2⟩ ?_
  rintro ⟨j, a1, c1⟩ w3 ⟨hj, ho, hx⟩
  simp only at hj ho
  conv => whnf
  refine vcCond_split lok rfl (fun h5 => ?_) (fun h5 => ?_)
  · have h5 := of_decide_eq_true h5
    conv => whnf
    intro z hz
    obtain rfl : z = (j : Int) := by rw [hz, wu64]; omega
    conv => whnf
    intro z2 hz2
    obtain rfl : z2 = 8 * (j : Int) := by rw [hz2, wu64]; omega
    conv => whnf
    refine ⟨by omega, ?_⟩
    conv => whnf
    intro z3 hz3
    rw [shr8 n j (by omega)] at hz3
    subst hz3
    conv => whnf
    intro z4 hz4
    obtain rfl : z4 = ((BitVec.ofNat 8 (n / 256 ^ j)).toNat : Int) := by rw [hz4, wu8]; simp
    conv => whnf
    refine ⟨_, _, run_build1 e8.toElem rfl w3, ?_⟩
    conv => whnf
    obtain ⟨a4, c4, w4, hr4, ho4, hg4, _⟩ := (ho.alloc _).append (ty := 22) (d := 1) e8.toElem (fun _ => rfl) (Sl.one (BitVec.ofNat 8 (n / 256 ^ j)) w3 rfl) (by simp [enc_len]; omega) (by simp; have := hx.size; omega)
    refine ⟨_, _, hr4, ?_⟩
    conv => whnf
    refine ⟨by omega, ?_⟩
    conv => whnf
    rw [List.append_assoc, ← enc_succ] at ho4 ⊢
    refine ⟨(j + 1, a4, c4), ⟨rfl, rfl, rfl, rfl, trivial⟩, ⟨by simp only; omega, ho4, ?_⟩, by simp only; omega⟩
    exact hg4.extOf (hx.trans (Ext.new _ _)) (fun g hg => (ho.ge g hg).1)
  · have h5 := of_decide_eq_false h5
    obtain rfl : j = k := by omega
    conv => whnf
    exact ⟨a1, c1, rfl, ho, hx⟩

/-- the reference's digits -/
theorem digits_calls {w : World} (n k : Nat) (hn : n < 2 ^ 64) (hk : k ≤ 16) :
    Calls Try.prog 140 #[.int .u64 n, .int .i64 k] w (Ret fun v w' => ∃ a' c', v = .tuple #[.slice a' (enc k n).length c', .int .u64 (n / 256 ^ k : Nat)] ∧ Own 5 u8v w.heap.size w' a' c' (enc k n) ∧ Ext w w') := by
  refine calls_of_vc lok Try.func140 ?_ rfl
  conv => whnf
  refine vcLoop_inv lok (σ := Nat × Option Addr × Nat)
    (fun ⟨j, a, c⟩ => [(7, .int .i64 j), (1, .int .i64 k), (0, .int .u64 (n / 256 ^ j : Nat)), (6, .slice a (enc j n).length c)])
    (fun ⟨j, a, c⟩ w' => j ≤ k ∧ Own 5 u8v w.heap.size w' a c (enc j n) ∧ Ext w w') (fun s => k - s.1)
    (0, none, 0) ⟨rfl, rfl, by simp; rfl, rfl, trivial⟩ ⟨Nat.zero_le _, Own.nil _ _ _ _, Ext.refl _⟩ ?_
  rintro ⟨j, a1, c1⟩ w3 ⟨hj, ho, hx⟩
  conv => whnf
  refine vcCond_split lok rfl (fun h5 => ?_) (fun h5 => ?_)
  · have h5 := of_decide_eq_true h5
    have hlt : n / 256 ^ j < 2 ^ 64 := Nat.lt_of_le_of_lt (Nat.div_le_self _ _) hn
    conv => whnf
    refine ⟨by decide, ?_⟩
    conv => whnf
    intro z hz
    obtain rfl : z = ((n / 256 ^ j : Nat) : Int) % 256 := by rw [hz, Int.tmod_eq_emod_of_nonneg (Int.natCast_nonneg _)]
    conv => whnf
    intro z2 hz2
    obtain rfl : z2 = ((BitVec.ofNat 8 (n / 256 ^ j)).toNat : Int) := by rw [hz2, wu8]; simp
    conv => whnf
    refine ⟨_, _, run_build1 e8.toElem rfl w3, ?_⟩
    conv => whnf
    obtain ⟨a4, c4, w4, hr4, ho4, hg4, _⟩ := (ho.alloc _).append (ty := 22) (d := 1) e8.toElem (fun _ => rfl) (Sl.one (BitVec.ofNat 8 (n / 256 ^ j)) w3 rfl) (by simp [enc_len]; omega) (by simp; have := hx.size; omega)
    refine ⟨_, _, hr4, ?_⟩
    conv => whnf
    refine ⟨by decide, ?_⟩
    conv => whnf
    intro z3 hz3
    obtain rfl : z3 = ((n / 256 ^ (j + 1) : Nat) : Int) := by
      rw [hz3, Int.tdiv_eq_ediv_of_nonneg (Int.natCast_nonneg _), wu64, Nat.pow_succ, ← Nat.div_div_eq_div_mul]
      clear hz3 z3
      generalize n / 256 ^ j = m at hlt
      omega
    conv => whnf
    refine ⟨by omega, ?_⟩
    conv => whnf
    rw [← enc_succ] at ho4 ⊢
    refine ⟨(j + 1, a4, c4), ⟨rfl, rfl, rfl, rfl, trivial⟩, ⟨by omega, ho4, ?_⟩, by simp only; omega⟩
    exact hg4.extOf (hx.trans (Ext.new _ _)) (fun g hg => (ho.ge g hg).1)
  · have h5 := of_decide_eq_false h5
    obtain rfl : j = k := by omega
    conv => whnf
    exact ⟨a1, c1, rfl, ho, hx⟩

/-- the reference's join -/
theorem join_calls {w : World} {a b : Option Addr} {c d : Nat} {xs ys : List (BitVec 8)} (hx : Sl u8v w a xs) (hy : Sl u8v w b ys) (hl : xs.length + ys.length ≤ 4294967296) :
    Calls Try.prog 141 #[.slice a xs.length c, .slice b ys.length d] w (Ret (BytesPost (xs ++ ys) w)) := by
  refine calls_of_vc lok Try.func141 ?_ rfl
  conv => whnf
  obtain ⟨a1, c1, w1, hr1, ho1, hg1, _⟩ := (Own.nil 5 u8v w.heap.size w).append (ty := 22) (d := c) e8.toElem (fun _ => rfl) hx (by simp; omega) (Nat.le_refl _)
  refine ⟨_, _, hr1, ?_⟩
  have hx1 : Ext w w1 := hg1.ext
  conv => whnf
  obtain ⟨a2, c2, w2, hr2, ho2, hg2, _⟩ := ho1.append (ty := 22) (d := d) e8.toElem (fun _ => rfl) (hy.ext hx1) (by simp; omega) hx1.size
  refine ⟨_, _, hr2, ?_⟩
  conv => whnf
  exact ⟨a2, c2, rfl, ho2, hg2.extOf hx1 (fun g hg => (ho1.ge g hg).1)⟩

theorem div_lt_pow (n k : Nat) : n / 256 ^ k = 0 ↔ n < 256 ^ k := by
  have : 0 < 256 ^ k := Nat.pow_pos (by decide)
  rw [Nat.div_eq_zero_iff]
  omega

/-- the reference's Put -/
theorem rput_calls {w : World} {a : Option Addr} {c : Nat} {bs : List (BitVec 8)} (h : Sl u8v w a bs) (hl : bs.length ≤ 16777216) (width : Int) (n : Nat) (hn : n < 2 ^ 64) :
    Calls Try.prog 43 #[.slice a bs.length c, .int .i64 width, .int .u64 n] w (Ret (PutPost (putF bs width n) w)) := by
  refine calls_of_vc lok Try.func43 ?_ rfl
  conv => whnf
  refine vcReg_meet lok (fun β : Bool => [(15, .bool β)]) (fun β w' => w' = w ∧ β = decide (width < 1 ∨ 8 < width)) [15] (fun _ => rfl) rfl ?_ ?_
  · conv => whnf
    refine bcase (fun h1 => ?_) (fun h1 => ?_)
    · conv => whnf
      exact ⟨_, ⟨rfl, trivial⟩, rfl, by simp at h1; simp; omega⟩
    · conv => whnf
      exact ⟨_, ⟨rfl, trivial⟩, rfl, by simp at h1; simp; omega⟩
  rintro β w' ⟨rfl, hβ⟩
  conv => whnf
  refine vcCond_split lok rfl (fun h1 => ?_) (fun h1 => ?_) <;> rw [h1] at hβ
  · have hβ := of_decide_eq_true hβ.symm
    conv => whnf
    have e : putF bs width n = ([], 1) := if_pos hβ
    rw [e]
    exact ⟨none, 0, rfl, Own.nil _ _ _ _, Ext.refl _⟩
  have hβ := of_decide_eq_false hβ.symm
  obtain ⟨k, rfl⟩ := Int.eq_ofNat_of_zero_le (a := width) (by omega)
  have e0 : putF bs k n = if 256 ^ k ≤ n then ([], 3) else (bs ++ enc k n, 0) := by
    unfold putF; rw [if_neg hβ]; simp
  conv => whnf
  refine Calls.ret (digits_calls n k hn (by omega)) ?_
  rintro _ w1 ⟨a1, c1, rfl, ho1, hx1⟩
  conv => whnf
  refine vcCond_split lok rfl (fun h1 => ?_) (fun h1 => ?_)
  · have hd : 256 ^ k ≤ n := by
      have h1 := nz_true h1
      rw [Ne, div_lt_pow] at h1
      omega
    conv => whnf
    rw [e0, if_pos hd]
    exact ⟨none, 0, rfl, Own.nil _ _ _ _, hx1⟩
  · have hd : ¬ 256 ^ k ≤ n := by
      have h1 := nz_false h1
      rw [div_lt_pow] at h1
      omega
    conv => whnf
    rw [e0, if_neg hd]
    refine Calls.ret (join_calls (h.ext hx1) ho1.sl (by rw [enc_len]; omega)) ?_
    rintro _ w2 ⟨a2, c2, rfl, ho2, hx2⟩
    conv => whnf
    exact ⟨a2, c2, rfl, ho2.base hx1.size, hx1.trans hx2⟩

end Go.Proofs.Ytgipackjnncabaa

/- Walks of layer 2, second part: Lent, Kept, Spoil; numbers read. -/
set_option linter.unusedVariables false
namespace Go.Proofs.Ytgipackjnncabaa
open Go.Vc Go.RowKit

/-- bytes with a mark behind them -/
def LentPost (bs : List (BitVec 8)) (w : World) (v : Value) (w' : World) : Prop :=
  ∃ a' c', v = .slice a' bs.length c' ∧ Own 5 u8v w.heap.size w' a' c' (bs ++ [77#8]) ∧ Ext w w'

theorem lent_calls {w : World} {a : Option Addr} {c : Nat} {bs : List (BitVec 8)} (h : Sl u8v w a bs) (hl : bs.length ≤ 16777216) :
    Calls Try.prog 41 #[.slice a bs.length c] w (Ret (LentPost bs w)) := by
  refine calls_of_vc lok Try.func41 ?_ rfl
  conv => whnf
  obtain ⟨a1, c1, w1, hr1, ho1, hg1, _⟩ := (Own.nil 5 u8v w.heap.size w).append (ty := 22) (d := c) e8.toElem (fun _ => rfl) h (by simp; omega) (Nat.le_refl _)
  refine ⟨_, _, hr1, ?_⟩
  have hx1 : Ext w w1 := hg1.ext
  conv => whnf
  refine ⟨_, _, run_build1 e8.toElem rfl w1, ?_⟩
  conv => whnf
  obtain ⟨a2, c2, w2, hr2, ho2, hg2, _⟩ := (ho1.alloc _).append (ty := 22) (d := 1) e8.toElem (fun _ => rfl) (Sl.one (77#8) w1 rfl) (by simp; omega) (by simp; have := hx1.size; omega)
  refine ⟨_, _, hr2, ?_⟩
  conv => whnf
  have hle := ho2.le.1
  simp only [List.nil_append, List.length_append, List.length_singleton] at hle
  refine ⟨⟨by omega, by omega⟩, ?_⟩
  conv => whnf
  refine ⟨a2, c2, rfl, by simpa using ho2, hg2.extOf (hx1.trans (Ext.new _ _)) (fun g hg => (ho1.ge g hg).1)⟩

theorem kept_calls {w : World} {a b : Option Addr} {c d : Nat} {bs : List (BitVec 8)} (h : Sl u8v w a (bs ++ [77#8])) (hb : Sl u8v w b bs) (hc : bs.length + 1 ≤ c) (hl : bs.length ≤ 16777216) :
    Calls Try.prog 44 #[.slice a bs.length c, .slice b bs.length d] w (Ret fun v w' => v = .bool true ∧ w' = w) := by
  refine calls_of_vc lok Try.func44 ?_ rfl
  conv => whnf
  refine vcReg_go lok ?_
  conv => whnf
  have h1 : Sl u8v w a bs := by simpa using h.take bs.length
  refine ⟨_, run_toStr h1, ?_⟩
  conv => whnf
  refine ⟨_, run_toStr hb, ?_⟩
  conv => whnf
  intro β hβ
  obtain rfl : β = true := by rw [str_eq hβ rfl rfl]; simp
  conv => whnf
  · refine ⟨by omega, ?_⟩
    conv => whnf
    refine ⟨⟨by omega, by omega⟩, ?_⟩
    conv => whnf
    obtain ⟨p, o, ha, hcell⟩ := h.at (bs.length : Int) (by omega) (by simp; omega)
    refine ⟨p, o, ha, ⟨by omega, by omega⟩, ?_⟩
    conv => whnf
    refine ⟨_, hcell, ?_⟩
    conv => whnf
    refine ⟨?_, rfl⟩
    simp [List.getD]

/-- Spoil writes into the slice's own block, and into new ones -/
theorem spoil_calls {w : World} {a : Option Addr} {c B : Nat} {bs : List (BitVec 8)} (h : Own 5 u8v B w a c bs) (hB : B ≤ w.heap.size) (hl : bs.length ≤ 2147483648) :
    Calls Try.prog 45 #[.slice a bs.length c] w (Ret fun v w' => v = .tuple #[] ∧ Gr w w' (blockOf a)) := by
  refine calls_of_vc lok Try.func45 ?_ rfl
  conv => whnf
  refine vcLoop_inv lok (σ := Nat × List (BitVec 8))
    (fun ⟨j, xs⟩ => [(2, .int .i64 j), (0, .slice a bs.length c)])
    (fun ⟨j, xs⟩ w' => j ≤ bs.length ∧ xs.length = bs.length ∧ Own 5 u8v B w' a c xs ∧ Gr w w' (blockOf a)) (fun s => bs.length - s.1)
    (0, bs) ⟨rfl, rfl, trivial⟩ ⟨Nat.zero_le _, rfl, h, Gr.refl _ _⟩ ?_
  rintro ⟨j, xs⟩ w1 ⟨hj, hxl, ho, hg⟩
  conv => whnf
  refine vcCond_split lok rfl (fun h5 => ?_) (fun h5 => ?_)
  · have h5 := dt h5
    conv => whnf
    obtain ⟨p, o, ha, hcell⟩ := ho.sl.at (j : Int) (by omega) (by omega)
    refine ⟨p, o, ha, ⟨by omega, by omega⟩, ?_⟩
    conv => whnf
    refine ⟨_, hcell, ?_⟩
    conv => whnf
    intro z hz
    obtain ⟨g, hag, hc1, hf1, hBg, hgl, hst⟩ := ho.store (j : Int) (by omega) (by omega)
    obtain ⟨y, rfl⟩ : ∃ y : BitVec 8, z = (y.toNat : Int) := ⟨BitVec.ofInt 8 z, by rw [hz, wu8]; simp; omega⟩
    conv => whnf
    refine ⟨g, 0, hag, ⟨by omega, by omega⟩, ?_⟩
    conv => whnf
    refine ⟨⟨rfl, hc1, hf1⟩, fun w2 hw2 => ?_⟩
    obtain ⟨ho2, hg2⟩ := hst y
    obtain rfl : w2 = w1.setCell ⟨g, 0 + (j : Int).toNat, none⟩ (u8v y) := hw2
    conv => whnf
    refine ⟨by omega, ?_⟩
    conv => whnf
    refine ⟨(j + 1, _), ⟨rfl, rfl, trivial⟩, ⟨by omega, by simpa using hxl, ho2, hg.step hg2 (.inl (by rw [hag]; rfl))⟩, by simp only; omega⟩
  · have h5 := df h5
    conv => whnf
    refine ⟨_, _, run_build1 e8.toElem rfl w1, ?_⟩
    conv => whnf
    have hz1 := hg.size
    obtain ⟨a2, c2, w2, hr2, ho2, hg2, hb2⟩ := (ho.alloc _).append (ty := 22) (d := 1) e8.toElem (fun _ => rfl) (Sl.one (99#8) w1 rfl) (by simp; omega) (by simp; omega)
    rw [hxl] at hr2
    refine ⟨_, _, hr2, ?_⟩
    conv => whnf
    simp only [List.length_append, List.length_singleton]
    refine ⟨by omega, ?_⟩
    conv => whnf
    obtain ⟨g, hag, hc1, hf1, hBg, hgl, hst⟩ := ho2.store (((xs.length + 1 : Nat) : Int) - 1) (by omega) (by simp; omega)
    refine ⟨g, 0, hag, ⟨by omega, by omega⟩, ?_⟩
    conv => whnf
    refine ⟨⟨rfl, hc1, hf1⟩, fun w3 hw3 => ?_⟩
    obtain ⟨ho3, hg3⟩ := hst (98#8)
    obtain rfl : w3 = w2.setCell ⟨g, 0 + (((xs.length + 1 : Nat) : Int) - 1).toNat, none⟩ (u8v 98#8) := hw3
    conv => whnf
    refine ⟨rfl, (((hg.step (Gr.alloc _ _ none) (.inr (by simp))).step hg2 (.inl rfl)).step hg3 ?_)⟩
    rw [hag] at hb2
    rcases hb2 with hb2 | hb2
    · exact .inl hb2
    · refine .inr fun g' hg' => ?_
      cases hg'
      have e : g = (w1.alloc (.cells #[.int .u8 ((99#8).toNat : Int)] 5)).heap.size := Option.some.inj hb2
      rw [World.size_alloc] at e
      omega

/-- octet.Get -/
theorem get_calls {w : World} {a : Option Addr} {c : Nat} {bs : List (BitVec 8)} (h : Sl u8v w a bs) (hl : bs.length ≤ 2147483648) (at_ width : Int) (hat : -9223372036854775808 ≤ at_) :
    Calls Try.prog 46 #[.slice a bs.length c, .int .i64 at_, .int .i64 width] w (Ret fun v w' => v = .tuple #[.int .u64 (getF bs at_ width).1, .int .i64 (getF bs at_ width).2] ∧ w' = w) := by
  refine calls_of_vc lok Try.func46 ?_ rfl
  conv => whnf
  refine vcReg_meet lok (fun β : Bool => [(25, .bool β)]) (fun β w' => w' = w ∧ β = decide (width < 1 ∨ 8 < width ∨ at_ < 0 ∨ (bs.length : Int) < at_)) [25] (fun _ => rfl) rfl ?_ ?_
  · conv => whnf
    refine bcase (fun h1 => ?_) (fun h1 => ?_)
    · conv => whnf
      exact ⟨_, ⟨rfl, trivial⟩, rfl, by have := dt h1; simp; omega⟩
    · conv => whnf
      refine bcase (fun h2 => ?_) (fun h2 => ?_)
      · conv => whnf
        exact ⟨_, ⟨rfl, trivial⟩, rfl, by have := dt h2; simp; omega⟩
      · conv => whnf
        refine bcase (fun h3 => ?_) (fun h3 => ?_)
        · conv => whnf
          exact ⟨_, ⟨rfl, trivial⟩, rfl, by have := dt h3; simp; omega⟩
        · conv => whnf
          exact ⟨_, ⟨rfl, trivial⟩, rfl, by have := df h1; have := df h2; have := df h3; exact decide_eq_decide.2 (by omega)⟩
  rintro β w' ⟨rfl, hβ⟩
  conv => whnf
  refine vcCond_split lok rfl (fun h1 => ?_) (fun h1 => ?_) <;> rw [h1] at hβ
  · have hβ := dt hβ.symm
    conv => whnf
    have e : getF bs at_ width = (0, 1) := if_pos hβ
    rw [e]
    exact ⟨rfl, rfl⟩
  have hβ := df hβ.symm
  obtain ⟨k, rfl⟩ := Int.eq_ofNat_of_zero_le (a := width) (by omega)
  obtain ⟨t, rfl⟩ := Int.eq_ofNat_of_zero_le (a := at_) (by omega)
  conv => whnf
  refine ⟨by omega, ?_⟩
  conv => whnf
  have e0 : getF bs t k = if (bs.length : Int) - t < k then (0, 2) else (decN ((bs.drop t).take k), 0) := by
    unfold getF; rw [if_neg hβ]; simp
  refine vcCond_split lok rfl (fun h1 => ?_) (fun h1 => ?_)
  · conv => whnf
    rw [e0, if_pos (dt h1)]
    exact ⟨rfl, rfl⟩
  have h1 := df h1
  rw [e0, if_neg h1]
  conv => whnf
  refine vcLoop_inv lok (σ := Nat)
    (fun j => [(33, .int .i64 j), (32, .int .i64 k), (8, .int .u64 (decN ((bs.drop t).take j))), (0, .slice a bs.length c), (1, .int .i64 t)])
    (fun j w1 => j ≤ k ∧ w1 = w') (fun j => k - j) 0 ⟨rfl, rfl, rfl, rfl, rfl, trivial⟩ ⟨Nat.zero_le _, rfl⟩ ?_
  rintro j w1 ⟨hj, rfl⟩
  conv => whnf
  refine vcCond_split lok rfl (fun h5 => ?_) (fun h5 => ?_)
  · have h5 := dt h5
    conv => whnf
    refine ⟨by omega, ?_⟩
    conv => whnf
    obtain ⟨p, o, ha, hcell⟩ := h.at ((t : Int) + j) (by omega) (by omega)
    refine ⟨p, o, ha, ⟨by omega, by omega⟩, ?_⟩
    conv => whnf
    refine ⟨_, hcell, ?_⟩
    conv => whnf
    have e1 : ((t : Int) + j).toNat = t + j := by omega
    rw [e1]
    have hb := (bs.getD (t + j) default).isLt
    intro z hz
    obtain rfl : z = ((bs.getD (t + j) default).toNat : Int) := by rw [hz, wu64]; omega
    conv => whnf
    intro z2 hz2
    obtain rfl : z2 = (j : Int) := by rw [hz2, wu64]; omega
    conv => whnf
    intro z3 hz3
    obtain rfl : z3 = 8 * (j : Int) := by rw [hz3, wu64]; omega
    conv => whnf
    refine ⟨by omega, ?_⟩
    conv => whnf
    intro z4 hz4
    subst hz4
    conv => whnf
    intro z5 hz5
    have hlen : ((bs.drop t).take j).length = j := by simp; omega
    have hlt := decN_lt ((bs.drop t).take j)
    rw [hlen] at hlt
    rw [or_up _ _ j hlt hb (by omega)] at hz5
    have e2 : decN ((bs.drop t).take (j + 1)) = decN ((bs.drop t).take j) + 256 ^ j * (bs.getD (t + j) default).toNat := by
      rw [take_succ_getD _ _ (by simp; omega), decN_append, hlen, drop_getD, decN_single]
    rw [← e2] at hz5
    subst hz5
    conv => whnf
    refine ⟨by omega, ?_⟩
    conv => whnf
    exact ⟨j + 1, ⟨rfl, rfl, rfl, rfl, rfl, trivial⟩, ⟨by omega, rfl⟩, by omega⟩
  · have h5 := df h5
    obtain rfl : j = k := by omega
    conv => whnf
    exact ⟨rfl, rfl⟩

end Go.Proofs.Ytgipackjnncabaa
