/- Memory: slices that read as lists, slices that a call owns, blocks known whole; append, make, copy, strings out of bytes. -/
import Derived.Test.YtgipackjnncabaaVcS
import Derived.Maps.AppendAt
import Derived.Laws.OwnMore
import Derived.Laws.MakeOwn
import Derived.Laws.CopyOwn
import Derived.Laws.CopyRow
import Derived.Laws.BytesString
import Derived.Laws.Strings
set_option linter.unusedSimpArgs false
set_option linter.unusedVariables false
namespace Go.Vc
open Go.RowKit

/-! ### Values -/
def u8v (x : BitVec 8) : Value := .int .u8 x.toNat
def u32v (x : BitVec 32) : Value := .int .u32 x.toNat

/-! ### What is kept -/
/-- the world is only larger -/
abbrev Ext (w w' : World) : Prop := Below w.heap.size w w'
theorem Ext.refl (w : World) : Ext w w := Below.refl _ _
theorem Ext.trans {a b c : World} (h : Ext a b) (k : Ext b c) : Ext a c := Below.trans h (k.mono h.size)
theorem Ext.new (w : World) (o : Obj) : Ext w (w.alloc o) := (Below.refl _ _).alloc (Nat.le_refl _) o
theorem Below.ext {B : Nat} {a b c : World} (h : Below B a b) (hB : B ≤ b.heap.size) (k : Ext b c) : Below B a c := h.trans (k.mono hB)

theorem cell_lt {w : World} {b o : Nat} {v : Value} (h : w.cell? ⟨b, o, none⟩ = some v) : b < w.heap.size := by
  rcases Nat.lt_or_ge b w.heap.size with h' | h'
  · exact h'
  · unfold World.cell? at h
    rw [Array.getElem?_eq_none h'] at h
    cases h

theorem Below.cell_of {B : Nat} {w w' : World} (h : Below B w w') {b o : Nat} {v : Value} (hb : b < B) (hc : w.cell? ⟨b, o, none⟩ = some v) : w'.cell? ⟨b, o, none⟩ = some v := by
  rw [h.cell (p := ⟨b, o, none⟩) hb]; exact hc

/-! ### A slice that reads as a list -/
def Sl {α : Type} (f : α → Value) (w : World) (a : Option Addr) (xs : List α) : Prop :=
  xs = [] ∨ ∃ b o, a = some ⟨b, o, none⟩ ∧ ∀ i x, xs[i]? = some x → w.cell? ⟨b, o + i, none⟩ = some (f x)

section
variable {α : Type} {f : α → Value} {w w' : World} {a : Option Addr} {xs ys : List α}

theorem Sl.nil (f : α → Value) (w : World) (a : Option Addr) : Sl f w a [] := .inl rfl

/-- all of it lies below block number B -/
def SlB {α : Type} (f : α → Value) (w : World) (B : Nat) (a : Option Addr) (xs : List α) : Prop :=
  Sl f w a xs ∧ (xs ≠ [] → ∀ p, a = some p → p.block < B)

theorem Sl.keep (h : Sl f w a xs) {B : Nat} (hk : Below B w w') (hB : w.heap.size ≤ B) : Sl f w' a xs := by
  rcases h with h | ⟨b, o, ha, hc⟩
  · exact .inl h
  · exact .inr ⟨b, o, ha, fun i x hx => Below.cell_of hk (Nat.lt_of_lt_of_le (cell_lt (hc i x hx)) hB) (hc i x hx)⟩
theorem Sl.ext (h : Sl f w a xs) (hk : Ext w w') : Sl f w' a xs := h.keep hk (Nat.le_refl _)
/-- a reading in an elder world is one in each later world of a call -/
theorem Sl.below {w0 : World} (h : Sl f w0 a xs) (hk : Below w0.heap.size w0 w) : Sl f w a xs := h.keep hk (Nat.le_refl _)

theorem Sl.at [Inhabited α] (h : Sl f w a xs) (i : Int) (h0 : 0 ≤ i) (h1 : i < xs.length) :
    ∃ b o, a = some ⟨b, o, none⟩ ∧ w.cell? ⟨b, o + i.toNat, none⟩ = some (f (xs.getD i.toNat default)) := by
  rcases h with h | ⟨b, o, ha, hc⟩
  · subst h; simp at h1; omega
  · refine ⟨b, o, ha, hc _ _ ?_⟩
    have : i.toNat < xs.length := by omega
    simp [List.getD, List.getElem?_eq_getElem this]

theorem Sl.take (h : Sl f w a xs) (n : Nat) : Sl f w a (xs.take n) := by
  rcases h with h | ⟨b, o, ha, hc⟩
  · subst h; exact .inl (by simp)
  · refine .inr ⟨b, o, ha, fun i x hx => hc i x ?_⟩
    rw [List.getElem?_take] at hx
    split at hx
    · exact hx
    · cases hx

theorem Sl.drop (h : Sl f w a xs) (n c : Nat) (hc : xs.length ≤ c) : Sl f w (if c = n then a else a.map (·.add (n * 1))) (xs.drop n) := by
  rcases h with h | ⟨b, o, ha, hcell⟩
  · subst h; exact .inl (by simp)
  · by_cases e : c = n
    · exact .inl (by subst e; exact List.drop_eq_nil_of_le hc)
    · rw [if_neg e]
      refine .inr ⟨b, o + n, by rw [ha]; simp [addr_add], fun i x hx => ?_⟩
      rw [List.getElem?_drop] at hx
      have := hcell _ _ hx
      rw [Nat.add_assoc]; exact this

/-- the cells that lie at an address -/
theorem Sl.cells (h : Sl f w a xs) : ∀ p, a = some p → ∀ (j : Nat) (u : Value), (xs.map f)[j]? = some u → w.cell? (p.add j) = some u := by
  intro p hp j u hu
  rcases h with h | ⟨b, o, ha, hc⟩
  · subst h; simp at hu
  · rw [hp] at ha
    cases ha
    rw [addr_add]
    rw [List.getElem?_map] at hu
    cases hx : xs[j]? with
    | none => rw [hx] at hu; cases hu
    | some x => rw [hx] at hu; cases hu; exact hc j x hx
end

/-! ### A slice that the call owns: at the head of a row of its own, from block B on -/
def Own {α : Type} (T : TypeId) (f : α → Value) (B : Nat) (w : World) (a : Option Addr) (c : Nat) (xs : List α) : Prop :=
  w.ownsRow B T 1 (.slice a xs.length c) xs.length (xs.map f)

def blockOf (a : Option Addr) : Option Nat := a.map (·.block)

section
variable {α : Type} {T : TypeId} {f : α → Value} {B : Nat} {w w' : World} {a : Option Addr} {c : Nat} {xs ys : List α}

theorem Own.nil (T : TypeId) (f : α → Value) (B : Nat) (w : World) : Own T f B w none 0 [] := World.ownsRow_nil w B T 1

theorem Own.form (h : Own T f B w a c xs) : (a = none ∧ c = 0 ∧ xs = []) ∨ ∃ g cur, a = some ⟨g, 0, none⟩ ∧ B ≤ g ∧ g < w.heap.size ∧ w.heap[g]? = some (.cells cur T (0, 0)) ∧ xs.length ≤ c ∧ c ≤ maxLen ∧ cur.size = c ∧ cur.toList.take xs.length = xs.map f := by
  obtain ⟨h1, h2⟩ := h
  rcases h2 with ⟨h2, h3⟩ | ⟨g, cap, cur, hv, hB, hh, hn, hc, hs, ht⟩
  · injection h2 with e1 e2 e3
    exact .inl ⟨e1, e3, List.eq_nil_of_length_eq_zero h3⟩
  · injection hv with e1 e2 e3
    subst e3
    refine .inr ⟨g, cur, e1, hB, ?_, hh, hn, hc, by simpa using hs, by simpa using ht⟩
    rcases Nat.lt_or_ge g w.heap.size with h' | h'
    · exact h'
    · rw [Array.getElem?_eq_none h'] at hh; cases hh

theorem cell_row {w : World} {g i : Nat} {cur : Array Value} {T : TypeId} {fr : Nat × Nat} (h : w.heap[g]? = some (.cells cur T fr)) : w.cell? ⟨g, i, none⟩ = cur[i]? := by
  simp [World.cell?, h]

theorem Own.sl (h : Own T f B w a c xs) : Sl f w a xs := by
  rcases h.form with ⟨_, _, h3⟩ | ⟨g, cur, ha, _, _, hh, _, _, hs, ht⟩
  · exact .inl h3
  · refine .inr ⟨g, 0, ha, fun i x hx => ?_⟩
    rw [cell_row hh, Nat.zero_add]
    have hi : i < xs.length := by
      rcases Nat.lt_or_ge i xs.length with h' | h'
      · exact h'
      · rw [List.getElem?_eq_none h'] at hx; cases hx
    have h4 : (cur.toList.take xs.length)[i]? = some (f x) := by rw [ht, List.getElem?_map, hx]; rfl
    rw [List.getElem?_take, if_pos hi] at h4
    simpa using h4

theorem Own.ge (h : Own T f B w a c xs) : ∀ g, blockOf a = some g → B ≤ g ∧ g < w.heap.size := by
  intro g hg
  rcases h.form with ⟨h1, _, _⟩ | ⟨g', cur, ha, h2, h3, _⟩
  · subst h1; cases hg
  · subst ha; cases hg; exact ⟨h2, h3⟩

theorem Own.le (h : Own T f B w a c xs) : xs.length ≤ c ∧ c ≤ maxLen := by
  rcases h.form with ⟨_, h2, h3⟩ | ⟨g, cur, _, _, _, _, h4, h5, _⟩
  · subst h3; subst h2; exact ⟨Nat.le_refl _, Nat.zero_le _⟩
  · exact ⟨h4, h5⟩

/-- kept where its own block is -/
theorem Own.keep (h : Own T f B w a c xs) (hk : ∀ g, blockOf a = some g → w'.heap[g]? = w.heap[g]?) : Own T f B w' a c xs := by
  obtain ⟨h1, h2⟩ := h
  refine ⟨h1, ?_⟩
  rcases h2 with h2 | ⟨g, cap, cur, hv, hB, hh, r⟩
  · exact .inl h2
  · refine .inr ⟨g, cap, cur, hv, hB, ?_, r⟩
    injection hv with e1
    rw [hk g (by rw [e1]; rfl)]
    exact hh
theorem Own.ext (h : Own T f B w a c xs) (hk : Ext w w') : Own T f B w' a c xs := h.keep fun g hg => hk.block g (h.ge g hg).2
theorem Own.alloc (h : Own T f B w a c xs) (o : Obj) : Own T f B (w.alloc o) a c xs := h.ext (Ext.new w o)
theorem Own.base (h : Own T f B w a c xs) {B' : Nat} (hB : B' ≤ B) : Own T f B' w a c xs := by
  obtain ⟨h1, h2⟩ := h
  refine ⟨h1, ?_⟩
  rcases h2 with h2 | ⟨g, cap, cur, hv, hB', r⟩
  · exact .inl h2
  · exact .inr ⟨g, cap, cur, hv, by omega, r⟩
end

/-- The world after something was written into block 'row' alone (or new blocks were made). -/
abbrev Gr (w w' : World) (row : Option Nat) : Prop := w.grownBy w' row
theorem Gr.below {w0 w w' : World} {row : Option Nat} {B : Nat} (h : Gr w w' row) (hb : Below B w0 w) (hB : B ≤ w.heap.size) (hr : ∀ g, row = some g → B ≤ g) : Below B w0 w' := hb.grown h hB hr
theorem Gr.keepOwn {α : Type} {T : TypeId} {f : α → Value} {B c : Nat} {w w' : World} {a : Option Addr} {xs : List α} {row : Option Nat} (h : Gr w w' row) (ho : Own T f B w a c xs) (hne : ∀ g, blockOf a = some g → row ≠ some g) : Own T f B w' a c xs :=
  ho.keep fun g hg => h.block g (ho.ge g hg).2 (fun e => hne g hg e.symm)
theorem Gr.keepSl {α : Type} {f : α → Value} {w w' : World} {a : Option Addr} {xs : List α} {row : Option Nat} (h : Gr w w' row) (ho : Sl f w a xs) (hne : xs ≠ [] → ∀ g, blockOf a = some g → row ≠ some g) : Sl f w' a xs := by
  rcases ho with ho | ⟨b, o, ha, hc⟩
  · exact .inl ho
  · by_cases he : xs = []
    · exact .inl he
    · refine .inr ⟨b, o, ha, fun i x hx => ?_⟩
      have hb := hc i x hx
      have := hne he b (by rw [ha]; rfl)
      rw [World.cell?_of_block (w := w) (a := ⟨b, o + i, none⟩) (h.block b (cell_lt hb) (fun e => this e.symm))]
      exact hb

/-! ### The element types -/
structure Elem (P : Program) (t e : TypeId) : Prop where
  und : P.underlying t = some (.slice e)
  info : ∃ i z, P.info? e = some i ∧ i.zero = some z ∧ i.size = 1 ∧ i.bytes ≤ 24 ∧ z.cells.size = 1

theorem mapOne {α : Type} {f : α → Value} (h1 : ∀ x, (f x).oneCell' = true) (xs : List α) : ∀ u ∈ xs.map f, u.oneCell' = true := by
  intro u hu
  obtain ⟨x, _, rfl⟩ := List.mem_map.1 hu
  exact h1 x

/-- append onto a slice of the call's own -/
theorem Own.append {α : Type} {P : Program} {t e ty : TypeId} (he : Elem P t e) {f : α → Value} (h1 : ∀ x, (f x).oneCell' = true) {B : Nat} {w : World} {a : Option Addr} {c : Nat} {xs : List α} (h : Own e f B w a c xs)
    {b : Option Addr} {d : Nat} {ys : List α} (hy : Sl f w b ys) (hlen : xs.length + ys.length ≤ 4294967296) (hB : B ≤ w.heap.size) :
    ∃ a' c' w', (Builtin.append_ #[t, t] ty #[.slice a xs.length c, .slice b ys.length d]).run P w = .ok (.slice a' (xs ++ ys).length c') w' ∧ Own e f B w' a' c' (xs ++ ys) ∧ Gr w w' (blockOf a) ∧
      (blockOf a' = blockOf a ∨ blockOf a' = some w.heap.size) := by
  obtain ⟨i, z, hi, hz, hs, hby, hzc⟩ := he.info
  have hown : w.ownsRow B e 1 (.slice a xs.length c) xs.length (xs.map f) := h
  have hml : xs.length + ys.length ≤ maxLen := by unfold maxLen; omega
  have hbt : (xs.length + ys.length) * i.bytes ≤ 140737488355328 := by
    have := Nat.mul_le_mul hlen hby
    omega
  have hob : (Value.slice a xs.length c).ownBlock = blockOf a := by cases a <;> rfl
  have fin : ∀ v' w', w'.ownsRow B e 1 v' (xs.length + ys.length) (xs.map f ++ ys.map f) → ∃ a' c', v' = .slice a' (xs ++ ys).length c' ∧ Own e f B w' a' c' (xs ++ ys) := by
    intro v' w' hv
    have hv2 := hv.2
    rcases hv2 with ⟨rfl, hn⟩ | ⟨g, cap, cur, rfl, _⟩
    · refine ⟨none, 0, by rw [List.length_append, hn], ?_⟩
      unfold Own
      rw [List.length_append, hn] at *
      rw [List.map_append]; exact hv
    · refine ⟨some ⟨g, 0, none⟩, cap, by rw [List.length_append], ?_⟩
      unfold Own
      rw [List.length_append, List.map_append]; exact hv
  rcases b with _ | p
  · have hy0 : ys = [] := by
      rcases hy with hy | ⟨b, o, hb, _⟩
      · exact hy
      · cases hb
    subst hy0
    refine ⟨a, c, w, ?_, by simpa using h, World.grownBy.refl w _, .inl rfl⟩
    simp only [List.append_nil, List.length_nil]
    rcases hown.2 with ⟨hv, hn⟩ | ⟨g, cap, cur, hv, _, _, hnc, _⟩
    · rw [hv]
      injection hv with e1 e2 e3
      simp [Builtin.append_, run_underlying he.und, run_size hi, Builtin.lenOf, Builtin.firstCells]
    · rw [hv]
      injection hv with e1 e2 e3
      simp [Builtin.append_, run_underlying he.und, run_size hi, Builtin.lenOf, Builtin.firstCells, hnc, storeCells]
  · obtain ⟨v', w', hrun, h2, h3, _, h5⟩ := run_append_own_at (P := P) w B t ty e i z 1 i.bytes he.und hi hz hs rfl hzc (by omega) _ _ _ hown p ys.length d (ys.map f) (by simp) (hy.cells p rfl) (mapOne h1 ys) hml hbt hB
    obtain ⟨a', c', rfl, ho⟩ := fin v' w' h2
    have hob' : (Value.slice a' (xs ++ ys).length c').ownBlock = blockOf a' := by cases a' <;> rfl
    rw [hob] at h3
    refine ⟨a', c', w', hrun, ho, h3, ?_⟩
    rw [hob', hob] at h5
    exact h5

theorem run_newRow {P : Program} (e : TypeId) (cells : Array Value) (w : World) : (newRow e cells).run P w = .ok ⟨w.heap.size, 0, none⟩ (w.alloc (.cells cells e)) := rfl

/-- a slice literal of one element -/
theorem run_build1 {P : Program} {t e : TypeId} (he : Elem P t e) {v : Value} (h1 : v.oneCell' = true) (w : World) :
    (Instr.buildSlice t 1 #[(0, v)]).run P w = .ok (.slice (some ⟨w.heap.size, 0, none⟩) 1 1) (w.alloc (.cells #[v] e)) := by
  obtain ⟨i, z, hi, hz, hs, hby, hzc⟩ := he.info
  have hc : v.cells = #[v] := by cases v <;> first | rfl | (simp [Value.oneCell'] at h1)
  simp [Instr.buildSlice, run_underlying he.und, run_size hi, hs, run_zero hi hz, Instr.fill, hc, run_newRow]
  congr 2
  rw [show Array.range 1 = #[0] from rfl]
  simp

theorem Sl.one {α : Type} {f : α → Value} {e : TypeId} {v : Value} (x : α) (w : World) (hv : v = f x) : Sl f (w.alloc (.cells #[v] e)) (some ⟨w.heap.size, 0, none⟩) [x] := by
  subst hv
  refine .inr ⟨_, _, rfl, fun i y hy => ?_⟩
  rw [World.cell?_alloc_new, Nat.zero_add]
  match i, hy with
  | 0, hy => have : x = y := by simpa using hy
             subst this; rfl

/-! ### Strings out of bytes -/
def bstr (xs : List (BitVec 8)) : ByteArray := ⟨(xs.map UInt8.ofBitVec).toArray⟩

theorem foldl_push : ∀ (xs : List (BitVec 8)) (s : ByteArray), (xs.map fun x => ((x.toNat : Nat) : Int)).foldl (fun r n => r.push (UInt8.ofNat n.toNat)) s = ⟨s.data ++ (xs.map UInt8.ofBitVec).toArray⟩
  | [], s => by simp
  | x :: xs, s => by
    simp only [List.map_cons, List.foldl_cons]
    rw [foldl_push xs]
    have e : UInt8.ofNat (Int.toNat ((x.toNat : Nat) : Int)) = UInt8.ofBitVec x := by
      apply UInt8.toBitVec_inj.1
      apply BitVec.eq_of_toNat_eq
      simp
    rw [e]
    apply ByteArray.ext
    simp [ByteArray.push]

theorem run_toStr {P : Program} {w : World} {a : Option Addr} {c : Nat} {xs : List (BitVec 8)} (h : Sl u8v w a xs) :
    (Conv.bytesToString (.slice a xs.length c)).run P w = .ok (.string (bstr xs)) w := by
  rcases a with _ | p
  · have : xs = [] := by
      rcases h with h | ⟨b, o, hb, _⟩
      · exact h
      · cases hb
    subst this
    rfl
  · have hl := run_loadCells_list (P := P) w p (xs.map u8v) (h.cells p rfl)
    have e : xs.map u8v = (xs.map fun x => ((x.toNat : Nat) : Int)).map (Value.int .u8) := by simp [u8v]
    rw [List.length_map, e] at hl
    rw [run_bytesToString w p xs.length c _ hl, foldl_push]
    simp [bstr]

theorem bstr_inj {xs ys : List (BitVec 8)} : ((bstr xs).toList == (bstr ys).toList) = decide (xs = ys) := by
  have e : ∀ l : List (BitVec 8), (bstr l).toList = l.map UInt8.ofBitVec := by
    intro l
    rw [ByteArray.toList_eq]
    simp [bstr]
  rw [e, e, Bool.eq_iff_iff]
  simp only [beq_iff_eq, decide_eq_true_eq]
  constructor
  · intro h
    have := congrArg (List.map UInt8.toBitVec) h
    have e2 : (UInt8.toBitVec ∘ UInt8.ofBitVec) = id := funext fun x => rfl
    simpa [e2] using this
  · rintro rfl; rfl

theorem str_eq {β : Bool} {s t : ByteArray} {xs ys : List (BitVec 8)} (h : β = (s.toList == t.toList)) (hs : s = bstr xs) (ht : t = bstr ys) : β = decide (xs = ys) := by
  subst hs ht
  rw [h, bstr_inj]

/-! ### make, copy, a store into an owned slice -/
/-- the zero of the element type, as the list's element -/
structure ElemZ {α : Type} (P : Program) (t e : TypeId) (f : α → Value) (d : α) : Prop extends Elem P t e where
  zero : ∃ i, P.info? e = some i ∧ i.zero = some (f d)
  one : ∀ x, (f x).oneCell' = true

theorem run_makeOwn {α : Type} {P : Program} {t e : TypeId} {f : α → Value} {d : α} (he : ElemZ P t e f d) (B : Nat) (w : World) (hB : B ≤ w.heap.size) (n c : Nat) (hnc : n ≤ c) (hc : c ≤ 4294967296) :
    ∃ w', (Instr.makeSlice t (.int .i64 n) (.int .i64 c)).run P w = .ok (.slice (some ⟨w.heap.size, 0, none⟩) (List.replicate n d).length c) w' ∧
      Own e f B w' (some ⟨w.heap.size, 0, none⟩) c (List.replicate n d) ∧ Ext w w' := by
  obtain ⟨i, z, hi, hz, hs, hby, hzc⟩ := he.info
  obtain ⟨i', hi', hz'⟩ := he.zero
  rw [hi] at hi'; cases hi'
  have hb : (i.bytes : Int) * (c : Int) ≤ 281474976710656 := by
    have h1 : ((i.bytes * c : Nat) : Int) ≤ 281474976710656 := by
      have := Nat.mul_le_mul hby hc
      omega
    rwa [Int.natCast_mul] at h1
  have hr := run_make (P := P) w t e i (f d) he.und hi hz' .i64 .i64 n c (by omega) (by omega) hb (by omega)
  refine ⟨w.alloc (.cells (madeCells (f d).cells (c * i.size)) e), by rw [hr]; simp, ?_, Ext.new _ _⟩
  have hcells : (f d).cells = #[f d] := by
    have := he.one d
    generalize f d = v at this
    cases v <;> first | rfl | (simp [Value.oneCell'] at this)
  have hl : (madeCells (f d).cells (c * i.size)).toList = List.replicate c (f d) := by
    rw [hcells, hs, Nat.mul_one]
    exact toList_madeCells_one (f d) c
  refine ⟨by simp, .inr ⟨w.heap.size, c, madeCells (f d).cells (c * i.size), by simp, hB, heap_alloc_new w _, by simpa using hnc, by unfold maxLen; omega, by simp [size_madeCells, hs], ?_⟩⟩
  rw [hl]
  simp [Nat.min_eq_left hnc]

theorem splice_full {α : Type} (cur : List α) (vs : List α) : (cur.take 0 ++ vs ++ cur.drop (0 + vs.length)).take vs.length = vs := by simp

/-- all elements of an owned slice are written anew -/
theorem Own.setRow {α : Type} {T : TypeId} {f : α → Value} {B : Nat} {w : World} {g c : Nat} {xs : List α} (h : Own T f B w (some ⟨g, 0, none⟩) c xs) (ys : List α) (hl : ys.length = xs.length) (cur : Array Value)
    (hc : w.heap[g]? = some (.cells cur T (0, 0))) : Own T f B (w.setRow g ((cur.toList.take 0 ++ ys.map f ++ cur.toList.drop (0 + (ys.map f).length)).toArray)) (some ⟨g, 0, none⟩) c ys := by
  obtain ⟨h1, h2⟩ := h
  refine ⟨by simp, ?_⟩
  rcases h2 with ⟨h2, _⟩ | ⟨g', cap, cur', hv, hB, hh, hn, hcm, hs, ht⟩
  · cases h2
  · injection hv with e1 e2 e3
    cases e1
    rw [hc] at hh
    injection hh with hh
    injection hh with hh
    subst hh
    subst e3
    refine .inr ⟨g, c, _, rfl, hB, setRow_heap w g _ _ T _ hc, by omega, hcm, ?_, by simp⟩
    simp at hs ⊢
    omega

theorem gr_setRow (w : World) (g : Nat) (cs : Array Value) : Gr w (w.setRow g cs) (some g) :=
  ⟨rfl, rfl, rfl, by simp [World.setRow], fun k hk hne => by
    simp only [World.setRow, Array.getElem?_modify]
    rw [if_neg (fun e => hne (by rw [e]))]⟩

theorem Own.copy {α : Type} {P : Program} {t e u ty : TypeId} (he : Elem P t e) {f : α → Value} (h1 : ∀ x, (f x).oneCell' = true) {B : Nat} {w : World} {a : Option Addr} {c : Nat} {xs : List α} (h : Own e f B w a c xs)
    {b : Option Addr} {d : Nat} {ys : List α} (hy : Sl f w b ys) (hl : ys.length = xs.length) :
    ∃ w', (Builtin.copy_ #[t, u] ty #[.slice a xs.length c, .slice b ys.length d]).run P w = .ok (.int .i64 ys.length) w' ∧ Own e f B w' a c ys ∧ Gr w w' (blockOf a) := by
  obtain ⟨i, z, hi, hz, hs, hby, hzc⟩ := he.info
  by_cases h0 : ys = []
  · subst h0
    have hx : xs = [] := List.eq_nil_of_length_eq_zero (by simpa using hl.symm)
    subst hx
    refine ⟨w, ?_, h, World.grownBy.refl w _⟩
    cases a <;> cases b <;> simp [Builtin.copy_, run_underlying he.und, Builtin.lenOf, Builtin.firstCells, run_size hi, hs, storeCells, goInt, loadCells, loadCellsFrom]
  · rcases h.form with ⟨_, _, h3⟩ | ⟨g, cur, ha, hB, hg, hh, hlc, hcm, hsz, ht⟩
    · subst h3; exact absurd (List.eq_nil_of_length_eq_zero (by simpa using hl)) h0
    · subst ha
      rcases b with _ | p
      · rcases hy with hy | ⟨_, _, hb, _⟩
        · exact absurd hy h0
        · cases hb
      · have hr := run_copy_row (P := P) w t u ty e g 0 xs.length c p ys.length d cur e (ys.map f) he.und (by rw [hi]; simp [hs]) hh (by simp [hl]) (hy.cells p rfl) (by simp; omega) (mapOne h1 ys)
        refine ⟨_, by rw [hr]; simp [goInt], h.setRow ys hl cur hh, gr_setRow _ _ _⟩

theorem oneCell_cells {v : Value} (h : v.oneCell' = true) : v.cells = #[v] := by cases v <;> first | rfl | (simp [Value.oneCell'] at h)

/-- one element of an owned slice is written anew -/
theorem Own.store {α : Type} {T : TypeId} {f : α → Value} {B : Nat} {w : World} {a : Option Addr} {c : Nat} {xs : List α} (h : Own T f B w a c xs) (i : Int) (h0 : 0 ≤ i) (h1 : i < xs.length) :
    ∃ g, a = some ⟨g, 0, none⟩ ∧ (w.cell? ⟨g, 0 + i.toNat, none⟩).isSome = true ∧ w.frozen? ⟨g, 0 + i.toNat, none⟩ = false ∧ B ≤ g ∧ g < w.heap.size ∧
      ∀ x, Own T f B (w.setCell ⟨g, 0 + i.toNat, none⟩ (f x)) a c (xs.set i.toNat x) ∧ Gr w (w.setCell ⟨g, 0 + i.toNat, none⟩ (f x)) (some g) := by
  rcases h.form with ⟨_, _, h3⟩ | ⟨g, cur, ha, hB, hg, hh, hlc, hcm, hsz, ht⟩
  · subst h3; simp at h1; omega
  · have hi : i.toNat < xs.length := by omega
    refine ⟨g, ha, ?_, by simp [World.frozen?, hh], hB, hg, fun x => ⟨?_, ?_⟩⟩
    · rw [cell_row hh]; simp; omega
    · subst ha
      refine ⟨by simp, .inr ⟨g, c, cur.setIfInBounds i.toNat (f x), by simp, hB, ?_, by simpa using hlc, hcm, by simpa using hsz, ?_⟩⟩
      · simp [World.setCell, Array.getElem?_modify, hh]
      · simp only [List.length_set, Nat.mul_one, Array.toList_setIfInBounds, List.map_set]
        rw [← ht, List.take_set]
    · exact ⟨rfl, rfl, rfl, by simp [World.setCell], fun k hk hne => Below.heap_setCell _ _ _ _ (fun e => hne (by rw [e]))⟩

/-! ### small things on frames -/
theorem Gr.step {w w1 w2 : World} {row row' : Option Nat} (h : Gr w w1 row) (k : Gr w1 w2 row') (hr : row' = row ∨ ∀ g, row' = some g → w.heap.size ≤ g) : Gr w w2 row :=
  ⟨k.os.trans h.os, k.tape.trans h.tape, k.output.trans h.output, Nat.le_trans h.size k.size, fun i hi hne => by
    rw [k.block i (Nat.lt_of_lt_of_le hi h.size) (fun e => ?_), h.block i hi hne]
    rcases hr with hr | hr
    · exact hne (by rw [e, hr])
    · have := hr i e.symm; omega⟩
theorem Gr.refl (w : World) (row : Option Nat) : Gr w w row := World.grownBy.refl w row
theorem Gr.ofExt {w w' : World} (h : Ext w w') (row : Option Nat) : Gr w w' row := ⟨h.os, h.tape, h.output, h.size, fun k hk _ => h.block k hk⟩
theorem Gr.alloc (w : World) (o : Obj) (row : Option Nat) : Gr w (w.alloc o) row := Gr.ofExt (Ext.new w o) row
theorem Gr.ext {w w' : World} (h : Gr w w' none) : Ext w w' := ⟨h.os, h.tape, h.output, h.size, fun k hk => h.block k hk (by simp)⟩
theorem Ext.drew (w : World) : Ext w w.drew := (Below.refl _ _).drew
/-- what was written lies in a block that was not there -/
theorem Gr.extOf {w0 w w' : World} {row : Option Nat} (h : Gr w w' row) (hb : Ext w0 w) (hr : ∀ g, row = some g → w0.heap.size ≤ g) : Ext w0 w' := h.below hb hb.size hr

end Go.Vc
