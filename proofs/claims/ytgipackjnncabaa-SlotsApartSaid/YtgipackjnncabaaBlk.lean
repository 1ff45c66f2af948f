/- Blocks known whole: boxes and structs that a call owns; what is written in a list of blocks. -/
import Derived.Test.YtgipackjnncabaaMem
set_option linter.unusedSimpArgs false
set_option linter.unusedVariables false
namespace Go.Vc
open Go.RowKit

/-- block b is a row of just these cells -/
def Blk (w : World) (b : Nat) (T : TypeId) (vs : List Value) : Prop := w.heap[b]? = some (.cells vs.toArray T (0, 0))

section
variable {w w' : World} {b : Nat} {T : TypeId} {vs : List Value}

theorem Blk.lt (h : Blk w b T vs) : b < w.heap.size := by
  rcases Nat.lt_or_ge b w.heap.size with h' | h'
  · exact h'
  · unfold Blk at h; rw [Array.getElem?_eq_none h'] at h; cases h
theorem Blk.new (w : World) (T : TypeId) (vs : List Value) : Blk (w.alloc (.cells vs.toArray T)) w.heap.size T vs := heap_alloc_new w _
theorem Blk.cell (h : Blk w b T vs) {i : Nat} {v : Value} (hv : vs[i]? = some v) : w.cell? ⟨b, 0 + i, none⟩ = some v := by
  rw [cell_row h, Nat.zero_add, List.getElem?_toArray]; exact hv
theorem Blk.cell0 (h : Blk w b T vs) {v : Value} (hv : vs[0]? = some v) : w.cell? ⟨b, 0, none⟩ = some v := h.cell (i := 0) hv
theorem Blk.cells (h : Blk w b T vs) : CellsAt w b 0 vs := fun i v hv => h.cell hv
theorem Blk.frozen (h : Blk w b T vs) (i : Nat) : w.frozen? ⟨b, i, none⟩ = false := by
  have h' : w.heap[b]? = some (.cells vs.toArray T (0, 0)) := h
  simp [World.frozen?, h']
theorem Blk.keep (h : Blk w b T vs) (hk : w'.heap[b]? = w.heap[b]?) : Blk w' b T vs := by unfold Blk; rw [hk]; exact h
theorem Blk.ext (h : Blk w b T vs) (hk : Ext w w') : Blk w' b T vs := h.keep (hk.block b h.lt)
theorem Blk.set (h : Blk w b T vs) (i : Nat) (v : Value) : Blk (w.setCell ⟨b, 0 + i, none⟩ v) b T (vs.set i v) := by
  have h' : w.heap[b]? = some (.cells vs.toArray T (0, 0)) := h
  unfold Blk
  rw [Nat.zero_add]
  simp [World.setCell, Array.getElem?_modify, h']
theorem Blk.can (h : Blk w b T vs) (i : Nat) (hi : i < vs.length) (v : Value) (hv : v.oneCell' = true) :
    v.oneCell' = true ∧ (w.cell? ⟨b, 0 + i, none⟩).isSome = true ∧ w.frozen? ⟨b, 0 + i, none⟩ = false :=
  ⟨hv, by rw [h.cell (List.getElem?_eq_getElem hi)]; rfl, h.frozen _⟩
end

theorem gr_setCell (w : World) (b i : Nat) (v : Value) : Gr w (w.setCell ⟨b, i, none⟩ v) (some b) :=
  ⟨rfl, rfl, rfl, by simp [World.setCell], fun k hk hne => Below.heap_setCell _ _ _ _ (fun e => hne (by rw [e]))⟩

theorem gr_of_set {w w2 : World} {b i : Nat} {v : Value} (h : w2 = w.setCell ⟨b, i, none⟩ v) : Gr w w2 (some b) := by
  rw [h]; exact gr_setCell _ _ _ _

/-- a struct is stored into a block known whole -/
theorem Blk.storeAgg {L : Lay} {P : Program} (hL : L.Ok P) {w : World} {b : Nat} {T t : TypeId} {vs us : List Value} (h : Blk w b T vs) (ht : L.agg t = some us.length) (off : Nat) (hoff : off + us.length ≤ vs.length) (h1 : ∀ u ∈ us, u.oneCell' = true) :
    ∃ w', (Instr.storeAt t (.pointer (some ⟨b, off, none⟩)) (.agg us.toArray)).run P w = .ok () w' ∧ Blk w' b T (vs.take off ++ us ++ vs.drop (off + us.length)) ∧ Gr w w' (some b) := by
  obtain ⟨d, hu, hd, i, hi, hsz⟩ := hL.agg _ _ ht
  have hr := run_storeCells_at (P := P) b off T us 0 vs.toArray w h (by simpa using hoff) h1
  refine ⟨w.setRow b (vs.take off ++ us ++ vs.drop (off + us.length)).toArray, ?_, ?_, gr_setRow _ _ _⟩
  · simp only [Instr.storeAt, Instr.sureAddr, storeVar, Value.cells]
    simp only [Nat.add_zero, List.toList_toArray] at hr
    simp [run_size hi, hsz]
    simpa using hr
  · unfold Blk
    rw [setRow_heap w b _ _ T _ h]
theorem Blk.cellsAt {w : World} {b : Nat} {T : TypeId} {vs : List Value} (h : Blk w b T vs) (off : Nat) (us : List Value) (hu : ∀ i v, us[i]? = some v → vs[off + i]? = some v) : CellsAt w b (0 + off) us := fun i v hv => by
  rw [Nat.add_assoc]; exact h.cell (hu i v hv)

section
variable {α : Type} {T : TypeId} {f : α → Value} {B : Nat} {w : World} {g c : Nat} {xs : List α}
/-- an element of an owned slice is read -/
theorem Own.cellAt (h : Own T f B w (some ⟨g, 0, none⟩) c xs) {i : Nat} {x : α} (hx : xs[i]? = some x) : w.cell? ⟨g, 0 + i, none⟩ = some (f x) := by
  rcases h.sl with h1 | ⟨b, o, ha, hc⟩
  · subst h1; simp at hx
  · cases ha; exact hc i x hx
theorem Own.storeAt (h : Own T f B w (some ⟨g, 0, none⟩) c xs) (i : Nat) (hi : i < xs.length) :
    ((w.cell? ⟨g, 0 + i, none⟩).isSome = true ∧ w.frozen? ⟨g, 0 + i, none⟩ = false) ∧ ∀ x w', w' = w.setCell ⟨g, 0 + i, none⟩ (f x) → Own T f B w' (some ⟨g, 0, none⟩) c (xs.set i x) ∧ Gr w w' (some g) := by
  obtain ⟨g', hg, h1, h2, _, _, h3⟩ := h.store (i : Int) (by omega) (by omega)
  cases hg
  rw [Int.toNat_natCast] at h1 h2
  refine ⟨⟨h1, h2⟩, fun x w' hw => ?_⟩
  have h4 := h3 x
  rw [Int.toNat_natCast, ← hw] at h4
  exact h4
theorem Own.lt (h : Own T f B w (some ⟨g, 0, none⟩) c xs) : B ≤ g ∧ g < w.heap.size := h.ge g rfl
end

/-- The world after something was written into the listed blocks (or new blocks were made). -/
structure Mod (S : Nat → Prop) (w w' : World) : Prop where
  os : w'.os = w.os
  tape : w'.tape = w.tape
  output : w'.output = w.output
  size : w.heap.size ≤ w'.heap.size
  block : ∀ k, k < w.heap.size → ¬ S k → w'.heap[k]? = w.heap[k]?

section
variable {S : Nat → Prop} {a b c : World}
theorem Mod.refl (S : Nat → Prop) (w : World) : Mod S w w := ⟨rfl, rfl, rfl, Nat.le_refl _, fun _ _ _ => rfl⟩
theorem Mod.trans (h : Mod S a b) (k : Mod S b c) : Mod S a c :=
  ⟨k.os.trans h.os, k.tape.trans h.tape, k.output.trans h.output, Nat.le_trans h.size k.size, fun i hi hn => by
    rw [k.block i (Nat.lt_of_lt_of_le hi h.size) hn, h.block i hi hn]⟩
theorem Mod.ofGr {row : Option Nat} (h : Gr a b row) (hr : ∀ g, row = some g → S g) : Mod S a b :=
  ⟨h.os, h.tape, h.output, h.size, fun k hk hn => h.block k hk fun e => hn (hr k e.symm)⟩
theorem Mod.ofExt (S : Nat → Prop) (h : Ext a b) : Mod S a b := ⟨h.os, h.tape, h.output, h.size, fun k hk _ => h.block k hk⟩
/-- what was written is new to an elder world -/
theorem Mod.above {w0 : World} (h : Mod S b c) (hb : Ext w0 b) (hr : ∀ g, S g → w0.heap.size ≤ g) : Ext w0 c :=
  ⟨h.os.trans hb.os, h.tape.trans hb.tape, h.output.trans hb.output, Nat.le_trans hb.size h.size, fun k hk => by
    rw [h.block k (Nat.lt_of_lt_of_le hk hb.size) (fun hs => absurd (hr k hs) (by omega)), hb.block k hk]⟩
theorem Mod.sub {S' : Nat → Prop} (h : Mod S a b) (hs : ∀ k, k < a.heap.size → S k → S' k) : Mod S' a b :=
  ⟨h.os, h.tape, h.output, h.size, fun k hk hn => h.block k hk fun e => hn (hs k hk e)⟩
theorem Mod.keepBlk {g : Nat} {T : TypeId} {vs : List Value} (h : Mod S a b) (hb : Blk a g T vs) (hn : ¬ S g) : Blk b g T vs := hb.keep (h.block g hb.lt hn)
theorem Mod.keepOwn {α : Type} {T : TypeId} {f : α → Value} {B c : Nat} {p : Option Addr} {xs : List α} (h : Mod S a b) (ho : Own T f B a p c xs) (hn : ∀ g, blockOf p = some g → ¬ S g) : Own T f B b p c xs :=
  ho.keep fun g hg => h.block g (ho.ge g hg).2 (hn g hg)
theorem Mod.keepSl {α : Type} {f : α → Value} {p : Option Addr} {xs : List α} (h : Mod S a b) (ho : Sl f a p xs) (hn : xs ≠ [] → ∀ g, blockOf p = some g → ¬ S g) : Sl f b p xs := by
  rcases ho with ho | ⟨g, o, ha, hc⟩
  · exact .inl ho
  · by_cases he : xs = []
    · exact .inl he
    · refine .inr ⟨g, o, ha, fun i x hx => ?_⟩
      have hb := hc i x hx
      have := hn he g (by rw [ha]; rfl)
      rw [World.cell?_of_block (w := a) (a := ⟨g, o + i, none⟩) (h.block g (cell_lt hb) this)]
      exact hb
end
end Go.Vc
