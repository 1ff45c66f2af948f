/- Walks of layer 2, fourth part: literals, signs, what must come of fixed calls. -/
import Derived.Test.YtgipackjnncabaaW02c
set_option linter.unusedVariables false
set_option linter.unusedSimpArgs false
namespace Go.Vc
open Go.RowKit

theorem fill_one {cells : Array Value} {k : Nat} {v : Value} (h1 : v.oneCell' = true) (hk : k < cells.size) (rest : List (Nat × Value)) :
    Instr.fill (fun i => some (i * 1, 1)) cells ((k, v) :: rest) = Instr.fill (fun i => some (i * 1, 1)) (cells.setIfInBounds k v) rest := by
  have hc := oneCell_cells h1
  have h2 : ¬ (k + 1 > cells.size) := by omega
  simp [Instr.fill, hc, h2]

theorem fill_all : ∀ (vs : List Value) (k : Nat) (cells : Array Value), (∀ v ∈ vs, v.oneCell' = true) → cells.size = k + vs.length →
    Instr.fill (fun i => some (i * 1, 1)) cells ((vs.zipIdx k).map fun (v, i) => (i, v)) = some (cells.toList.take k ++ vs).toArray
  | [], k, cells, _, hs => by
    simp only [List.zipIdx_nil, List.map_nil, Instr.fill, List.append_nil]
    rw [List.take_of_length_le (by simp at hs ⊢; omega)]
  | v :: vs, k, cells, h1, hs => by
    simp only [List.zipIdx_cons, List.map_cons]
    rw [fill_one (h1 v (by simp)) (by simp at hs; omega), fill_all vs (k + 1) _ (fun u hu => h1 u (by simp [hu])) (by simp at hs ⊢; omega)]
    congr 2
    simp only [Array.toList_setIfInBounds]
    have hk : k < cells.toList.length := by simp at hs ⊢; omega
    rw [List.take_succ_eq_append_getElem (by simpa using hk)]
    rw [List.take_set, List.set_eq_of_length_le (by simp; omega)]
    simp

/-- a slice literal -/
theorem run_buildN {P : Program} {t e : TypeId} (he : Elem P t e) (vs : List Value) (h1 : ∀ v ∈ vs, v.oneCell' = true) (hl : vs.length ≤ 16777216) (w : World) :
    (Instr.buildSlice t vs.length ((vs.zipIdx 0).map fun (v, i) => (i, v)).toArray).run P w = .ok (.slice (some ⟨w.heap.size, 0, none⟩) vs.length vs.length) (w.alloc (.cells vs.toArray e)) := by
  obtain ⟨i, z, hi, hz, hs, hby, hzc⟩ := he.info
  have key : ∀ cells : Array Value, cells.size = vs.length → Instr.fill (fun i => some (i * 1, 1)) cells ((vs.zipIdx 0).map fun (v, i) => (i, v)) = some vs.toArray := by
    intro cells hc
    have := fill_all vs 0 cells h1 (by omega)
    simpa using this
  have hbig : ¬ (16777216 < vs.length) := by omega
  by_cases h0 : vs = []
  · subst h0
    have k0 := key #[] rfl
    simp only [List.zipIdx_nil, List.map_nil] at k0
    simp [Instr.buildSlice, run_underlying he.und, run_size hi, hs, k0, run_newRow, Array.range_zero']
    rfl
  · have hne : ¬ vs.length = 0 := by simpa using h0
    have k1 := key ((Array.range vs.length).map fun x => z.cells[x % z.cells.size]!) (by simp)
    simp [Instr.buildSlice, run_underlying he.und, run_size hi, hs, run_zero hi hz, hbig, hne, h0]
    simp only [Nat.mul_one] at k1
    rw [k1]
    simp [run_newRow]

theorem Sl.lit {α : Type} {f : α → Value} {e : TypeId} (xs : List α) (w : World) : Sl f (w.alloc (.cells (xs.map f).toArray e)) (some ⟨w.heap.size, 0, none⟩) xs := by
  refine .inr ⟨_, _, rfl, fun i y hy => ?_⟩
  rw [World.cell?_alloc_new, Nat.zero_add]
  simp [hy]

/-! ### a slice converted to its own type: its block bears a mark behind its end -/
theorem freeze_cell (w : World) (a p : Addr) (n : Nat) : (w.freeze a n).cell? p = w.cell? p := by
  unfold World.freeze
  split
  · rfl
  · unfold World.cell?
    simp only [Array.getElem?_modify]
    by_cases h : a.block = p.block
    · rw [if_pos h]
      cases hh : w.heap[p.block]? with
      | none => rfl
      | some o => cases o <;> rfl
    · rw [if_neg h]

theorem freeze_ext {w0 w : World} (h : Ext w0 w) {a : Addr} (ha : w0.heap.size ≤ a.block) (n : Nat) : Ext w0 (w.freeze a n) := by
  refine Below.trans h ?_
  unfold World.freeze
  split
  · exact Below.refl _ _
  · refine ⟨rfl, rfl, rfl, by simp, fun k hk => ?_⟩
    simp only [Array.getElem?_modify]
    rw [if_neg (by omega)]

theorem run_conv {P : Program} {t e : TypeId} (hu : P.underlying t = some (.slice e)) (he : P.underlying e = some (.int .u8)) {w : World} {g n c : Nat} {cur : Array Value} {T : TypeId} {fr : Nat × Nat} (hg : w.heap[g]? = some (.cells cur T fr)) :
    (convert t t (.slice (some ⟨g, 0, none⟩) n c)).run P w = .ok (.slice (some ⟨g, 0, none⟩) n c) (w.freeze ⟨g, cur.size, none⟩ 1) := by
  have hs : w.shape? g = some (T, cur.size) := by simp [World.shape?, hg]
  simp [convert, run_underlying hu, run_underlying he, markStringish, shape, freeze, Sem.run, hs]

theorem Sl.frz {α : Type} {f : α → Value} {w : World} {a : Option Addr} {xs : List α} (h : Sl f w a xs) (p : Addr) (n : Nat) : Sl f (w.freeze p n) a xs := by
  rcases h with h | ⟨b, o, ha, hc⟩
  · exact .inl h
  · exact .inr ⟨b, o, ha, fun i x hx => by rw [freeze_cell]; exact hc i x hx⟩

/-- a text as bytes: what stands behind the conversion -/
theorem run_convLit {P : Program} {t e : TypeId} (hu : P.underlying t = some (.slice e)) (he : P.underlying e = some (.int .u8)) (xs : List (BitVec 8)) (w : World) (n c : Nat) :
    ∃ w2, (convert t t (.slice (some ⟨w.heap.size, 0, none⟩) n c)).run P (w.alloc (.cells (xs.map u8v).toArray e)) = .ok (.slice (some ⟨w.heap.size, 0, none⟩) n c) w2 ∧ Sl u8v w2 (some ⟨w.heap.size, 0, none⟩) xs ∧ Ext w w2 :=
  ⟨_, run_conv hu he (heap_alloc_new w _), (Sl.lit (f := u8v) xs w).frz _ _, freeze_ext (Ext.new _ _) (Nat.le_refl _) _⟩
end Go.Vc

namespace Go.Proofs.Ytgipackjnncabaa
open Go.Vc Go.RowKit

theorem und22 : Try.prog.underlying 22 = some (.slice 5) := by kernel_rfl
theorem und5 : Try.prog.underlying 5 = some (.int .u8) := by kernel_rfl

/-- the number with a sign that a word is -/
def signF (x : Nat) : Int := if x < 2147483648 then x else x - 4294967296

theorem wi32_sign {x : Nat} (h : x < 4294967296) : IntKind.i32.wrap (x : Int) = signF x := by
  rw [wi32]; unfold signF; split <;> omega

theorem signed_calls {w : World} (x : Nat) (h : x < 4294967296) : Calls Try.prog 55 #[.int .u32 x] w (Ret fun v w' => v = .int .i32 (signF x) ∧ w' = w) := by
  refine calls_of_vc lok Try.func55 ?_ rfl
  conv => whnf
  intro z hz
  rw [wi32_sign h] at hz
  subst hz
  conv => whnf
  exact ⟨rfl, rfl⟩

theorem known02 {w : World} : Calls Try.prog 40 #[] w (Ret fun v w' => v = .bool true ∧ Ext w w') := by
  refine calls_of_vc (args := []) lok Try.func40 ?_ rfl
  conv => whnf
  refine Calls.ret (put_calls (c := 0) (Sl.nil u8v w none) (by simp) 2 258 (by decide)) ?_
  rintro _ w1 ⟨a1, c1, rfl, ho1, hx1⟩
  have e1 : putF [] 2 258 = ([2#8, 1#8], 0) := by decide
  rw [e1] at ho1 ⊢
  conv => whnf
  refine ⟨_, _, run_buildN e8.toElem [u8v 97#8, u8v 98#8] (by simp [u8v, Value.oneCell']) (by simp) w1, ?_⟩
  conv => whnf
  obtain ⟨w2, hr2, hs2, hx2⟩ := run_convLit und22 und5 [97#8, 98#8] w1 2 2
  refine ⟨_, _, hr2, ?_⟩
  conv => whnf
  have hp := putRun_calls (c := 0) (d := 2) (Sl.nil u8v w2 none) hs2 (Nat.zero_le _) (by decide)
  refine Calls.ret hp ?_
  rintro _ w3 ⟨a3, c3, rfl, ho3, hx3⟩
  have e3 : putRunF [] [97#8, 98#8] = ([2#8, 0#8, 97#8, 98#8], 0) := by decide
  rw [e3] at ho3 ⊢
  conv => whnf
  refine Calls.ret (put_calls (c := 0) (Sl.nil u8v w3 none) (by simp) 1 256 (by decide)) ?_
  rintro _ w4 ⟨a4, c4, rfl, ho4, hx4⟩
  have e4 : putF [] 1 256 = ([], 3) := by decide
  rw [e4] at ho4 ⊢
  conv => whnf
  have h13 := (hx2.trans hx3).trans hx4
  refine vcReg_go lok ?_
  conv => whnf
  refine ⟨_, run_toStr (ho1.sl.ext h13), ?_⟩
  conv => whnf
  intro β hβ
  obtain rfl : β = true := (str_eq hβ rfl (ys := [2#8, 1#8]) rfl).trans (by decide)
  conv => whnf
  refine ⟨_, run_toStr (ho3.sl.ext hx4), ?_⟩
  conv => whnf
  intro β hβ
  obtain rfl : β = true := (str_eq hβ rfl (ys := [2#8, 0#8, 97#8, 98#8]) rfl).trans (by decide)
  conv => whnf
  refine Calls.ret (signed_calls 4294967295 (by decide)) ?_
  rintro _ w5 ⟨rfl, rfl⟩
  conv => whnf
  exact ⟨rfl, hx1.trans h13⟩

end Go.Proofs.Ytgipackjnncabaa
