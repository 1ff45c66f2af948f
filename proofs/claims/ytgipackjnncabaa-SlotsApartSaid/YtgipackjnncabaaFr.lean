/- From the given rows of integers to slices that read as lists. -/
import Derived.Test.YtgipackjnncabaaBase
set_option linter.unusedVariables false
namespace Go.Vc
open Go.RowKit

theorem wf_le {k : IntKind} {n : Int} (h : (Lit.int k n).wf = true) : k.min ≤ n ∧ n ≤ k.max := by
  obtain ⟨h1, h2⟩ := (Bool.and_eq_true_iff (x := decide (k.min ≤ n)) (y := decide (n ≤ k.max))).1 h
  exact ⟨of_decide_eq_true h1, of_decide_eq_true h2⟩

theorem row_any {α : Type} (f : α → Value) (k : IntKind) (g : Int → α) {w : World} {a : Option Addr} {len cap : Nat} {zs : List Int}
    (hg : ∀ n, (Lit.int k n).wf = true → f (g n) = .int k n)
    (h : (a = none ∧ len = 0 ∧ cap = 0 ∧ zs = []) ∨ ∃ x, a = some x ∧ len ≤ cap ∧ cap ≤ maxLen ∧ zs.length = cap ∧ (∀ i, i < zs.length → w.cell? (x.add i) = some (.int k (zs.getD i 0))) ∧ ∀ n ∈ zs, (Lit.int k n).wf = true) :
    ∃ bs : List α, bs.length = len ∧ Sl f w a bs ∧ len ≤ cap := by
  rcases h with ⟨rfl, rfl, rfl, rfl⟩ | ⟨x, rfl, h1, h2, h3, h4, h5⟩
  · exact ⟨[], rfl, .nil _ _ _, Nat.le_refl _⟩
  · refine ⟨(zs.take len).map g, by simp; omega, ?_, h1⟩
    rcases Nat.eq_zero_or_pos len with rfl | hl
    · exact .inl (by simp)
    obtain ⟨b, o, sp⟩ := x
    have h0 := h4 0 (by omega)
    have hsp : sp = none := by
      simp only [Addr.add, if_true] at h0
      unfold World.cell? at h0
      split at h0
      · cases sp with
        | none => rfl
        | some _ => cases h0
      · cases h0
    subst hsp
    refine .inr ⟨b, o, rfl, fun i y hy => ?_⟩
    rw [List.getElem?_map, List.getElem?_take] at hy
    split at hy
    · rename_i hi
      have hlt : i < zs.length := by omega
      rw [List.getElem?_eq_getElem hlt] at hy
      cases hy
      have := h4 i hlt
      rw [addr_add] at this
      rw [this, hg _ (h5 _ (List.getElem_mem hlt))]
      simp [List.getD, List.getElem?_eq_getElem hlt]
    · cases hy

theorem row_u8 {w : World} {a : Option Addr} {len cap : Nat} {zs : List Int}
    (h : (a = none ∧ len = 0 ∧ cap = 0 ∧ zs = []) ∨ ∃ x, a = some x ∧ len ≤ cap ∧ cap ≤ maxLen ∧ zs.length = cap ∧ (∀ i, i < zs.length → w.cell? (x.add i) = some (.int .u8 (zs.getD i 0))) ∧ ∀ n ∈ zs, (Lit.int .u8 n).wf = true) :
    ∃ bs : List (BitVec 8), bs.length = len ∧ Sl u8v w a bs ∧ len ≤ cap := by
  refine row_any u8v .u8 (BitVec.ofInt 8) (fun n hn => ?_) h
  obtain ⟨h1, h2⟩ := wf_le hn
  simp [IntKind.min, IntKind.max, IntKind.signed, IntKind.bits] at h1 h2
  simp only [u8v, BitVec.toNat_ofInt]
  congr 1
  omega

theorem row_u32 {w : World} {a : Option Addr} {len cap : Nat} {zs : List Int}
    (h : (a = none ∧ len = 0 ∧ cap = 0 ∧ zs = []) ∨ ∃ x, a = some x ∧ len ≤ cap ∧ cap ≤ maxLen ∧ zs.length = cap ∧ (∀ i, i < zs.length → w.cell? (x.add i) = some (.int .u32 (zs.getD i 0))) ∧ ∀ n ∈ zs, (Lit.int .u32 n).wf = true) :
    ∃ bs : List (BitVec 32), bs.length = len ∧ Sl u32v w a bs ∧ len ≤ cap := by
  refine row_any u32v .u32 (BitVec.ofInt 32) (fun n hn => ?_) h
  obtain ⟨h1, h2⟩ := wf_le hn
  simp [IntKind.min, IntKind.max, IntKind.signed, IntKind.bits] at h1 h2
  simp only [u32v, BitVec.toNat_ofInt]
  congr 1
  omega

theorem row_i64 {w : World} {a : Option Addr} {len cap : Nat} {zs : List Int}
    (h : (a = none ∧ len = 0 ∧ cap = 0 ∧ zs = []) ∨ ∃ x, a = some x ∧ len ≤ cap ∧ cap ≤ maxLen ∧ zs.length = cap ∧ (∀ i, i < zs.length → w.cell? (x.add i) = some (.int .i64 (zs.getD i 0))) ∧ ∀ n ∈ zs, (Lit.int .i64 n).wf = true) :
    ∃ xs : List Int, xs.length = len ∧ Sl (fun x => Value.int .i64 x) w a xs ∧ len ≤ cap :=
  row_any (fun x => Value.int .i64 x) .i64 id (fun n hn => rfl) h

theorem wf_i64 {n : Int} (h : (Lit.int .i64 n).wf = true) : -9223372036854775808 ≤ n ∧ n ≤ 9223372036854775807 := by
  obtain ⟨h1, h2⟩ := wf_le h
  simp [IntKind.min, IntKind.max, IntKind.signed, IntKind.bits] at h1 h2
  omega
theorem wf_u64 {n : Int} (h : (Lit.int .u64 n).wf = true) : ∃ m : Nat, n = m ∧ m < 2 ^ 64 := by
  obtain ⟨h1, h2⟩ := wf_le h
  simp [IntKind.min, IntKind.max, IntKind.signed, IntKind.bits] at h1 h2
  exact ⟨n.toNat, by omega, by omega⟩
theorem wf_u32 {n : Int} (h : (Lit.int .u32 n).wf = true) : ∃ m : BitVec 32, n = m.toNat := by
  obtain ⟨h1, h2⟩ := wf_le h
  simp [IntKind.min, IntKind.max, IntKind.signed, IntKind.bits] at h1 h2
  exact ⟨BitVec.ofInt 32 n, by rw [BitVec.toNat_ofInt]; omega⟩
theorem wf_u8 {n : Int} (h : (Lit.int .u8 n).wf = true) : ∃ m : BitVec 8, n = m.toNat := by
  obtain ⟨h1, h2⟩ := wf_le h
  simp [IntKind.min, IntKind.max, IntKind.signed, IntKind.bits] at h1 h2
  exact ⟨BitVec.ofInt 8 n, by rw [BitVec.toNat_ofInt]; omega⟩

/-- a law's ending as the frame asks for it -/
theorem law_ret {w : World} {e : Ending} {w' : World} (h : Ret (fun v w' => v = .bool true ∧ Ext w w') e w') : e = .returned (.bool true) ∧ Below w.heap.size w w' := by
  cases e with
  | returned v => obtain ⟨rfl, h⟩ := h; exact ⟨rfl, h⟩
  | _ => cases h

end Go.Vc
