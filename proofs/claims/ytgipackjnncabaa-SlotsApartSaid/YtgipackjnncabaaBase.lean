/- The element types of this seat's program, and small arithmetic for its walks. -/
import Derived.Test.YtgipackjnncabaaTypS
import Derived.Test.YtgipackjnncabaaMem
import Derived.Test.YtgipackjnncabaaVcD
namespace Go.Proofs.Ytgipackjnncabaa
open Go.Vc

theorem elem_of {P : Program} {α : Type} {f : α → Value} {d : α} {t e b : Nat} (h1 : P.underlying t = some (.slice e)) (h2 : (P.info? e).map (fun i => (i.zero, i.size, i.bytes)) = some (some (f d), 1, b)) (hb : b ≤ 24) (hv : ∀ x, (f x).oneCell' = true) : ElemZ P t e f d := by
  cases hi : P.info? e with
  | none => rw [hi] at h2; cases h2
  | some i =>
    rw [hi] at h2
    simp only [Option.map_some, Option.some.injEq, Prod.mk.injEq] at h2
    exact { und := h1, info := ⟨i, f d, hi, h2.1, h2.2.1, by omega, by rw [oneCell_cells (hv d)]; rfl⟩, zero := ⟨i, hi, h2.1⟩, one := hv }

theorem e8 : ElemZ Try.prog 22 5 u8v 0 := elem_of (b := 1) (by kernel_rfl) (by kernel_rfl) (by omega) (fun _ => rfl)
theorem e32 : ElemZ Try.prog 37 42 u32v 0 := elem_of (b := 4) (by kernel_rfl) (by kernel_rfl) (by omega) (fun _ => rfl)
/-- a slice as an element: its address, its length, its capacity -/
def slv (x : Option Addr × Nat × Nat) : Value := .slice x.1 x.2.1 x.2.2
theorem esl : ElemZ Try.prog 50 22 slv (none, 0, 0) := elem_of (b := 24) (by kernel_rfl) (by kernel_rfl) (by omega) (fun _ => rfl)

theorem mixed : Try.prog.follows .mixedOrders = true := by kernel_rfl

/-! ### wraps -/
theorem wu {k : IntKind} (hk : k.signed = false) (z : Int) : k.wrap z = z % 2 ^ k.bits := by
  unfold IntKind.wrap; simp [hk]
theorem wu8 (z : Int) : IntKind.u8.wrap z = z % 256 := wu rfl z
theorem wu16 (z : Int) : IntKind.u16.wrap z = z % 65536 := wu rfl z
theorem wu32 (z : Int) : IntKind.u32.wrap z = z % 4294967296 := wu rfl z
theorem wu64 (z : Int) : IntKind.u64.wrap z = z % 18446744073709551616 := wu rfl z
theorem wi64 {z : Int} (h : -9223372036854775808 ≤ z ∧ z ≤ 9223372036854775807) : IntKind.i64.wrap z = z := wrap_i64 h
theorem wi32 (z : Int) : IntKind.i32.wrap z = (z + 2147483648) % 4294967296 - 2147483648 := by
  unfold IntKind.wrap IntKind.bits IntKind.signed
  simp only [Bool.true_and, decide_eq_true_eq]
  have e1 : (2 : Int) ^ 32 = 4294967296 := by decide
  have e2 : (2 : Int) ^ (32 - 1) = 2147483648 := by decide
  rw [e1, e2]
  split <;> omega

/-! ### tests -/
theorem nz_true {x : Nat} (h : (!decide ((x : Int) = 0)) = true) : x ≠ 0 := by simpa using h
theorem nz_false {x : Nat} (h : (!decide ((x : Int) = 0)) = false) : x = 0 := by simpa using h
theorem ne_true {a b : Int} (h : (!decide (a = b)) = true) : a ≠ b := by simpa using h
theorem ne_false {a b : Int} (h : (!decide (a = b)) = false) : a = b := by simpa using h
theorem dt {p : Prop} [Decidable p] (h : decide p = true) : p := of_decide_eq_true h
theorem df {p : Prop} [Decidable p] (h : decide p = false) : ¬ p := of_decide_eq_false h

end Go.Proofs.Ytgipackjnncabaa
