/- The operators on unsigned integers, as they are on bit vectors. -/
import Derived.Test.YtgipackjnncabaaBase
set_option linter.unusedSimpArgs false
set_option linter.unusedVariables false
namespace Go.Proofs.Ytgipackjnncabaa
open Go.Vc

theorem ofI32 (x : BitVec 32) : BitVec.ofInt 32 (x.toNat : Int) = x := by
  rw [BitVec.ofInt_natCast, BitVec.ofNat_toNat, BitVec.setWidth_eq]
theorem ofI8 (x : BitVec 8) : BitVec.ofInt 8 (x.toNat : Int) = x := by
  rw [BitVec.ofInt_natCast, BitVec.ofNat_toNat, BitVec.setWidth_eq]
theorem w32 (x : BitVec 32) : IntKind.u32.wrap ((x.toNat : Nat) : Int) = (x.toNat : Int) := by
  rw [wu32]; have := x.isLt; omega
theorem w8 (x : BitVec 8) : IntKind.u8.wrap ((x.toNat : Nat) : Int) = (x.toNat : Int) := by
  rw [wu8]; have := x.isLt; omega
theorem and32 (x y : BitVec 32) : IntKind.u32.wrap (((BitVec.ofInt IntKind.u32.bits (x.toNat : Int) &&& BitVec.ofInt IntKind.u32.bits (y.toNat : Int)).toNat : Nat) : Int) = ((x &&& y).toNat : Int) := by
  show IntKind.u32.wrap (((BitVec.ofInt 32 (x.toNat : Int) &&& BitVec.ofInt 32 (y.toNat : Int)).toNat : Nat) : Int) = _
  rw [ofI32, ofI32, w32]
theorem or32 (x y : BitVec 32) : IntKind.u32.wrap (((BitVec.ofInt IntKind.u32.bits (x.toNat : Int) ||| BitVec.ofInt IntKind.u32.bits (y.toNat : Int)).toNat : Nat) : Int) = ((x ||| y).toNat : Int) := by
  show IntKind.u32.wrap (((BitVec.ofInt 32 (x.toNat : Int) ||| BitVec.ofInt 32 (y.toNat : Int)).toNat : Nat) : Int) = _
  rw [ofI32, ofI32, w32]
theorem xor32 (x y : BitVec 32) : IntKind.u32.wrap (((BitVec.ofInt IntKind.u32.bits (x.toNat : Int) ^^^ BitVec.ofInt IntKind.u32.bits (y.toNat : Int)).toNat : Nat) : Int) = ((x ^^^ y).toNat : Int) := by
  show IntKind.u32.wrap (((BitVec.ofInt 32 (x.toNat : Int) ^^^ BitVec.ofInt 32 (y.toNat : Int)).toNat : Nat) : Int) = _
  rw [ofI32, ofI32, w32]
theorem xor8 (x y : BitVec 8) : IntKind.u8.wrap (((BitVec.ofInt IntKind.u8.bits (x.toNat : Int) ^^^ BitVec.ofInt IntKind.u8.bits (y.toNat : Int)).toNat : Nat) : Int) = ((x ^^^ y).toNat : Int) := by
  show IntKind.u8.wrap (((BitVec.ofInt 8 (x.toNat : Int) ^^^ BitVec.ofInt 8 (y.toNat : Int)).toNat : Nat) : Int) = _
  rw [ofI8, ofI8, w8]
theorem andnot32 (x y : BitVec 32) : IntKind.u32.wrap (((BitVec.ofInt IntKind.u32.bits (x.toNat : Int) &&& ~~~BitVec.ofInt IntKind.u32.bits (y.toNat : Int)).toNat : Nat) : Int) = ((x &&& ~~~y).toNat : Int) := by
  show IntKind.u32.wrap (((BitVec.ofInt 32 (x.toNat : Int) &&& ~~~BitVec.ofInt 32 (y.toNat : Int)).toNat : Nat) : Int) = _
  rw [ofI32, ofI32, w32]
theorem not32 (x : BitVec 32) : IntKind.u32.wrap (((BitVec.ofInt IntKind.u32.bits IntKind.u32.max ^^^ BitVec.ofInt IntKind.u32.bits (x.toNat : Int)).toNat : Nat) : Int) = ((~~~x).toNat : Int) := by
  show IntKind.u32.wrap (((BitVec.ofInt 32 IntKind.u32.max ^^^ BitVec.ofInt 32 (x.toNat : Int)).toNat : Nat) : Int) = _
  rw [ofI32, show BitVec.ofInt 32 IntKind.u32.max = BitVec.allOnes 32 from by decide, BitVec.allOnes_xor, w32]
theorem neg32 (x : BitVec 32) : IntKind.u32.wrap (0 - (x.toNat : Int)) = ((-x).toNat : Int) := by
  rw [wu32, BitVec.toNat_neg]; have := x.isLt; omega
theorem add32 (x y : BitVec 32) : IntKind.u32.wrap ((x.toNat : Int) + (y.toNat : Int)) = ((x + y).toNat : Int) := by
  rw [wu32, BitVec.toNat_add]; omega
theorem sub32 (x y : BitVec 32) : IntKind.u32.wrap ((x.toNat : Int) - (y.toNat : Int)) = ((x - y).toNat : Int) := by
  rw [wu32, BitVec.toNat_sub]; have := x.isLt; have := y.isLt; omega
theorem shr32b (x : BitVec 32) (n : Nat) (hn : n ≤ 32) : (x.toNat : Int).fdiv (2 ^ (min ((n : Int)).toNat IntKind.u32.bits)) = ((x >>> n).toNat : Int) := by
  have e1 : min (n : Int).toNat IntKind.u32.bits = n := by
    show min (n : Int).toNat 32 = n
    omega
  rw [e1, Int.fdiv_eq_ediv_of_nonneg _ (by exact Int.pow_nonneg (by decide)), BitVec.toNat_ushiftRight, Nat.shiftRight_eq_div_pow, Int.natCast_ediv, Int.natCast_pow]
  rfl
theorem shl32b (x : BitVec 32) (n : Nat) (hn : n ≤ 32) : IntKind.u32.wrap ((x.toNat : Int) * 2 ^ (min ((n : Int)).toNat IntKind.u32.bits)) = ((x <<< n).toNat : Int) := by
  have e1 : min (n : Int).toNat IntKind.u32.bits = n := by
    show min (n : Int).toNat 32 = n
    omega
  rw [e1, wu32, BitVec.toNat_shiftLeft, Nat.shiftLeft_eq, show (2 : Int) ^ n = ((2 ^ n : Nat) : Int) from by rw [Int.natCast_pow]; rfl, ← Int.natCast_mul]
  generalize x.toNat * 2 ^ n = m
  omega
theorem shl8b (x : BitVec 8) (n : Nat) (hn : n ≤ 8) : IntKind.u8.wrap ((x.toNat : Int) * 2 ^ (min ((n : Int)).toNat IntKind.u8.bits)) = ((x <<< n).toNat : Int) := by
  have e1 : min (n : Int).toNat IntKind.u8.bits = n := by
    show min (n : Int).toNat 8 = n
    omega
  rw [e1, wu8, BitVec.toNat_shiftLeft, Nat.shiftLeft_eq, show (2 : Int) ^ n = ((2 ^ n : Nat) : Int) from by rw [Int.natCast_pow]; rfl, ← Int.natCast_mul]
  generalize x.toNat * 2 ^ n = m
  omega
end Go.Proofs.Ytgipackjnncabaa
