/- Plain facts on bytes as numbers: no program in sight. -/
import Derived.Test.YtgipackjnncabaaBase
namespace Go.Proofs.Ytgipackjnncabaa

/-- bytes as a number, the lowest first -/
def decN : List (BitVec 8) → Nat
  | [] => 0
  | b :: l => b.toNat + 256 * decN l

theorem decN_lt : ∀ l : List (BitVec 8), decN l < 256 ^ l.length
  | [] => by simp [decN]
  | b :: l => by
    have := decN_lt l
    have hb := b.isLt
    simp only [decN, List.length_cons, Nat.pow_succ]
    omega

theorem decN_append : ∀ (l m : List (BitVec 8)), decN (l ++ m) = decN l + 256 ^ l.length * decN m
  | [], m => by simp [decN]
  | b :: l, m => by
    simp only [List.cons_append, decN, decN_append l m, List.length_cons, Nat.pow_succ]
    rw [Nat.mul_comm (256 ^ l.length) 256, Nat.mul_assoc]
    omega

theorem decN_single (b : BitVec 8) : decN [b] = b.toNat := by simp [decN]

theorem take_succ_getD (l : List (BitVec 8)) (k : Nat) (h : k < l.length) : l.take (k + 1) = l.take k ++ [l.getD k default] := by
  rw [List.take_succ_eq_append_getElem h]
  simp [List.getD, List.getElem?_eq_getElem h]

theorem drop_getD (l : List (BitVec 8)) (k j : Nat) : (l.drop k).getD j default = l.getD (k + j) default := by
  simp [List.getD, List.getElem?_drop]

theorem drop_cons_getD (l : List (BitVec 8)) (k : Nat) (h : k < l.length) : l.drop k = l.getD k default :: l.drop (k + 1) := by
  rw [List.drop_eq_getElem_cons h]
  simp [List.getD, List.getElem?_eq_getElem h]

/-- one byte more is laid above -/
theorem or_up (n b j : Nat) (hn : n < 256 ^ j) (hb : b < 256) (hj : j < 8) :
    Go.IntKind.u64.wrap ((BitVec.ofInt Go.IntKind.u64.bits (n : Int) ||| BitVec.ofInt Go.IntKind.u64.bits (Go.IntKind.u64.wrap ((b : Int) * 2 ^ min (8 * (j : Int)).toNat Go.IntKind.u64.bits))).toNat : Int) = ((n + 256 ^ j * b : Nat) : Int) := by
  have e1 : min (8 * (j : Int)).toNat Go.IntKind.u64.bits = 8 * j := by
    show min (8 * (j : Int)).toNat 64 = 8 * j
    omega
  have p8 : (256 : Nat) ^ (j + 1) ≤ 2 ^ 64 := by
    have : (256 : Nat) ^ (j + 1) ≤ 256 ^ 8 := Nat.pow_le_pow_right (by decide) (by omega)
    exact this
  have hsum : n + 256 ^ j * b < 256 ^ (j + 1) := by
    have h1 : 256 ^ j * b ≤ 256 ^ j * 255 := Nat.mul_le_mul_left _ (by omega)
    rw [Nat.pow_succ]
    omega
  have e2 : ((b : Int) * 2 ^ (8 * j)) = ((256 ^ j * b : Nat) : Int) := by
    rw [Int.pow_mul, Int.mul_comm, show (2 : Int) ^ 8 = ((256 : Nat) : Int) from by decide, ← Int.natCast_pow, ← Int.natCast_mul]
  have hm : 256 ^ j * b < 2 ^ 64 := by omega
  have e4 : n ||| 256 ^ j * b = n + 256 ^ j * b := by
    have h := Nat.shiftLeft_add_eq_or_of_lt (i := 8 * j) (b := n) (by rw [Nat.pow_mul]; exact hn) b
    rw [Nat.shiftLeft_eq, Nat.pow_mul, show (2 : Nat) ^ 8 = 256 from rfl, Nat.mul_comm] at h
    rw [Nat.or_comm, ← h, Nat.add_comm]
  rw [e1, e2, wu64, wu64]
  have hs2 : n + 256 ^ j * b < 2 ^ 64 := by omega
  clear e1 e2 hsum p8 hn
  generalize 256 ^ j * b = m at *
  have e3 : ((m : Nat) : Int) % 18446744073709551616 = (m : Int) := by omega
  rw [e3]
  show (((BitVec.ofInt 64 (n : Int) ||| BitVec.ofInt 64 (m : Int)).toNat : Nat) : Int) % 18446744073709551616 = _
  rw [BitVec.ofInt_natCast, BitVec.ofInt_natCast, BitVec.toNat_or, BitVec.toNat_ofNat, BitVec.toNat_ofNat, Nat.mod_eq_of_lt (by omega), Nat.mod_eq_of_lt hm, e4]
  omega

/-- what octet.Get answers -/
def getF (bs : List (BitVec 8)) (at_ width : Int) : Nat × Int :=
  if width < 1 ∨ 8 < width ∨ at_ < 0 ∨ (bs.length : Int) < at_ then (0, 1)
  else if (bs.length : Int) - at_ < width then (0, 2) else (decN ((bs.drop at_.toNat).take width.toNat), 0)

/-- what octet.PutRun answers -/
def putRunF (bs xs : List (BitVec 8)) : List (BitVec 8) × Int :=
  if 65535 < xs.length then ([], 3) else (bs ++ [BitVec.ofNat 8 xs.length, BitVec.ofNat 8 (xs.length / 256)] ++ xs, 0)

/-- what octet.GetRun answers: the bytes, the offset behind them, an error's number -/
def getRunF (bs : List (BitVec 8)) (at_ : Int) : List (BitVec 8) × Int × Int :=
  if at_ < 0 ∨ (bs.length : Int) < at_ then ([], 0, 1)
  else if (bs.length : Int) - at_ < 2 then ([], 0, 2)
  else if (bs.length : Int) - at_ - 2 < decN ((bs.drop at_.toNat).take 2) then ([], 0, 2)
  else ((bs.drop (at_.toNat + 2)).take (decN ((bs.drop at_.toNat).take 2)), at_ + 2 + decN ((bs.drop at_.toNat).take 2), 0)

end Go.Proofs.Ytgipackjnncabaa
