/- Plain laws of layer 6: a flash as words, the power, the cut that is planned. No program in sight. -/
import Derived.Test.YtgipackjnncabaaPl02
set_option linter.unusedSimpArgs false
set_option linter.unusedVariables false
namespace Go.Proofs.Ytgipackjnncabaa

def ones : BitVec 32 := 4294967295#32

structure FS where
  ws : List (BitVec 32)
  off : Bool
  left : Int
  mask : BitVec 32
  ops : Int

/-- n words from place a on made ones -/
def fillF (ws : List (BitVec 32)) (a n : Nat) : List (BitVec 32) := (List.range n).foldl (fun l i => l.set (a + i) ones) ws
theorem fillF_zero (ws : List (BitVec 32)) (a : Nat) : fillF ws a 0 = ws := rfl
theorem fillF_succ (ws : List (BitVec 32)) (a n : Nat) : fillF ws a (n + 1) = (fillF ws a n).set (a + n) ones := by
  unfold fillF
  rw [List.range_succ, List.foldl_append]
  rfl
theorem fillF_len (ws : List (BitVec 32)) (a n : Nat) : (fillF ws a n).length = ws.length := by
  induction n with
  | zero => rfl
  | succ n ih => rw [fillF_succ, List.length_set, ih]
theorem fillF_get (ws : List (BitVec 32)) (a n i : Nat) : (fillF ws a n)[i]? = if a ≤ i ∧ i < a + n ∧ i < ws.length then some ones else ws[i]? := by
  induction n with
  | zero => rw [fillF_zero, if_neg (by omega)]
  | succ n ih =>
    rw [fillF_succ, List.getElem?_set, fillF_len]
    by_cases h : a + n = i
    · rw [if_pos h]
      by_cases h2 : i < ws.length
      · rw [if_pos (by omega), if_pos (by omega)]
      · rw [if_neg (by omega), if_neg (by omega), List.getElem?_eq_none (by omega)]
    · rw [if_neg h, ih]
      by_cases h2 : a ≤ i ∧ i < a + n ∧ i < ws.length
      · rw [if_pos h2, if_pos (by omega)]
      · rw [if_neg h2, if_neg (by omega)]

/-- an operation that the power stands -/
def FS.did (s : FS) (ws : List (BitVec 32)) : FS := { s with ws := ws, left := if 0 < s.left then s.left - 1 else s.left, ops := s.ops + 1 }
/-- one that is torn -/
def FS.tore (s : FS) (ws : List (BitVec 32)) : FS := { s with ws := ws, left := -1, off := true }

def progF (s : FS) (at_ : Int) (x : BitVec 32) : FS × Int :=
  if s.off then (s, 7) else if at_ < 0 ∨ (s.ws.length : Int) ≤ at_ then (s, 10) else
    if s.left = 0 then (s.tore (s.ws.set at_.toNat (s.ws.getD at_.toNat 0#32 &&& (x ||| ~~~s.mask))), 7)
    else (s.did (s.ws.set at_.toNat (s.ws.getD at_.toNat 0#32 &&& x)), 0)

def eraseF (s : FS) (n : Int) : FS × Int :=
  if s.off then (s, 7) else if n < 0 ∨ ((s.ws.length / 256 : Nat) : Int) ≤ n then (s, 10) else
    if s.left = 0 then (s.tore (fillF s.ws (256 * n.toNat) (s.mask.toNat % 257)), 7)
    else (s.did (fillF s.ws (256 * n.toNat) 256), 0)

def readF (s : FS) (at_ : Int) : BitVec 32 × Int :=
  if s.off then (0#32, 7) else if at_ < 0 ∨ (s.ws.length : Int) ≤ at_ then (0#32, 10) else (s.ws.getD at_.toNat 0#32, 0)

def cutF (s : FS) (n : Int) (m : BitVec 32) : FS × Int := if n < 0 then (s, 1) else ({ s with left := n, mask := m }, 0)
def startF (s : FS) : FS := { s with off := false }

def newFS (ws : List (BitVec 32)) : FS := ⟨ws, false, -1, 0#32, 0⟩
/-- can there be a flash of as many words? -/
def canF (n : Nat) : Bool := decide (n % 256 = 0 ∧ 256 ≤ n ∧ n ≤ 4096)

/-- what every operation leaves: as many words, at most one operation more -/
structure FS.Le (s t : FS) (k : Nat) : Prop where
  len : t.ws.length = s.ws.length
  ops : s.ops ≤ t.ops ∧ t.ops ≤ s.ops + k
  left : -1 ≤ s.left → -1 ≤ t.left

theorem progF_le (s : FS) (at_ : Int) (x : BitVec 32) : s.Le (progF s at_ x).1 1 := by
  unfold progF
  split
  · exact ⟨rfl, ⟨Int.le_refl _, by show s.ops ≤ s.ops + 1; omega⟩, id⟩
  · split
    · exact ⟨rfl, ⟨Int.le_refl _, by show s.ops ≤ s.ops + 1; omega⟩, id⟩
    · split
      · exact ⟨by simp [FS.tore], ⟨Int.le_refl _, by show s.ops ≤ s.ops + 1; omega⟩, fun _ => by simp [FS.tore]⟩
      · exact ⟨by simp [FS.did], by simp only [FS.did]; omega, fun h => by simp only [FS.did]; split <;> omega⟩
theorem eraseF_le (s : FS) (n : Int) : s.Le (eraseF s n).1 1 := by
  unfold eraseF
  split
  · exact ⟨rfl, ⟨Int.le_refl _, by show s.ops ≤ s.ops + 1; omega⟩, id⟩
  · split
    · exact ⟨rfl, ⟨Int.le_refl _, by show s.ops ≤ s.ops + 1; omega⟩, id⟩
    · split
      · exact ⟨by simp [FS.tore, fillF_len], ⟨Int.le_refl _, by show s.ops ≤ s.ops + 1; omega⟩, fun _ => by simp [FS.tore]⟩
      · exact ⟨by simp [FS.did, fillF_len], by simp only [FS.did]; omega, fun h => by simp only [FS.did]; split <;> omega⟩

/-! ### bit by bit -/
theorem bit_nat (x : BitVec 32) (i : Nat) : x.getLsbD i = decide (x.toNat / 2 ^ i % 2 = 1) := by
  rw [BitVec.getLsbD, Nat.testBit_eq_decide_div_mod_eq]

theorem sub_bit (x : BitVec 32) (i : Nat) (hi : i < 32) (h : x.getLsbD i = true) : x - BitVec.twoPow 32 i = x &&& ~~~BitVec.twoPow 32 i := by
  have e : (x &&& ~~~BitVec.twoPow 32 i) + BitVec.twoPow 32 i = x := by
    rw [BitVec.add_eq_or_of_and_eq_zero]
    · ext j hj
      simp only [BitVec.getElem_or, BitVec.getElem_and, BitVec.getElem_not, BitVec.getElem_twoPow]
      by_cases h1 : j = i
      · subst h1
        rw [← BitVec.getLsbD_eq_getElem, h]
        simp
      · simp [h1]
    · ext j hj
      simp
  calc x - BitVec.twoPow 32 i = (x &&& ~~~BitVec.twoPow 32 i) + BitVec.twoPow 32 i - BitVec.twoPow 32 i := by rw [e]
    _ = _ := by rw [BitVec.add_sub_cancel]

theorem clear_step (x n K : BitVec 32) (i : Nat) (hi : i < 32) (h : ∀ j, j < 32 → x.getLsbD j = (n.getLsbD j && (decide (i ≤ j) || K.getLsbD j))) (c : Bool) (hc : c = (!K.getLsbD i && n.getLsbD i)) :
    ∀ j, j < 32 → (if c = true then x - BitVec.twoPow 32 i else x).getLsbD j = (n.getLsbD j && (decide (i + 1 ≤ j) || K.getLsbD j)) := by
  intro j hj
  have hx := h i hi
  simp only [Nat.le_refl, decide_true, Bool.true_or, Bool.and_true] at hx
  by_cases h1 : j = i
  · subst h1
    cases c with
    | true =>
      have hc' := hc.symm
      simp only [Bool.and_eq_true, Bool.not_eq_true'] at hc'
      rw [if_pos rfl, sub_bit x j hi (by rw [hx, hc'.2])]
      rw [BitVec.getLsbD_and, BitVec.getLsbD_not, BitVec.getLsbD_twoPow, hc'.1]
      simp [hi]
    | false =>
      rw [if_neg (by simp), hx]
      revert hc
      cases n.getLsbD j <;> cases K.getLsbD j <;> simp
  · have e : (if c = true then x - BitVec.twoPow 32 i else x).getLsbD j = x.getLsbD j := by
      cases c with
      | true =>
        have hc' := hc.symm
        simp only [Bool.and_eq_true, Bool.not_eq_true'] at hc'
        rw [if_pos rfl, sub_bit x i hi (by rw [hx, hc'.2]), BitVec.getLsbD_and, BitVec.getLsbD_not, BitVec.getLsbD_twoPow]
        simp [hj, Ne.symm h1]
      | false => rw [if_neg (by simp)]
    rw [e, h j hj]
    have : decide (i ≤ j) = decide (i + 1 ≤ j) := by rw [decide_eq_decide]; omega
    rw [this]

theorem clear_done (x n K : BitVec 32) (h : ∀ j, j < 32 → x.getLsbD j = (n.getLsbD j && (decide (32 ≤ j) || K.getLsbD j))) : x = n &&& K := by
  apply BitVec.eq_of_getLsbD_eq
  intro j hj
  rw [h j hj, BitVec.getLsbD_and]
  have : ¬ 32 ≤ j := by omega
  simp [this]

end Go.Proofs.Ytgipackjnncabaa
