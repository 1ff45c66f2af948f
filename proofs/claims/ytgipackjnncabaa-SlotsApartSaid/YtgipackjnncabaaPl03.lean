/- Plain laws of layer 3: sums of 32 bits over lists of bits. No program in sight. -/
import Derived.Test.YtgipackjnncabaaPl02
set_option linter.unusedSimpArgs false
set_option linter.unusedVariables false
namespace Go.Proofs.Ytgipackjnncabaa

def poly : BitVec 32 := 3988292384#32
/-- one bit taken in -/
def stepB (r : BitVec 32) (x : Bool) : BitVec 32 := (r >>> 1) ^^^ (if (r.getLsbD 0 ^^ x) = true then poly else 0#32)
def crcB (r : BitVec 32) (l : List Bool) : BitVec 32 := l.foldl stepB r
/-- a byte's bits, the lowest first -/
def bits8 (c : BitVec 8) : List Bool := (List.range 8).map fun k => c.getLsbD k
def bitsF (bs : List (BitVec 8)) : List Bool := bs.flatMap bits8
/-- a sum that goes on -/
def onF (s : BitVec 32) (bs : List (BitVec 8)) : BitVec 32 := ~~~(crcB (~~~s) (bitsF bs))
def sumF (bs : List (BitVec 8)) : BitVec 32 := onF 0#32 bs

theorem crcB_nil (r : BitVec 32) : crcB r [] = r := rfl
theorem crcB_cons (r : BitVec 32) (x : Bool) (l : List Bool) : crcB r (x :: l) = crcB (stepB r x) l := rfl
theorem crcB_append (r : BitVec 32) (l m : List Bool) : crcB r (l ++ m) = crcB (crcB r l) m := List.foldl_append ..
theorem crcB_snoc (r : BitVec 32) (l : List Bool) (x : Bool) : crcB r (l ++ [x]) = stepB (crcB r l) x := by rw [crcB_append]; rfl
theorem bitsF_append (a b : List (BitVec 8)) : bitsF (a ++ b) = bitsF a ++ bitsF b := List.flatMap_append ..
theorem bitsF_cons (c : BitVec 8) (b : List (BitVec 8)) : bitsF (c :: b) = bits8 c ++ bitsF b := rfl
theorem bitsF_nil : bitsF [] = [] := rfl
theorem bits8_len (c : BitVec 8) : (bits8 c).length = 8 := by simp [bits8]
theorem bitsF_len (bs : List (BitVec 8)) : (bitsF bs).length = 8 * bs.length := by
  induction bs with
  | nil => rfl
  | cons c l ih => rw [bitsF_cons, List.length_append, bits8_len, ih, List.length_cons]; omega

/-- it goes on from piece to piece -/
theorem onF_append (s : BitVec 32) (a b : List (BitVec 8)) : onF s (a ++ b) = onF (onF s a) b := by
  unfold onF
  rw [bitsF_append, crcB_append, BitVec.not_not]

theorem pick_xor (p q : Bool) : (if (p ^^ q) = true then poly else 0#32) = (if p = true then poly else 0#32) ^^^ (if q = true then poly else 0#32) := by
  cases p <;> cases q <;> simp
theorem stepB_xor (a b : BitVec 32) (x y : Bool) : stepB (a ^^^ b) (x ^^ y) = stepB a x ^^^ stepB b y := by
  unfold stepB
  rw [BitVec.ushiftRight_xor_distrib, BitVec.getLsbD_xor]
  generalize a.getLsbD 0 = p
  generalize b.getLsbD 0 = q
  rw [show ((p ^^ q) ^^ (x ^^ y)) = ((p ^^ x) ^^ (q ^^ y)) by cases p <;> cases q <;> cases x <;> cases y <;> rfl, pick_xor]
  ac_rfl

def xorL : List Bool → List Bool → List Bool := List.zipWith (· ^^ ·)

theorem crcB_xor : ∀ (l m : List Bool) (a b : BitVec 32), l.length = m.length → crcB (a ^^^ b) (xorL l m) = crcB a l ^^^ crcB b m
  | [], [], a, b, _ => rfl
  | x :: l, y :: m, a, b, h => by
    show crcB (a ^^^ b) ((x ^^ y) :: xorL l m) = _
    rw [crcB_cons, crcB_cons, crcB_cons, stepB_xor]
    exact crcB_xor l m _ _ (by simpa using h)
  | [], _ :: _, _, _, h => by simp at h
  | _ :: _, [], _, _, h => by simp at h

theorem xorL_self : ∀ l : List Bool, xorL l l = List.replicate l.length false
  | [] => rfl
  | x :: l => by
    show (x ^^ x) :: xorL l l = _
    rw [xorL_self l, Bool.xor_self]
    rfl
theorem xorL_false : ∀ l : List Bool, xorL l (List.replicate l.length false) = l
  | [] => rfl
  | x :: l => by
    show (x ^^ false) :: xorL l (List.replicate l.length false) = _
    rw [xorL_false l, Bool.xor_false]

theorem poly_msb : poly.getLsbD 31 = true := by decide
theorem stepB_msb (r : BitVec 32) (x : Bool) : (stepB r x).getLsbD 31 = (r.getLsbD 0 ^^ x) := by
  unfold stepB
  rw [BitVec.getLsbD_xor, BitVec.getLsbD_ushiftRight, BitVec.getLsbD_of_ge r _ (by omega)]
  cases h : (r.getLsbD 0 ^^ x) <;> simp [poly_msb]

theorem shr_toNat (r : BitVec 32) : r.toNat = 2 * (r >>> 1).toNat + (r.getLsbD 0).toNat := by
  rw [BitVec.toNat_ushiftRight, Nat.shiftRight_eq_div_pow]
  have : (r.getLsbD 0).toNat = r.toNat % 2 := by
    rw [BitVec.getLsbD, Nat.testBit_zero]
    rcases Nat.mod_two_eq_zero_or_one r.toNat with h | h <;> simp [h]
  omega

/-- bits, the lowest first, as a number -/
def packN : List Bool → Nat
  | [] => 0
  | x :: l => x.toNat + 2 * packN l
theorem packN_lt : ∀ l : List Bool, packN l < 2 ^ l.length
  | [] => by decide
  | x :: l => by
    have := packN_lt l
    have hx : x.toNat ≤ 1 := Bool.toNat_le x
    show x.toNat + 2 * packN l < 2 ^ (l.length + 1)
    rw [Nat.pow_succ]
    omega
theorem packN_zero : ∀ l : List Bool, packN l = 0 → ∀ x ∈ l, x = false
  | [], _, _, h => by cases h
  | x :: l, h, y, hy => by
    have h0 : x.toNat + 2 * packN l = 0 := h
    rcases List.mem_cons.1 hy with rfl | hy
    · cases y with
      | false => rfl
      | true => simp at h0
    · exact packN_zero l (by omega) y hy

/-- from naught back: within 32 bits, what leads to naught is the bits themselves -/
theorem crcB_zero_back : ∀ (l : List Bool) (r : BitVec 32), l.length ≤ 32 → crcB r l = 0#32 → r.toNat = packN l
  | [], r, _, h => by
    have : r = 0#32 := h
    rw [this]; rfl
  | x :: l, r, hl, h => by
    rw [crcB_cons] at h
    have hl2 : l.length + 1 ≤ 32 := hl
    have ih := crcB_zero_back l (stepB r x) (by omega) h
    have hp := packN_lt l
    have hp2 : 2 ^ l.length ≤ 2 ^ 31 := Nat.pow_le_pow_right (by decide) (by omega)
    have hm : (stepB r x).getLsbD 31 = false := by
      rw [BitVec.getLsbD, Nat.testBit_lt_two_pow (by rw [ih]; omega)]
    rw [stepB_msb] at hm
    have hs : stepB r x = r >>> 1 := by
      unfold stepB
      rw [hm]
      simp
    rw [hs] at ih
    have hx : r.getLsbD 0 = x := by
      revert hm
      cases r.getLsbD 0 <;> cases x <;> simp
    rw [shr_toNat r, ih, hx]
    show _ = x.toNat + 2 * packN l
    omega

theorem crcB_pack : ∀ (l : List Bool), l.length ≤ 32 → crcB (BitVec.ofNat 32 (packN l)) l = 0#32
  | [], _ => rfl
  | x :: l, hl => by
    have hl2 : l.length + 1 ≤ 32 := hl
    have hp := packN_lt l
    have hp2 : 2 ^ l.length ≤ 2 ^ 31 := Nat.pow_le_pow_right (by decide) (by omega)
    have hx1 : x.toNat ≤ 1 := Bool.toNat_le x
    rw [crcB_cons]
    have e : packN (x :: l) = x.toNat + 2 * packN l := rfl
    have hb : (BitVec.ofNat 32 (packN (x :: l))).getLsbD 0 = x := by
      rw [BitVec.getLsbD_ofNat, e, Nat.testBit_zero]
      cases x <;> simp <;> omega
    have hs : stepB (BitVec.ofNat 32 (packN (x :: l))) x = BitVec.ofNat 32 (packN l) := by
      unfold stepB
      rw [hb, Bool.xor_self]
      apply BitVec.eq_of_toNat_eq
      simp only [Bool.false_eq_true, if_false, BitVec.xor_zero, BitVec.toNat_ushiftRight, BitVec.toNat_ofNat, Nat.shiftRight_eq_div_pow, e]
      omega
    rw [hs]
    exact crcB_pack l (by omega)

theorem crcB_zeros_inj {n : Nat} : ∀ {r : BitVec 32}, crcB r (List.replicate n false) = 0#32 → r = 0#32 := by
  induction n with
  | zero => intro r h; exact h
  | succ n ih =>
    intro r h
    rw [List.replicate_succ, crcB_cons] at h
    have h1 := ih h
    have h2 : crcB r [false] = 0#32 := h1
    have h3 := crcB_zero_back [false] r (by decide) h2
    exact BitVec.eq_of_toNat_eq h3
theorem crcB_zeros (n : Nat) : crcB 0#32 (List.replicate n false) = 0#32 := by
  induction n with
  | zero => rfl
  | succ n ih =>
    rw [List.replicate_succ, crcB_cons, show stepB 0#32 false = 0#32 from by decide]
    exact ih

/-- unlike beginnings lead to unlike ends -/
theorem crcB_inj (l : List Bool) {a b : BitVec 32} (h : crcB a l = crcB b l) : a = b := by
  have h1 := crcB_xor l l a b rfl
  rw [xorL_self, h, BitVec.xor_self] at h1
  have h2 := crcB_zeros_inj h1
  have h3 : a ^^^ b ^^^ b = b := by rw [h2, BitVec.zero_xor]
  rwa [BitVec.xor_assoc, BitVec.xor_self, BitVec.xor_zero] at h3

theorem onF_inj (b : List (BitVec 8)) {x y : BitVec 32} : onF x b = onF y b ↔ x = y := by
  constructor
  · intro h
    unfold onF at h
    have h1 := BitVec.not_inj.1 h
    have h2 := crcB_inj _ h1
    exact BitVec.not_inj.1 h2
  · rintro rfl; rfl

/-- a word's bits behind are the word laid over -/
theorem crcB_word (r : BitVec 32) (l : List Bool) (hl : l.length = 32) : crcB r l = crcB (r ^^^ BitVec.ofNat 32 (packN l)) (List.replicate 32 false) := by
  have h2 := crcB_xor l (List.replicate l.length false) (BitVec.ofNat 32 (packN l)) (r ^^^ BitVec.ofNat 32 (packN l)) (by simp)
  rw [xorL_false, crcB_pack l (by omega), BitVec.zero_xor, hl, BitVec.xor_comm r, ← BitVec.xor_assoc, BitVec.xor_self, BitVec.zero_xor] at h2
  rw [BitVec.xor_comm r, ← h2]

/-! ### the bits' numbers -/
theorem packN_append : ∀ l m : List Bool, packN (l ++ m) = packN l + 2 ^ l.length * packN m
  | [], m => by simp [packN]
  | x :: l, m => by
    show x.toNat + 2 * packN (l ++ m) = x.toNat + 2 * packN l + 2 ^ (l.length + 1) * packN m
    rw [packN_append l m, Nat.mul_add, Nat.pow_succ, Nat.mul_comm (2 ^ l.length) 2, Nat.mul_assoc, Nat.add_assoc]
theorem packN_bits8' : ∀ n : Fin 256, packN ((List.range 8).map fun k => Nat.testBit n.val k) = n.val := by decide +kernel
theorem packN_bits8 (c : BitVec 8) : packN (bits8 c) = c.toNat := packN_bits8' ⟨c.toNat, c.isLt⟩

/-! ### single bits -/
def bitAt (s : List (BitVec 8)) (j : Nat) : Bool := (s.getD (j / 8) 0#8).getLsbD (j % 8)

theorem bitsF_range (s : List (BitVec 8)) : bitsF s = (List.range (8 * s.length)).map (bitAt s) := by
  induction s with
  | nil => rfl
  | cons c l ih =>
    rw [bitsF_cons, ih, List.length_cons, show 8 * (l.length + 1) = 8 + 8 * l.length by omega, List.range_add, List.map_append, List.map_map]
    congr 1
    apply List.map_congr_left
    intro k hk
    unfold bitAt
    simp only [Function.comp]
    rw [show (8 + k) / 8 = k / 8 + 1 by omega, show (8 + k) % 8 = k % 8 by omega]
    rfl

theorem xorL_map (l : List Nat) (f g : Nat → Bool) : xorL (l.map f) (l.map g) = l.map fun j => f j ^^ g j := by
  unfold xorL
  rw [List.zipWith_map, List.zipWith_self]

/-- one bit turned -/
theorem bitAt_turn (s : List (BitVec 8)) (j i : Nat) (hj : j / 8 < s.length) :
    bitAt (s.set (j / 8) (s.getD (j / 8) 0#8 ^^^ 1#8 <<< (j % 8))) i = (bitAt s i ^^ decide (i = j)) := by
  unfold bitAt
  by_cases h : i / 8 = j / 8
  · rw [h]
    have e : (s.set (j / 8) (s.getD (j / 8) 0#8 ^^^ 1#8 <<< (j % 8))).getD (j / 8) 0#8 = s.getD (j / 8) 0#8 ^^^ 1#8 <<< (j % 8) := by
      simp [List.getD, List.getElem?_set, hj]
    rw [e, BitVec.getLsbD_xor]
    congr 1
    rw [BitVec.getLsbD_shiftLeft]
    have h8 : i % 8 < 8 := Nat.mod_lt _ (by decide)
    rw [BitVec.getLsbD_one]
    by_cases h3 : i = j
    · subst h3; simp [h8]
    · have : i % 8 ≠ j % 8 := by omega
      simp only [h3, decide_false, h8]
      rcases Nat.lt_or_ge (i % 8) (j % 8) with h4 | h4
      · simp [h4]
      · have : i % 8 - j % 8 ≠ 0 := by omega
        simp [this]
  · have e : (s.set (j / 8) (s.getD (j / 8) 0#8 ^^^ 1#8 <<< (j % 8))).getD (i / 8) 0#8 = s.getD (i / 8) 0#8 := by
      simp [List.getD, List.getElem?_set, Ne.symm h]
    rw [e]
    have : i ≠ j := by rintro rfl; exact h rfl
    simp [this]

/-- the burst's bits: from place k on, the first i -/
def burstE (k i : Nat) (x : BitVec 32) (j : Nat) : Bool := decide (k ≤ j) && decide (j < k + i) && x.getLsbD (j - k)
theorem burstE_zero (k : Nat) (x : BitVec 32) (j : Nat) : burstE k 0 x j = false := by
  unfold burstE
  by_cases h : k ≤ j
  · have : ¬ j < k + 0 := by omega
    rw [decide_eq_false this]
    simp
  · simp [h]
theorem burstE_succ (k i : Nat) (x : BitVec 32) (j : Nat) : burstE k (i + 1) x j = (burstE k i x j ^^ (x.getLsbD i && decide (j = k + i))) := by
  unfold burstE
  by_cases h : j = k + i
  · subst h
    simp
  · by_cases h2 : j < k + i
    · have : j < k + (i + 1) := by omega
      simp [h, h2, this]
    · have : ¬ j < k + (i + 1) := by omega
      simp [h, h2, this]
theorem burstE_list (k i n : Nat) (x : BitVec 32) (hn : k + i ≤ n) :
    (List.range n).map (burstE k i x) = List.replicate k false ++ ((List.range i).map (fun j => x.getLsbD j) ++ List.replicate (n - k - i) false) := by
  obtain ⟨m, rfl⟩ : ∃ m, n = k + (i + m) := ⟨n - k - i, by omega⟩
  rw [List.range_add, List.map_append, List.map_map, List.range_add, List.map_append, List.map_map, show k + (i + m) - k - i = m by omega]
  congr 1
  · rw [List.eq_replicate_iff]
    refine ⟨by simp, fun b hb => ?_⟩
    obtain ⟨j, hj, rfl⟩ := List.mem_map.1 hb
    have := List.mem_range.1 hj
    have h : ¬ k ≤ j := by omega
    simp [burstE, h]
  · congr 1
    · apply List.map_congr_left
      intro j hj
      have := List.mem_range.1 hj
      simp [burstE, this]
    · rw [List.eq_replicate_iff]
      refine ⟨by simp, fun b hb => ?_⟩
      obtain ⟨j, hj, rfl⟩ := List.mem_map.1 hb
      have : ¬ (k + (i + j) < k + i) := by omega
      show (decide (k ≤ k + (i + j)) && decide (k + (i + j) < k + i) && x.getLsbD (k + (i + j) - k)) = false
      rw [decide_eq_false this]
      simp

/-- a burst that leads to naught is none -/
theorem burst_none (k i n : Nat) (x : BitVec 32) (hn : k + i ≤ n) (hi : i ≤ 32) (h : crcB 0#32 ((List.range n).map (burstE k i x)) = 0#32) : ∀ j, j < i → x.getLsbD j = false := by
  rw [burstE_list k i n x hn, crcB_append, crcB_zeros, crcB_append] at h
  have h1 := crcB_zeros_inj h
  have h2 := crcB_zero_back _ 0#32 (by simpa using hi) h1
  have h3 := packN_zero _ h2.symm
  intro j hj
  exact h3 _ (List.mem_map.2 ⟨j, List.mem_range.2 hj, rfl⟩)

/-! ### sealed texts -/
theorem packN_bitsF : ∀ t : List (BitVec 8), packN (bitsF t) = decN t
  | [] => rfl
  | c :: l => by rw [bitsF_cons, packN_append, packN_bits8, bits8_len, packN_bitsF l]; rfl

theorem xor_full {r t : BitVec 32} : r ^^^ t = BitVec.allOnes 32 ↔ ~~~r = t := by
  constructor
  · intro h
    have h1 : r ^^^ (r ^^^ t) = r ^^^ BitVec.allOnes 32 := by rw [h]
    rw [← BitVec.xor_assoc, BitVec.xor_self, BitVec.zero_xor, BitVec.xor_allOnes] at h1
    exact h1.symm
  · rintro rfl
    rw [← BitVec.xor_allOnes, ← BitVec.xor_assoc, BitVec.xor_self, BitVec.zero_xor]

theorem sealed_iff (b t : List (BitVec 8)) (ht : t.length = 4) :
    sumF b = BitVec.ofNat 32 (decN t) ↔ crcB (BitVec.allOnes 32) (bitsF (b ++ t)) = crcB (BitVec.allOnes 32) (List.replicate 32 false) := by
  have e : (~~~0#32 : BitVec 32) = BitVec.allOnes 32 := by decide
  unfold sumF onF
  rw [e, bitsF_append, crcB_append, crcB_word _ (bitsF t) (by rw [bitsF_len, ht]), packN_bitsF]
  generalize crcB (BitVec.allOnes 32) (bitsF b) = R
  rw [← xor_full]
  constructor
  · intro h; rw [h]
  · intro h; exact crcB_inj _ h

/-- a sealed text with a burst of turned bits is sealed only where no bit was turned -/
theorem turned_sealed (b t b' t' : List (BitVec 8)) (k i : Nat) (x : BitVec 32) (ht : t.length = 4) (ht' : t'.length = 4) (hl : b'.length = b.length) (hi : i ≤ 32) (hk : k + i ≤ 8 * (b.length + 4))
    (hs : sumF b = BitVec.ofNat 32 (decN t)) (hb : ∀ j, j < 8 * (b.length + 4) → bitAt (b' ++ t') j = (bitAt (b ++ t) j ^^ burstE k i x j)) :
    sumF b' = BitVec.ofNat 32 (decN t') ↔ ∀ j, j < i → x.getLsbD j = false := by
  have h0 := (sealed_iff b t ht).1 hs
  have e1 : bitsF (b' ++ t') = xorL (bitsF (b ++ t)) ((List.range (8 * (b.length + 4))).map (burstE k i x)) := by
    rw [bitsF_range, bitsF_range, List.length_append, List.length_append, hl, ht, ht', xorL_map]
    exact List.map_congr_left fun j hj => hb j (List.mem_range.1 hj)
  have h1 := crcB_xor (bitsF (b ++ t)) ((List.range (8 * (b.length + 4))).map (burstE k i x)) (BitVec.allOnes 32) 0#32 (by rw [bitsF_len]; simp [ht])
  rw [BitVec.xor_zero, ← e1, h0] at h1
  rw [sealed_iff b' t' ht', h1]
  constructor
  · intro h
    apply burst_none k i _ x hk hi
    have h2 : ∀ a c : BitVec 32, a ^^^ c = a → c = 0#32 := by
      intro a c h
      have h3 : a ^^^ (a ^^^ c) = a ^^^ a := by rw [h]
      rwa [← BitVec.xor_assoc, BitVec.xor_self, BitVec.zero_xor] at h3
    exact h2 _ _ h
  · intro h
    have e2 : (List.range (8 * (b.length + 4))).map (burstE k i x) = List.replicate (8 * (b.length + 4)) false := by
      rw [List.eq_replicate_iff]
      refine ⟨by simp, fun y hy => ?_⟩
      obtain ⟨j, hj, rfl⟩ := List.mem_map.1 hy
      unfold burstE
      by_cases h1 : k ≤ j
      · by_cases h2 : j < k + i
        · rw [h (j - k) (by omega)]; simp
        · simp [h2]
      · simp [h1]
    rw [e2, crcB_zeros, BitVec.xor_zero]

/-! ### texts laid over one another -/
def xorB (a b : List (BitVec 8)) : List (BitVec 8) := List.zipWith (· ^^^ ·) a b
theorem bits8_xor (a b : BitVec 8) : bits8 (a ^^^ b) = xorL (bits8 a) (bits8 b) := by
  unfold bits8
  rw [xorL_map]
  apply List.map_congr_left
  intro k _
  rw [BitVec.getLsbD_xor]
theorem xorL_append {a b c d : List Bool} (h : a.length = c.length) : xorL (a ++ b) (c ++ d) = xorL a c ++ xorL b d := List.zipWith_append h
theorem bitsF_xor : ∀ a b : List (BitVec 8), a.length = b.length → bitsF (xorB a b) = xorL (bitsF a) (bitsF b)
  | [], [], _ => rfl
  | x :: a, y :: b, h => by
    show bitsF ((x ^^^ y) :: xorB a b) = _
    rw [bitsF_cons, bitsF_cons, bitsF_cons, bits8_xor, bitsF_xor a b (by simpa using h), xorL_append (by rw [bits8_len, bits8_len])]
  | [], _ :: _, h => by simp at h
  | _ :: _, [], h => by simp at h
theorem sum_linear (a b c : List (BitVec 8)) (h1 : a.length = b.length) (h2 : a.length = c.length) : sumF (xorB (xorB a b) c) = sumF a ^^^ sumF b ^^^ sumF c := by
  have hab : (xorB a b).length = a.length := by simp [xorB, h1]
  unfold sumF onF
  have e : (~~~0#32 : BitVec 32) = BitVec.allOnes 32 := by decide
  rw [e, bitsF_xor _ _ (by omega), bitsF_xor _ _ h1]
  have g1 := crcB_xor (bitsF a) (bitsF b) (BitVec.allOnes 32) (BitVec.allOnes 32) (by rw [bitsF_len, bitsF_len, h1])
  have g2 := crcB_xor (xorL (bitsF a) (bitsF b)) (bitsF c) (BitVec.allOnes 32 ^^^ BitVec.allOnes 32) (BitVec.allOnes 32) (by rw [xorL, List.length_zipWith, bitsF_len, bitsF_len, bitsF_len]; omega)
  rw [BitVec.xor_self, BitVec.zero_xor] at g2
  rw [g2, ← BitVec.xor_self (x := BitVec.allOnes 32), g1]
  simp only [← BitVec.xor_allOnes]
  generalize crcB (BitVec.allOnes 32) (bitsF a) = p
  generalize crcB (BitVec.allOnes 32) (bitsF b) = q
  generalize crcB (BitVec.allOnes 32) (bitsF c) = r
  rw [show p ^^^ BitVec.allOnes 32 ^^^ (q ^^^ BitVec.allOnes 32) = p ^^^ q ^^^ (BitVec.allOnes 32 ^^^ BitVec.allOnes 32) by ac_rfl, BitVec.xor_self, BitVec.xor_zero]
  ac_rfl

end Go.Proofs.Ytgipackjnncabaa
