/- Plain laws of layer 22: two slots of a flash. No program in sight. -/
import Derived.Test.YtgipackjnncabaaPl07b
set_option linter.unusedSimpArgs false
set_option linter.unusedVariables false
namespace Go.Proofs.Ytgipackjnncabaa

/-- words outside a place are as they were -/
def Out (a b : Nat) (ws vs : List (BitVec 32)) : Prop := vs.length = ws.length ∧ ∀ i, i < a ∨ b ≤ i → vs.getD i 0#32 = ws.getD i 0#32
section
variable {a b : Nat} {ws vs us : List (BitVec 32)} {s : FS}
theorem Out.refl (a b : Nat) (ws : List (BitVec 32)) : Out a b ws ws := ⟨rfl, fun _ _ => rfl⟩
theorem Out.trans (h : Out a b ws vs) (k : Out a b vs us) : Out a b ws us := ⟨k.1.trans h.1, fun i hi => (k.2 i hi).trans (h.2 i hi)⟩
theorem Out.prog (i : Int) (x : BitVec 32) (h1 : (a : Int) ≤ i) (h2 : i < b) : Out a b s.ws (progF s i x).1.ws := by
  unfold progF
  split
  · exact Out.refl _ _ _
  · split
    · exact Out.refl _ _ _
    · split
      · exact ⟨by simp [FS.tore], fun k hk => by show (s.ws.set _ _).getD k 0#32 = _; rw [set_get0 _ _ _ _ (by omega), if_neg (by omega)]⟩
      · exact ⟨by simp [FS.did], fun k hk => by show (s.ws.set _ _).getD k 0#32 = _; rw [set_get0 _ _ _ _ (by omega), if_neg (by omega)]⟩
theorem Out.erase (n : Nat) (h1 : a ≤ 256 * n) (h2 : 256 * (n + 1) ≤ b) : Out a b s.ws (eraseF s n).1.ws := by
  have hm : s.mask.toNat % 257 ≤ 256 := by omega
  unfold eraseF
  split
  · exact Out.refl _ _ _
  · split
    · exact Out.refl _ _ _
    · split
      · refine ⟨by show (s.tore _).ws.length = _; rw [tore_ws, fillF_len], fun k hk => ?_⟩
        show (s.tore _).ws.getD k 0#32 = _
        rw [tore_ws, fill_get0, if_neg (by omega)]
      · refine ⟨by show (s.did _).ws.length = _; rw [did_ws, fillF_len], fun k hk => ?_⟩
        show (s.did _).ws.getD k 0#32 = _
        rw [did_ws, fill_get0, if_neg (by omega)]
theorem Out.progAll : ∀ (xs : List (BitVec 32)) (s : FS) (i : Int), (a : Int) ≤ i → i + xs.length ≤ b → Out a b s.ws (progAllF s i xs).1.ws
  | [], s, i, _, _ => Out.refl _ _ _
  | x :: xs, s, i, h1, h2 => by
    rw [List.length_cons] at h2
    have g := Out.prog (a := a) (b := b) (s := s) i x h1 (by omega)
    unfold progAllF
    split
    · exact g.trans (Out.progAll xs _ (i + 1) (by omega) (by omega))
    · exact g
end

/-- sectors erased, one behind the other -/
def eraseAllF (s : FS) (n : Nat) : Nat → FS × Int
  | 0 => (s, 0)
  | k + 1 => if (eraseF s n).2 = 0 then eraseAllF (eraseF s n).1 (n + 1) k else ((eraseF s n).1, (eraseF s n).2)
theorem Out.eraseAll {a b : Nat} : ∀ (k : Nat) (s : FS) (n : Nat), a ≤ 256 * n → 256 * (n + k) ≤ b → Out a b s.ws (eraseAllF s n k).1.ws
  | 0, s, n, _, _ => Out.refl _ _ _
  | k + 1, s, n, h1, h2 => by
    have g := Out.erase (a := a) (b := b) (s := s) n h1 (by omega)
    unfold eraseAllF
    split
    · exact g.trans (Out.eraseAll k _ (n + 1) (by omega) (by omega))
    · exact g
theorem fill_add (ws : List (BitVec 32)) (a k l : Nat) : fillF (fillF ws a k) (a + k) l = fillF ws a (k + l) := by
  apply ext0
  · simp [fillF_len]
  · intro i hi
    rw [fill_get0, fill_get0, fill_get0, fillF_len]
    by_cases h1 : a + k ≤ i ∧ i < a + k + l ∧ i < ws.length
    · rw [if_pos h1, if_pos (by omega)]
    · rw [if_neg h1]
      by_cases h2 : a ≤ i ∧ i < a + k ∧ i < ws.length
      · rw [if_pos h2, if_pos (by omega)]
      · rw [if_neg h2, if_neg (by omega)]
theorem eraseAll_cases : ∀ (k : Nat) (s : FS) (n : Nat), s.off = false → 256 * (n + k) ≤ s.ws.length →
    (∃ t, eraseAllF s n k = (t, 0) ∧ t.ws = fillF s.ws (256 * n) (256 * k) ∧ t.off = false ∧ (s.left < 0 → t.left < 0)) ∨
    (∃ t q, eraseAllF s n k = (t, 7) ∧ q ≤ 256 * k ∧ t.ws = fillF s.ws (256 * n) q ∧ t.off = true ∧ 0 ≤ s.left)
  | 0, s, n, h, _ => .inl ⟨s, rfl, (fillF_zero _ _).symm, h, id⟩
  | k + 1, s, n, h, hl => by
    by_cases hz : s.left = 0
    · have e : eraseF s n = (s.tore (fillF s.ws (256 * n) (s.mask.toNat % 257)), 7) := by
        unfold eraseF
        rw [h, if_neg (by simp), if_neg (by omega), if_pos hz, Int.toNat_natCast]
      refine .inr ⟨_, s.mask.toNat % 257, by rw [eraseAllF, e]; rfl, by omega, rfl, rfl, by omega⟩
    · have e : eraseF s n = (s.did (fillF s.ws (256 * n) 256), 0) := by
        unfold eraseF
        rw [h, if_neg (by simp), if_neg (by omega), if_neg hz, Int.toNat_natCast]
      have ih := eraseAll_cases k (s.did (fillF s.ws (256 * n) 256)) (n + 1) ((did_off _ _).trans h) (by rw [did_ws, fillF_len]; omega)
      have e2 : eraseAllF s n (k + 1) = eraseAllF (s.did (fillF s.ws (256 * n) 256)) (n + 1) k := by rw [eraseAllF, e]; rfl
      rw [e2]
      have ew : ∀ q, fillF (s.did (fillF s.ws (256 * n) 256)).ws (256 * (n + 1)) q = fillF s.ws (256 * n) (256 + q) := fun q => by rw [did_ws]; exact fill_add s.ws (256 * n) 256 q
      rcases ih with ⟨t, h1, h2, h3, h4⟩ | ⟨t, q, h1, h2, h3, h4, h5⟩
      · refine .inl ⟨t, h1, ?_, h3, fun hn => h4 ?_⟩
        · rw [h2, ew]; congr 1; omega
        · show (if 0 < s.left then s.left - 1 else s.left) < 0
          rw [if_neg (by omega)]; exact hn
      · refine .inr ⟨t, 256 + q, h1, by omega, by rw [h3, ew], h4, ?_⟩
        have h5 : 0 ≤ (if 0 < s.left then s.left - 1 else s.left) := h5
        split at h5 <;> omega

/-! ### a slot -/
/-- can there be a version, and a size? -/
def canN (v : BitVec 32) (n : Int) : Prop := v ≠ 0#32 ∧ v ≠ ones ∧ 1 ≤ n ∧ n ≤ 2048
instance (v : BitVec 32) (n : Int) : Decidable (canN v n) := by unfold canN; infer_instance
def badF (slot : Int) : Prop := slot < 0 ∨ 1 < slot
instance (slot : Int) : Decidable (badF slot) := by unfold badF; infer_instance
/-- where a slot's words begin -/
def atF (n : Nat) (slot : Int) : Nat := (n + 3 * slot.toNat) * 256
/-- a slot's head -/
def headW (ws : List (BitVec 32)) (p : Nat) : Option (BitVec 32 × Nat) :=
  if ws.getD (p + 2) 0#32 = 0#32 ∧ canN (ws.getD p 0#32) (ws.getD (p + 1) 0#32).toNat then some (ws.getD p 0#32, (ws.getD (p + 1) 0#32).toNat) else none
def headF (s : FS) (n : Nat) (slot : Int) : Option (BitVec 32 × Nat) := if s.off = true ∨ badF slot then none else headW s.ws (atF n slot)
/-- does a slot of size m have chunk k? -/
def bitB (ws : List (BitVec 32)) (p m k : Nat) : Bool := decide (64 * k < m ∧ ws.getD (p + 3 + k) 0#32 = 0#32)
def haveB (ws : List (BitVec 32)) (p m : Nat) : Nat → BitVec 32
  | 0 => 0#32
  | k + 1 => haveB ws p m k ||| (if bitB ws p m k = true then BitVec.twoPow 32 k else 0#32)
def allB (ws : List (BitVec 32)) (p m k : Nat) : Bool := (List.range k).all fun i => decide (64 * i < m → ws.getD (p + 3 + i) 0#32 = 0#32)
def haveW (ws : List (BitVec 32)) (p : Nat) : BitVec 32 × Bool :=
  match headW ws p with
  | none => (0#32, false)
  | some (_, m) => (haveB ws p m 32, allB ws p m 32)
def haveF (s : FS) (n : Nat) (slot : Int) : BitVec 32 × Bool := if s.off = true ∨ badF slot then (0#32, false) else haveW s.ws (atF n slot)
def sealedF (s : FS) (n : Nat) (slot : Int) : Bool := (haveF s n slot).2 && decide (s.ws.getD (atF n slot + 35) 0#32 = 0#32)
def checkF (s : FS) (slot : Int) : Int := if s.off = true then 7 else if badF slot then 1 else 0
/-- how many bytes a chunk has -/
def lenC (m k : Nat) : Nat := min 64 (m - 64 * k)
def sliceF (ws : List (BitVec 32)) (a k : Nat) : List (BitVec 32) := (ws.drop a).take k

def dropSF (s : FS) (n : Nat) (slot : Int) : FS × Int := if checkF s slot ≠ 0 then (s, checkF s slot) else eraseF s ((n + 3 * slot.toNat : Nat) : Int)
def beginSF (s : FS) (n : Nat) (slot : Int) (v : BitVec 32) (m : Int) : FS × Int :=
  if checkF s slot ≠ 0 then (s, checkF s slot) else if ¬ canN v m then (s, 1)
  else if (eraseAllF s (n + 3 * slot.toNat) 3).2 = 0 then progAllF (eraseAllF s (n + 3 * slot.toNat) 3).1 (atF n slot) [v, BitVec.ofInt 32 m, 0#32]
  else ((eraseAllF s (n + 3 * slot.toNat) 3).1, 7)
def writeSF (s : FS) (n : Nat) (slot chunk : Int) (b : List (BitVec 8)) : FS × Int :=
  if checkF s slot ≠ 0 then (s, checkF s slot) else
  match headW s.ws (atF n slot) with
  | none => (s, 8)
  | some (_, m) =>
    if ¬ (0 ≤ chunk ∧ chunk < 32 ∧ 64 * chunk < m ∧ b.length = lenC m chunk.toNat) then (s, 1)
    else if sealedF s n slot = true then (s, 25)
    else if s.ws.getD (atF n slot + 3 + chunk.toNat) 0#32 = 0#32 then (s, 0)
    else if (progAllF s ((atF n slot + 256 + 16 * chunk.toNat : Nat) : Int) (wordsF b)).2 = 0 then
      if sliceF (progAllF s ((atF n slot + 256 + 16 * chunk.toNat : Nat) : Int) (wordsF b)).1.ws (atF n slot + 256 + 16 * chunk.toNat) (wordsF b).length = wordsF b then
        progF (progAllF s ((atF n slot + 256 + 16 * chunk.toNat : Nat) : Int) (wordsF b)).1 ((atF n slot + 3 + chunk.toNat : Nat) : Int) 0#32
      else ((progAllF s ((atF n slot + 256 + 16 * chunk.toNat : Nat) : Int) (wordsF b)).1, 4)
    else ((progAllF s ((atF n slot + 256 + 16 * chunk.toNat : Nat) : Int) (wordsF b)).1, 7)
/-- what is wrong, if a slot is not whole -/
def wholeSF (s : FS) (n : Nat) (slot : Int) : Nat × Int :=
  if checkF s slot ≠ 0 then (0, checkF s slot) else
  match headW s.ws (atF n slot) with
  | none => (0, 8)
  | some (_, m) => if (haveW s.ws (atF n slot)).2 = true then (m, 0) else (0, 2)
def bytesSF (s : FS) (n : Nat) (slot : Int) : List (BitVec 8) × Int :=
  if (wholeSF s n slot).2 = 0 then ((bytesF (sliceF s.ws (atF n slot + 256) (((wholeSF s n slot).1 + 3) / 4))).take (wholeSF s n slot).1, 0) else ([], (wholeSF s n slot).2)
def sealSF (s : FS) (n : Nat) (slot : Int) : FS × Int :=
  if (wholeSF s n slot).2 = 0 then progF s ((atF n slot + 35 : Nat) : Int) 0#32 else (s, (wholeSF s n slot).2)

section
variable {s : FS} {n : Nat} {slot : Int} {ws : List (BitVec 32)} {p m : Nat}
theorem check_zero (h : checkF s slot = 0) : s.off = false ∧ ¬ badF slot := by
  unfold checkF at h
  split at h
  · exact absurd h (by decide)
  · split at h
    · exact absurd h (by decide)
    · rename_i h1 h2
      exact ⟨by simpa using h1, h2⟩
theorem check_ok (h : s.off = false) (h2 : ¬ badF slot) : checkF s slot = 0 := by
  unfold checkF
  rw [h, if_neg (by simp), if_neg h2]

/-! ### what is done to a slot stays in it -/
theorem lenC_le (m k : Nat) : lenC m k ≤ 64 := Nat.min_le_left _ _
theorem headW_size {x : BitVec 32 × Nat} (h : headW ws p = some x) : canN x.1 x.2 ∧ ws.getD (p + 2) 0#32 = 0#32 ∧ ws.getD p 0#32 = x.1 ∧ (ws.getD (p + 1) 0#32).toNat = x.2 := by
  unfold headW at h
  split at h
  · rename_i k
    cases h
    exact ⟨k.2, k.1, rfl, rfl⟩
  · cases h
theorem drop_out : Out (atF n slot) (atF n slot + 768) s.ws (dropSF s n slot).1.ws := by
  unfold dropSF atF
  split
  · exact Out.refl _ _ _
  · exact Out.erase _ (by omega) (by omega)
theorem begin_out (v : BitVec 32) (m : Int) : Out (atF n slot) (atF n slot + 768) s.ws (beginSF s n slot v m).1.ws := by
  unfold beginSF
  have g : Out (atF n slot) (atF n slot + 768) s.ws (eraseAllF s (n + 3 * slot.toNat) 3).1.ws := Out.eraseAll 3 s _ (by unfold atF; omega) (by unfold atF; omega)
  split
  · exact Out.refl _ _ _
  · split
    · exact Out.refl _ _ _
    · split
      · exact g.trans (Out.progAll _ _ _ (by omega) (by show ((atF n slot : Nat) : Int) + ((3 : Nat) : Int) ≤ _; omega))
      · exact g
theorem write_out (chunk : Int) (b : List (BitVec 8)) : Out (atF n slot) (atF n slot + 768) s.ws (writeSF s n slot chunk b).1.ws := by
  unfold writeSF
  split
  · exact Out.refl _ _ _
  · split
    · exact Out.refl _ _ _
    · rename_i v m hm
      split
      · exact Out.refl _ _ _
      · rename_i h1
        have h1 := Decidable.not_not.1 h1
        have hb : b.length ≤ 64 := by rw [h1.2.2.2]; exact lenC_le _ _
        have g : Out (atF n slot) (atF n slot + 768) s.ws (progAllF s ((atF n slot + 256 + 16 * chunk.toNat : Nat) : Int) (wordsF b)).1.ws :=
          Out.progAll _ _ _ (by omega) (by rw [wordsF_len]; omega)
        split
        · exact Out.refl _ _ _
        · split
          · exact Out.refl _ _ _
          · split
            · split
              · exact g.trans (Out.prog _ _ (by omega) (by omega))
              · exact g
            · exact g
theorem seal_out : Out (atF n slot) (atF n slot + 768) s.ws (sealSF s n slot).1.ws := by
  unfold sealSF
  split
  · exact Out.prog _ _ (by omega) (by omega)
  · exact Out.refl _ _ _

/-! ### the chunks that a slot has, as bits -/
theorem haveB_bit (ws : List (BitVec 32)) (p m : Nat) : ∀ (K i : Nat), K ≤ 32 → i < 32 → (haveB ws p m K).getLsbD i = (decide (i < K) && bitB ws p m i)
  | 0, i, _, _ => by simp [haveB]
  | K + 1, i, hK, hi => by
    rw [haveB, BitVec.getLsbD_or, haveB_bit ws p m K i (by omega) hi]
    by_cases h : i = K
    · subst h
      cases hb : bitB ws p m i <;> simp [hi]
    · have e : decide (i < K + 1) = decide (i < K) := by rw [decide_eq_decide]; omega
      rw [e]
      cases hb : bitB ws p m K <;> simp [Ne.symm h]
theorem haveB_more {K : Nat} (hK : m ≤ 64 * K) : ∀ j, haveB ws p m (K + j) = haveB ws p m K
  | 0 => rfl
  | j + 1 => by
    rw [← Nat.add_assoc, haveB, haveB_more hK j]
    have : bitB ws p m (K + j) = false := by unfold bitB; exact decide_eq_false (by omega)
    rw [this, if_neg (by simp), BitVec.or_zero]
theorem allB_succ (ws : List (BitVec 32)) (p m k : Nat) : allB ws p m (k + 1) = (allB ws p m k && decide (64 * k < m → ws.getD (p + 3 + k) 0#32 = 0#32)) := by
  unfold allB; rw [List.range_succ, List.all_append]; simp
theorem allB_iff {k : Nat} : allB ws p m k = true ↔ ∀ i, i < k → 64 * i < m → ws.getD (p + 3 + i) 0#32 = 0#32 := by
  unfold allB
  rw [List.all_eq_true]
  constructor
  · intro h i hi
    exact of_decide_eq_true (h i (List.mem_range.2 hi))
  · intro h i hi
    exact decide_eq_true (h i (List.mem_range.1 hi))
theorem allB_more {K : Nat} (hK : m ≤ 64 * K) (j : Nat) : allB ws p m (K + j) = allB ws p m K := by
  rw [Bool.eq_iff_iff, allB_iff, allB_iff]
  exact ⟨fun h i hi hm => h i (by omega) hm, fun h i hi hm => h i (by omega) hm⟩
/-- bits that are not there yet: or is and -/
theorem haveB_add (ws : List (BitVec 32)) (p m k : Nat) (hk : k < 32) : haveB ws p m k + BitVec.twoPow 32 k = haveB ws p m k ||| BitVec.twoPow 32 k := by
  rw [BitVec.add_eq_or_of_and_eq_zero]
  apply BitVec.eq_of_getLsbD_eq
  intro i hi
  rw [BitVec.getLsbD_and, haveB_bit ws p m k i (by omega) hi, BitVec.getLsbD_twoPow]
  by_cases h : i = k
  · subst h; simp
  · simp [Ne.symm h]
end

/-! ### begun -/
theorem ofInt_size {m : Int} (h : 1 ≤ m ∧ m ≤ 2048) : (BitVec.ofInt 32 m).toNat = m.toNat := by
  rw [BitVec.toNat_ofInt]
  omega
theorem headW_begun {ws : List (BitVec 32)} {p : Nat} {v : BitVec 32} {m : Int} (hc : canN v m) (h0 : ws.getD p 0#32 = v) (h1 : ws.getD (p + 1) 0#32 = BitVec.ofInt 32 m) (h2 : ws.getD (p + 2) 0#32 = 0#32) : headW ws p = some (v, m.toNat) := by
  unfold headW
  have e := ofInt_size hc.2.2
  have hm : ((m.toNat : Nat) : Int) = m := Int.toNat_of_nonneg (by have := hc.2.2.1; omega)
  rw [h0, h1, h2, e, hm, if_pos ⟨rfl, hc⟩]
theorem headW_none {ws : List (BitVec 32)} {p : Nat} (h : ws.getD p 0#32 = ones ∨ ws.getD (p + 2) 0#32 ≠ 0#32) : headW ws p = none := by
  unfold headW
  rw [if_neg]
  rintro ⟨h1, h2, h3, _⟩
  rcases h with h | h
  · exact h3 h
  · exact h h1
/-- a slot that was begun, and has nothing yet -/
structure Fresh (ws : List (BitVec 32)) (p : Nat) (v : BitVec 32) (m : Nat) : Prop where
  head : headW ws p = some (v, m)
  rest : ∀ i, 3 ≤ i → i < 768 → ws.getD (p + i) 0#32 = ones

theorem begin_cases {s : FS} {n : Nat} {slot : Int} {v : BitVec 32} {m : Int} (hs : s.off = false) (hb : ¬ badF slot) (hc : canN v m) (hl : atF n slot + 768 ≤ s.ws.length) :
    (∃ t, beginSF s n slot v m = (t, 0) ∧ Fresh t.ws (atF n slot) v m.toNat ∧ t.off = false ∧ (s.left < 0 → t.left < 0)) ∨
    (∃ t, beginSF s n slot v m = (t, 7) ∧ t.off = true ∧ 0 ≤ s.left ∧ (Fresh t.ws (atF n slot) v m.toNat ∨ t.ws = s.ws ∨ headW t.ws (atF n slot) = none)) := by
  unfold beginSF
  rw [check_ok hs hb, if_neg (by simp), if_neg (fun k => k hc)]
  have hp : atF n slot = 256 * (n + 3 * slot.toNat) := by unfold atF; omega
  have g := eraseAll_cases 3 s (n + 3 * slot.toNat) hs (by omega)
  rw [← hp] at g
  generalize atF n slot = p at *
  rcases g with ⟨t, g1, g2, g3, g4⟩ | ⟨t, q, g1, g2, g3, g4, g5⟩
  · rw [g1, if_pos rfl]
    have hlt : t.ws.length = s.ws.length := by rw [g2, fillF_len]
    have ho : ∀ i, i < 768 → t.ws.getD (p + i) 0#32 = ones := fun i hi => by rw [g2, fill_get0, if_pos (by omega)]
    have k := progAll_cases [v, BitVec.ofInt 32 m, 0#32] t p g3 (by simp; omega)
    have whole : ∀ u : FS, u.ws = putW t.ws p [v, BitVec.ofInt 32 m, 0#32] → Fresh u.ws p v m.toNat := by
      intro u e
      have get : ∀ i, i < 768 → u.ws.getD (p + i) 0#32 = if i < 3 then [v, BitVec.ofInt 32 m, 0#32].getD i 0#32 else ones := by
        intro i hi
        rw [e, putW_getD _ _ _ _ (by simp; omega), ho i hi]
        by_cases h : i < 3
        · rw [if_pos h, if_pos (by simp; omega), and_ones, show p + i - p = i by omega]
        · rw [if_neg h, if_neg (by simp; omega)]
      exact ⟨headW_begun hc (by have := get 0 (by decide); simpa using this) (by rw [get 1 (by decide)]; rfl) (by rw [get 2 (by decide)]; rfl), fun i h1 h2 => by rw [get i h2, if_neg (by omega)]⟩
    rcases k with ⟨u, k1, k2, k3, k4, k5, _⟩ | ⟨u, i, k1, k2, k3, k4, k5, _⟩
    · exact .inl ⟨u, k1, whole u k2, k3, fun h => k5 (g4 h)⟩
    · refine .inr ⟨u, k1, k4, ?_, ?_⟩
      · rcases Int.lt_or_le s.left 0 with h | h
        · have := g4 h; omega
        · exact h
      have get : ∀ j, j < 768 → u.ws.getD (p + j) 0#32 = if j < i + 1 then ([v, BitVec.ofInt 32 m, 0#32].take i ++ [[v, BitVec.ofInt 32 m, 0#32].getD i 0#32 ||| ~~~t.mask]).getD j 0#32 else ones := by
        intro j hj
        have hyl : ([v, BitVec.ofInt 32 m, 0#32].take i ++ [[v, BitVec.ofInt 32 m, 0#32].getD i 0#32 ||| ~~~t.mask]).length = i + 1 := by
          rw [List.length_append, List.length_take, List.length_singleton]; omega
        simp only [List.length_cons, List.length_nil] at k2
        rw [k3, putW_getD _ _ _ _ (by rw [hyl]; omega), ho j hj, hyl]
        by_cases h : j < i + 1
        · rw [if_pos h, if_pos (by omega), and_ones, show p + j - p = j by omega]
        · rw [if_neg h, if_neg (by omega)]
      simp only [List.length_cons, List.length_nil] at k2
      by_cases h2 : i = 2
      · subst h2
        by_cases hz : ~~~t.mask = 0#32
        · left
          refine whole u ?_
          rw [k3, hz, BitVec.or_zero]
          rfl
        · right; right
          refine headW_none (.inr ?_)
          rw [get 2 (by decide)]
          show (0#32 ||| ~~~t.mask) ≠ 0#32
          rw [BitVec.zero_or]
          exact hz
      · right; right
        refine headW_none (.inr ?_)
        rw [get 2 (by decide), if_neg (by omega)]
        decide
  · rw [g1, if_neg (show ¬ ((7 : Int) = 0) by decide)]
    refine .inr ⟨t, rfl, g4, g5, ?_⟩
    by_cases hq : q = 0
    · subst hq
      exact .inr (.inl g3)
    · right; right
      refine headW_none (.inl ?_)
      rw [g3, fill_get0, if_pos (by omega)]

/-- nothing there: no chunk -/
theorem Fresh.have {ws : List (BitVec 32)} {p : Nat} {v : BitVec 32} {m : Nat} (h : Fresh ws p v m) : (haveW ws p).1 = 0#32 := by
  unfold haveW
  rw [h.head]
  show haveB ws p m 32 = 0#32
  apply BitVec.eq_of_getLsbD_eq
  intro i hi
  rw [haveB_bit ws p m 32 i (Nat.le_refl _) hi]
  have : bitB ws p m i = false := by
    unfold bitB
    apply decide_eq_false
    rintro ⟨_, h2⟩
    rw [Nat.add_assoc, h.rest _ (by omega) (by omega)] at h2
    exact absurd h2 (by decide)
  rw [this]
  simp

/-! ### an image in a slot -/
def chunkF (all : List (BitVec 8)) (k : Nat) : List (BitVec 8) := (all.drop (64 * k)).take 64
theorem chunkF_len (all : List (BitVec 8)) (k : Nat) : (chunkF all k).length = lenC all.length k := by unfold chunkF lenC; rw [List.length_take, List.length_drop]
theorem wordsF_get {bs : List (BitVec 8)} {i : Nat} (h : i < (bs.length + 3) / 4) : (wordsF bs).getD i 0#32 = wordOf (four bs i) := by
  simp [wordsF, List.getD, h]
theorem words_chunk (all : List (BitVec 8)) (k i : Nat) (hi : i < (wordsF (chunkF all k)).length) : (wordsF (chunkF all k)).getD i 0#32 = (wordsF all).getD (16 * k + i) 0#32 := by
  rw [wordsF_len, chunkF_len] at hi
  have hi2 : i < 16 ∧ 16 * k + i < (all.length + 3) / 4 := by unfold lenC at hi; omega
  rw [wordsF_get (by rw [chunkF_len]; exact hi), wordsF_get hi2.2]
  congr 1
  unfold four
  apply List.map_congr_left
  intro j hj
  have hj := List.mem_range.1 hj
  unfold chunkF
  simp only [List.getD]
  rw [List.getElem?_take, if_pos (by omega), List.getElem?_drop]
  congr 2; omega

structure Img (ws : List (BitVec 32)) (p : Nat) (v : BitVec 32) (all : List (BitVec 8)) : Prop where
  head : headW ws p = some (v, all.length)
  seal_ : ws.getD (p + 35) 0#32 = ones
  data : ∀ i, i < (wordsF all).length → ws.getD (p + 256 + i) 0#32 &&& (wordsF all).getD i 0#32 = (wordsF all).getD i 0#32
  mark : ∀ k, 64 * k < all.length → ws.getD (p + 3 + k) 0#32 = 0#32 → ∀ i, 16 * k ≤ i → i < 16 * k + (wordsF (chunkF all k)).length → ws.getD (p + 256 + i) 0#32 = (wordsF all).getD i 0#32
  len : p + 768 ≤ ws.length

theorem Fresh.img {ws : List (BitVec 32)} {p : Nat} {v : BitVec 32} {all : List (BitVec 8)} (h : Fresh ws p v all.length) (hl : p + 768 ≤ ws.length) : Img ws p v all := by
  have hc := (headW_size h.head).1.2.2
  have hm : all.length ≤ 2048 := by have := hc.2; omega
  refine ⟨h.head, h.rest 35 (by decide) (by decide), fun i hi => ?_, fun k hk h0 => ?_, hl⟩
  · rw [wordsF_len] at hi
    rw [Nat.add_assoc, h.rest _ (by omega) (by omega), and_ones]
  · rw [Nat.add_assoc, h.rest _ (by omega) (by omega)] at h0
    exact absurd h0 (by decide)

section
variable {s : FS} {n : Nat} {slot : Int} {v : BitVec 32} {all : List (BitVec 8)}
theorem Img.many {ws : List (BitVec 32)} {p : Nat} (h : Img ws p v all) : 1 ≤ all.length ∧ all.length ≤ 2048 := by
  have hc := (headW_size h.head).1.2.2
  have h1 : 1 ≤ (all.length : Int) := hc.1
  have h2 : (all.length : Int) ≤ 2048 := hc.2
  omega

theorem and_idem3 (a x : BitVec 32) (h : a &&& x = x) (m : BitVec 32) : (a &&& (x ||| m)) &&& x = x := by
  rw [BitVec.and_assoc]
  have e : (x ||| m) &&& x = x := by
    apply BitVec.eq_of_getLsbD_eq
    intro i hi
    rw [BitVec.getLsbD_and, BitVec.getLsbD_or]
    cases x.getLsbD i <;> simp
  rw [e, h]

/-- words laid over an image's data: an image still -/
theorem Img.lay {ws : List (BitVec 32)} {p : Nat} (h : Img ws p v all) (k : Nat) (hk : 64 * k < all.length) (hm : ws.getD (p + 3 + k) 0#32 ≠ 0#32) (ys : List (BitVec 32)) (hy : ys.length ≤ (wordsF (chunkF all k)).length)
    (hys : ∀ i, i < ys.length → (ws.getD (p + 256 + (16 * k + i)) 0#32 &&& ys.getD i 0#32) &&& (wordsF all).getD (16 * k + i) 0#32 = (wordsF all).getD (16 * k + i) 0#32) :
    Img (putW ws (p + 256 + 16 * k) ys) p v all ∧ ∀ j, j < 256 → (putW ws (p + 256 + 16 * k) ys).getD (p + j) 0#32 = ws.getD (p + j) 0#32 := by
  have hmany := h.many
  have hcl : (wordsF (chunkF all k)).length ≤ 16 ∧ 16 * k + (wordsF (chunkF all k)).length ≤ (wordsF all).length := by
    rw [wordsF_len, wordsF_len, chunkF_len]; unfold lenC; omega
  have hwl : (wordsF all).length ≤ 512 := by rw [wordsF_len]; omega
  have hlen := h.len
  have get := fun i => putW_getD ys ws (p + 256 + 16 * k) i (by omega)
  have low : ∀ j, j < 256 → (putW ws (p + 256 + 16 * k) ys).getD (p + j) 0#32 = ws.getD (p + j) 0#32 := fun j hj => by rw [get, if_neg (by omega)]
  refine ⟨⟨?_, ?_, ?_, ?_, ?_⟩, low⟩
  · have e := h.head
    unfold headW at e ⊢
    rw [low 1 (by decide), low 2 (by decide), show (putW ws (p + 256 + 16 * k) ys).getD p 0#32 = ws.getD p 0#32 from low 0 (by decide)]
    exact e
  · rw [low 35 (by decide)]; exact h.seal_
  · intro i hi
    rw [get]
    by_cases c : p + 256 + 16 * k ≤ p + 256 + i ∧ p + 256 + i < p + 256 + 16 * k + ys.length
    · rw [if_pos c]
      have g := hys (i - 16 * k) (by omega)
      rw [show 16 * k + (i - 16 * k) = i by omega] at g
      rw [show p + 256 + i - (p + 256 + 16 * k) = i - 16 * k by omega]
      exact g
    · rw [if_neg c]; exact h.data i hi
  · intro j hj h0 i h1 h2
    have hjl : (wordsF (chunkF all j)).length ≤ 16 := by rw [wordsF_len, chunkF_len]; unfold lenC; omega
    rw [Nat.add_assoc p 3 j, low _ (by omega), ← Nat.add_assoc] at h0
    have hne : j ≠ k := by rintro rfl; exact hm h0
    rw [get, if_neg (by omega)]
    exact h.mark j hj h0 i h1 h2
  · rw [putW_len]; exact hlen

theorem img_mark {ws : List (BitVec 32)} {p : Nat} (h : Img ws p v all) (k : Nat) (hk : 64 * k < all.length) (y : BitVec 32)
    (hd : ∀ i, 16 * k ≤ i → i < 16 * k + (wordsF (chunkF all k)).length → ws.getD (p + 256 + i) 0#32 = (wordsF all).getD i 0#32) : Img (ws.set (p + 3 + k) y) p v all := by
  have hmany := h.many
  have hlen := h.len
  have get := fun i => set_get0 ws (p + 3 + k) i y (by omega)
  refine ⟨?_, ?_, ?_, ?_, by rw [List.length_set]; exact hlen⟩
  · have e := h.head
    have l0 : (ws.set (p + 3 + k) y).getD p 0#32 = ws.getD p 0#32 := by rw [get, if_neg (by omega)]
    have l1 : (ws.set (p + 3 + k) y).getD (p + 1) 0#32 = ws.getD (p + 1) 0#32 := by rw [get, if_neg (by omega)]
    have l2 : (ws.set (p + 3 + k) y).getD (p + 2) 0#32 = ws.getD (p + 2) 0#32 := by rw [get, if_neg (by omega)]
    unfold headW at e ⊢
    rw [l0, l1, l2]
    exact e
  · rw [get, if_neg (by omega)]; exact h.seal_
  · intro i hi
    rw [get, if_neg (by omega)]; exact h.data i hi
  · intro j hj h0 i h1 h2
    rw [get, if_neg (by omega)]
    by_cases c : j = k
    · subst c; exact hd i h1 h2
    · rw [get, if_neg (by omega)] at h0
      exact h.mark j hj h0 i h1 h2

/-- a chunk of an image is written -/
theorem write_img (hs : s.off = false) (hb : ¬ badF slot) (h : Img s.ws (atF n slot) v all) (k : Nat) (hk : 64 * k < all.length) :
    (∃ t, writeSF s n slot k (chunkF all k) = (t, 0) ∧ t.off = false ∧ (s.left < 0 → t.left < 0) ∧ s.left - 17 ≤ t.left ∧ Img t.ws (atF n slot) v all ∧ t.ws.getD (atF n slot + 3 + k) 0#32 = 0#32 ∧
      ∀ j, j < 32 → j ≠ k → t.ws.getD (atF n slot + 3 + j) 0#32 = s.ws.getD (atF n slot + 3 + j) 0#32) ∨
    (∃ t, writeSF s n slot k (chunkF all k) = (t, 7) ∧ t.off = true ∧ 0 ≤ s.left ∧ s.left < 17 ∧ Img t.ws (atF n slot) v all ∧
      ∀ j, j < 32 → s.ws.getD (atF n slot + 3 + j) 0#32 = 0#32 → t.ws.getD (atF n slot + 3 + j) 0#32 = 0#32) := by
  have hmany := h.many
  have hlen := h.len
  have hcl : (wordsF (chunkF all k)).length ≤ 16 ∧ 16 * k + (wordsF (chunkF all k)).length ≤ (wordsF all).length := by
    rw [wordsF_len, wordsF_len, chunkF_len]; unfold lenC; omega
  have hwl : (wordsF all).length ≤ 512 := by rw [wordsF_len]; omega
  have hns : sealedF s n slot = false := by
    unfold sealedF
    rw [h.seal_]
    simp only [show ¬ (ones = 0#32) from by decide, decide_false, Bool.and_false]
  have ew : writeSF s n slot k (chunkF all k) = (if s.ws.getD (atF n slot + 3 + k) 0#32 = 0#32 then (s, 0)
      else if (progAllF s ((atF n slot + 256 + 16 * k : Nat) : Int) (wordsF (chunkF all k))).2 = 0 then
        if sliceF (progAllF s ((atF n slot + 256 + 16 * k : Nat) : Int) (wordsF (chunkF all k))).1.ws (atF n slot + 256 + 16 * k) (wordsF (chunkF all k)).length = wordsF (chunkF all k) then
          progF (progAllF s ((atF n slot + 256 + 16 * k : Nat) : Int) (wordsF (chunkF all k))).1 ((atF n slot + 3 + k : Nat) : Int) 0#32
        else ((progAllF s ((atF n slot + 256 + 16 * k : Nat) : Int) (wordsF (chunkF all k))).1, 4)
      else ((progAllF s ((atF n slot + 256 + 16 * k : Nat) : Int) (wordsF (chunkF all k))).1, 7)) := by
    unfold writeSF
    rw [check_ok hs hb, if_neg (by simp), h.head]
    show (if ¬ ((0 : Int) ≤ (k : Int) ∧ (k : Int) < 32 ∧ 64 * (k : Int) < (all.length : Int) ∧ (chunkF all k).length = lenC all.length (k : Int).toNat) then (s, 1) else _) = _
    rw [if_neg (by rw [chunkF_len, Int.toNat_natCast]; omega), hns, if_neg (by simp), Int.toNat_natCast]
  rw [ew]
  clear ew
  by_cases hm : s.ws.getD (atF n slot + 3 + k) 0#32 = 0#32
  · rw [if_pos hm]
    exact .inl ⟨s, rfl, hs, id, by omega, h, hm, fun _ _ _ => rfl⟩
  · rw [if_neg hm]
    have g := progAll_cases (wordsF (chunkF all k)) s (atF n slot + 256 + 16 * k) hs (by omega)
    generalize atF n slot = p at *
    rcases g with ⟨t, g1, g2, g3, g4, g5, g6⟩ | ⟨t, i, g1, g2, g3, g4, g5, g6⟩
    · have k1 := h.lay k hk hm (wordsF (chunkF all k)) (Nat.le_refl _) (fun i hi => by
        rw [words_chunk all k i hi, BitVec.and_assoc, BitVec.and_self]
        exact h.data _ (by omega))
      rw [← g2] at k1
      have hlt : t.ws.length = s.ws.length := by rw [g2, putW_len]
      have hd : ∀ i, 16 * k ≤ i → i < 16 * k + (wordsF (chunkF all k)).length → t.ws.getD (p + 256 + i) 0#32 = (wordsF all).getD i 0#32 := by
        intro i h1 h2
        rw [g2, putW_getD _ _ _ _ (by omega), if_pos (by omega), show p + 256 + i - (p + 256 + 16 * k) = i - 16 * k by omega, words_chunk all k _ (by omega), show 16 * k + (i - 16 * k) = i by omega]
        exact h.data i (by omega)
      have hsl : sliceF t.ws (p + 256 + 16 * k) (wordsF (chunkF all k)).length = wordsF (chunkF all k) := by
        unfold sliceF
        apply ext0
        · rw [List.length_take, List.length_drop]; omega
        · intro i hi
          rw [List.length_take, List.length_drop] at hi
          rw [take_get0 _ _ _ (by omega), drop_get0, Nat.add_assoc, hd _ (by omega) (by omega), words_chunk all k i (by omega)]
      rw [g1, if_pos rfl, if_pos hsl]
      dsimp only
      unfold progF
      rw [g3, if_neg (by simp), if_neg (by omega), Int.toNat_natCast]
      have hmk : ∀ y : BitVec 32, Img (t.ws.set (p + 3 + k) y) p v all := fun y => img_mark k1.1 k hk y hd
      have get := fun i y => set_get0 t.ws (p + 3 + k) i y (by omega)
      by_cases hz : t.left = 0
      · rw [if_pos hz]
        refine .inr ⟨t.tore (t.ws.set (p + 3 + k) (t.ws.getD (p + 3 + k) 0#32 &&& (0#32 ||| ~~~t.mask))), rfl, rfl, ?_, by omega, by rw [tore_ws]; exact hmk _, fun j hj h0 => ?_⟩
        · rcases Int.lt_or_le s.left 0 with q | q
          · have := g5 q; omega
          · exact q
        · rw [tore_ws, get, Nat.add_assoc p 3 j]
          rw [Nat.add_assoc] at h0
          by_cases c : p + (3 + j) = p + 3 + k
          · exact absurd (by rw [← c]; exact h0) hm
          · rw [if_neg c, k1.2 _ (by omega)]; exact h0
      · rw [if_neg hz]
        refine .inl ⟨t.did (t.ws.set (p + 3 + k) (t.ws.getD (p + 3 + k) 0#32 &&& 0#32)), rfl, g3, fun q => ?_, ?_, by rw [did_ws]; exact hmk _, ?_, fun j hj hne => ?_⟩
        · show (if 0 < t.left then t.left - 1 else t.left) < 0
          have := g5 q
          rw [if_neg (by omega)]; exact this
        · show s.left - 17 ≤ (if 0 < t.left then t.left - 1 else t.left)
          split <;> omega
        · rw [did_ws, get, if_pos rfl, BitVec.and_zero]
        · rw [did_ws, get, if_neg (by omega), Nat.add_assoc, k1.2 _ (by omega)]
    · rw [g1, if_neg (show ¬ ((7 : Int) = 0) by decide)]
      have hyl : ((wordsF (chunkF all k)).take i ++ [(wordsF (chunkF all k)).getD i 0#32 ||| ~~~s.mask]).length = i + 1 := by
        rw [List.length_append, List.length_take, List.length_singleton]; omega
      have k1 := h.lay k hk hm ((wordsF (chunkF all k)).take i ++ [(wordsF (chunkF all k)).getD i 0#32 ||| ~~~s.mask]) (by rw [hyl]; omega) (fun j hj => by
        rw [hyl] at hj
        by_cases c : j < i
        · rw [app_getl _ _ _ (by rw [List.length_take]; omega), take_get0 _ _ _ c, words_chunk all k j (by omega), BitVec.and_assoc, BitVec.and_self]
          exact h.data _ (by omega)
        · rw [app_getr _ _ _ (by rw [List.length_take]; omega), List.length_take, show j - min i (wordsF (chunkF all k)).length = 0 by omega, show j = i by omega]
          show (_ &&& ((wordsF (chunkF all k)).getD i 0#32 ||| ~~~s.mask)) &&& _ = _
          rw [words_chunk all k i g2]
          exact and_idem3 _ _ (h.data _ (by omega)) _)
      rw [← g3] at k1
      refine .inr ⟨t, rfl, g4, g5, by omega, k1.1, fun j hj h0 => ?_⟩
      rw [Nat.add_assoc, k1.2 _ (by omega), ← Nat.add_assoc]; exact h0

/-- an image whose chunks are all there -/
theorem img_bytes {ws : List (BitVec 32)} {p : Nat} (h : Img ws p v all) (hall : allB ws p all.length 32 = true) : (bytesF (sliceF ws (p + 256) ((all.length + 3) / 4))).take all.length = all := by
  have hmany := h.many
  have hlen := h.len
  have e : sliceF ws (p + 256) ((all.length + 3) / 4) = wordsF all := by
    unfold sliceF
    apply ext0
    · rw [List.length_take, List.length_drop, wordsF_len]; omega
    · intro i hi
      rw [List.length_take, List.length_drop] at hi
      rw [take_get0 _ _ _ (by omega), drop_get0]
      have hm := allB_iff.1 hall (i / 16) (by omega) (by omega)
      refine h.mark (i / 16) (by omega) hm i (by omega) ?_
      rw [wordsF_len, chunkF_len]; unfold lenC; omega
  rw [e]
  exact bytes_words_take all
theorem img_whole (hs : s.off = false) (hb : ¬ badF slot) (h : Img s.ws (atF n slot) v all) :
    bytesSF s n slot = if allB s.ws (atF n slot) all.length 32 = true then (all, 0) else ([], 2) := by
  have e : wholeSF s n slot = if allB s.ws (atF n slot) all.length 32 = true then (all.length, 0) else (0, 2) := by
    unfold wholeSF haveW
    rw [check_ok hs hb, if_neg (by simp), h.head]
  unfold bytesSF
  rw [e]
  by_cases c : allB s.ws (atF n slot) all.length 32 = true
  · rw [if_pos c, if_pos rfl, if_pos c, img_bytes h c]
  · rw [if_neg c, if_neg (by decide), if_neg c]
theorem img_have (hs : s.off = false) (hb : ¬ badF slot) (h : Img s.ws (atF n slot) v all) : haveF s n slot = (haveB s.ws (atF n slot) all.length 32, allB s.ws (atF n slot) all.length 32) := by
  unfold haveF haveW
  rw [hs, if_neg (by simp [hb]), h.head]
end
end Go.Proofs.Ytgipackjnncabaa
