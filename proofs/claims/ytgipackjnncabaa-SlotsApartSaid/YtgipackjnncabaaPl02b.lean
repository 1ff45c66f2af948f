/- Plain laws of layer 2: bytes as words and back. No program in sight. -/
import Derived.Test.YtgipackjnncabaaW02e
set_option linter.unusedSimpArgs false
set_option linter.unusedVariables false
namespace Go.Proofs.Ytgipackjnncabaa

theorem enc_cons (k n : Nat) : enc (k + 1) n = BitVec.ofNat 8 n :: enc k (n / 256) := by
  unfold enc
  rw [List.range_succ_eq_map, List.map_cons, List.map_map]
  congr 1
  · simp
  · apply List.map_congr_left
    intro i _
    simp only [Function.comp]
    rw [Nat.div_div_eq_div_mul, Nat.pow_succ, Nat.mul_comm]
theorem enc_decN : ∀ l : List (BitVec 8), enc l.length (decN l) = l
  | [] => rfl
  | c :: l => by
    have hc := c.isLt
    show enc (l.length + 1) (c.toNat + 256 * decN l) = c :: l
    rw [enc_cons, show (c.toNat + 256 * decN l) / 256 = decN l by omega, enc_decN l]
    congr 1
    apply BitVec.eq_of_toNat_eq
    rw [BitVec.toNat_ofNat]
    omega

theorem bytesF_cons (x : BitVec 32) (l : List (BitVec 32)) : bytesF (x :: l) = enc 4 x.toNat ++ bytesF l := rfl
theorem bytesF_get : ∀ (ws : List (BitVec 32)) (i j : Nat), i < ws.length → j < 4 → (bytesF ws).getD (4 * i + j) 255#8 = (enc 4 (ws.getD i 0#32).toNat).getD j 255#8
  | [], i, j, h, _ => by simp at h
  | x :: l, 0, j, _, hj => by
    rw [bytesF_cons]
    simp only [List.getD]
    rw [List.getElem?_append_left (by rw [enc_len]; omega)]
    simp
  | x :: l, i + 1, j, h, hj => by
    have ih := bytesF_get l i j (by simpa using h) hj
    rw [bytesF_cons]
    simp only [List.getD] at ih ⊢
    rw [List.getElem?_append_right (by rw [enc_len]; omega), enc_len, show 4 * (i + 1) + j - 4 = 4 * i + j by omega, ih]
    simp

theorem list4 {l m : List (BitVec 8)} (h1 : l.length = 4) (h2 : m.length = 4) (h : ∀ j, j < 4 → l.getD j 255#8 = m.getD j 255#8) : l = m := by
  apply List.ext_getElem (by omega)
  intro i hi hj
  have := h i (by omega)
  simpa [List.getD, List.getElem?_eq_getElem hi, List.getElem?_eq_getElem hj] using this

theorem four_bytes (ws : List (BitVec 32)) (i : Nat) (hi : i < ws.length) : four (bytesF ws) i = enc 4 (ws.getD i 0#32).toNat := by
  apply list4 (four_len _ _) (enc_len _ _)
  intro j hj
  rw [← bytesF_get ws i j hi hj]
  unfold four
  simp [List.getD, hj]

theorem words_bytes (ws : List (BitVec 32)) : wordsF (bytesF ws) = ws := by
  apply List.ext_getElem
  · rw [wordsF_len, bytesF_len]; omega
  · intro i h1 h2
    have e : (wordsF (bytesF ws))[i]'h1 = wordOf (four (bytesF ws) i) := by simp [wordsF]
    rw [e, four_bytes ws i h2]
    unfold wordOf
    rw [decN_enc]
    apply BitVec.eq_of_toNat_eq
    have := (ws.getD i 0#32).isLt
    rw [BitVec.toNat_ofNat, show (256 : Nat) ^ 4 = 2 ^ 32 from rfl, Nat.mod_mod, Nat.mod_eq_of_lt this]
    simp [List.getD, List.getElem?_eq_getElem h2]

theorem bytes_words_len (bs : List (BitVec 8)) : (bytesF (wordsF bs)).length = 4 * ((bs.length + 3) / 4) := by rw [bytesF_len, wordsF_len]

theorem bytes_words_get (bs : List (BitVec 8)) (k : Nat) (hk : k < 4 * ((bs.length + 3) / 4)) : (bytesF (wordsF bs)).getD k 255#8 = bs.getD k 255#8 := by
  have hi : k / 4 < (wordsF bs).length := by rw [wordsF_len]; omega
  have e : k = 4 * (k / 4) + k % 4 := by omega
  have hj : k % 4 < 4 := Nat.mod_lt _ (by decide)
  have ew : (wordsF bs).getD (k / 4) 0#32 = wordOf (four bs (k / 4)) := by
    rw [wordsF_len] at hi
    simp [wordsF, List.getD, hi]
  rw [e, bytesF_get _ _ _ hi hj, ew, wordOf_nat _ (by rw [four_len]; exact Nat.le_refl _)]
  have e4 : enc 4 (decN (four bs (k / 4))) = four bs (k / 4) := by
    have := enc_decN (four bs (k / 4))
    rwa [four_len] at this
  rw [e4, ← e]
  unfold four
  simp only [List.getD]
  simp [hj, List.getElem?_range, ← e]
theorem bytes_words_take (bs : List (BitVec 8)) : (bytesF (wordsF bs)).take bs.length = bs := by
  have hl := bytes_words_len bs
  apply List.ext_getElem
  · rw [List.length_take, hl]; omega
  · intro i h1 h2
    rw [List.getElem_take]
    have := bytes_words_get bs i (by omega)
    simpa [List.getD, List.getElem?_eq_getElem h2, List.getElem?_eq_getElem (show i < (bytesF (wordsF bs)).length by omega)] using this
end Go.Proofs.Ytgipackjnncabaa
