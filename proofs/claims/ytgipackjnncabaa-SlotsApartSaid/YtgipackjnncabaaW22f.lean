/- Layer 22: numbers that are kept; a fixed image. -/
import Derived.Test.YtgipackjnncabaaW22e
set_option linter.unusedVariables false
namespace Go.Proofs.Ytgipackjnncabaa
open Go.Vc Go.RowKit

section
variable {n i : Nat} {s : FS}
theorem Num.eraseAll : ∀ (k : Nat) (s : FS) (i m : Nat), Num s n i → Num (eraseAllF s m k).1 n (i + k)
  | 0, s, i, m, h => h
  | k + 1, s, i, m, h => by
    have g := h.erase (m : Int)
    unfold eraseAllF
    split
    · exact (Num.eraseAll k _ (i + 1) (m + 1) g).up (by omega)
    · exact g.up (by omega)
theorem drop_num {at_ : Nat} {slot : Int} (h : Num s n i) : Num (dropSF s at_ slot).1 n (i + 17) := by
  unfold dropSF
  split
  · exact h.up (by omega)
  · exact (h.erase _).up (by omega)
theorem begin_num {at_ : Nat} {slot : Int} {v : BitVec 32} {m : Int} (h : Num s n i) : Num (beginSF s at_ slot v m).1 n (i + 17) := by
  unfold beginSF
  split
  · exact h.up (by omega)
  · split
    · exact h.up (by omega)
    · have g := Num.eraseAll 3 s i (at_ + 3 * slot.toNat) h
      split
      · exact (Num.all _ _ _ _ g).up (by show i + 3 + 3 ≤ _; omega)
      · exact g.up (by omega)
theorem write_num {at_ : Nat} {slot chunk : Int} {b : List (BitVec 8)} (h : Num s n i) : Num (writeSF s at_ slot chunk b).1 n (i + 17) := by
  unfold writeSF
  split
  · exact h.up (by omega)
  · split
    · exact h.up (by omega)
    · split
      · exact h.up (by omega)
      · rename_i h1
        have h1 := Decidable.not_not.1 h1
        have hb : (wordsF b).length ≤ 16 := by rw [wordsF_len, h1.2.2.2]; have := lenC_le; rename_i m _ _; have := lenC_le m chunk.toNat; omega
        have g := Num.all (wordsF b) s i ((atF at_ slot + 256 + 16 * chunk.toNat : Nat) : Int) h
        split
        · exact h.up (by omega)
        · split
          · exact h.up (by omega)
          · split
            · split
              · exact (g.prog _ _).up (by omega)
              · exact g.up (by omega)
            · exact g.up (by omega)
theorem seal_num {at_ : Nat} {slot : Int} (h : Num s n i) : Num (sealSF s at_ slot).1 n (i + 17) := by
  unfold sealSF
  split
  · exact (h.prog _ _).up (by omega)
  · exact h.up (by omega)
end

/-- the image of the fixed calls -/
def k22A : List (BitVec 8) := List.replicate 64 0#8 ++ [97#8, 98#8, 99#8, 100#8, 101#8, 102#8]
theorem k22_plain {s : FS} (hs : s.off = false) (hl : s.left < 0) (hn : s.ws.length = 1536) :
    ∃ t u, beginSF s 0 0 7#32 70 = (t, 0) ∧ writeSF t 0 0 1 [97#8, 98#8, 99#8, 100#8, 101#8, 102#8] = (u, 0) ∧ haveF u 0 0 = (2#32, false) ∧ bytesSF u 0 0 = ([], 2) ∧ (writeSF u 0 0 2 []).2 = 1 := by
  have hb : ¬ badF 0 := by decide
  have hat : atF 0 0 = 0 := rfl
  have g := begin_cases (n := 0) (slot := 0) (v := 7#32) (m := 70) hs hb (by decide) (by rw [hat, hn]; decide)
  rcases g with ⟨t, g1, g2, g3, g4⟩ | ⟨t, _, _, g3, _⟩
  rotate_left
  · omega
  have hout := begin_out (s := s) (n := 0) (slot := 0) 7#32 70
  rw [g1] at hout
  have hlt : t.ws.length = 1536 := hout.1.trans hn
  have hA : k22A.length = 70 := by decide +kernel
  have g2 : Fresh t.ws (atF 0 0) 7#32 k22A.length := by rw [hA]; exact g2
  have himg := g2.img (all := k22A) (by rw [hat, hlt]; decide)
  have hck : chunkF k22A 1 = [97#8, 98#8, 99#8, 100#8, 101#8, 102#8] := by decide +kernel
  have k := write_img g3 hb himg 1 (by rw [hA]; decide)
  rw [hck] at k
  rcases k with ⟨u, k1, k2, k3, k4, k5, k6, k7⟩ | ⟨u, _, _, k3, _⟩
  rotate_left
  · have := g4 hl; omega
  have hm0 : u.ws.getD (atF 0 0 + 3 + 0) 0#32 = ones := by
    rw [k7 0 (by decide) (by decide)]
    have := g2.rest 3 (by decide) (by decide)
    exact this
  have hall : allB u.ws (atF 0 0) k22A.length 32 = false := by
    cases e : allB u.ws (atF 0 0) k22A.length 32 with
    | false => rfl
    | true =>
      have := allB_iff.1 e 0 (by decide) (by rw [hA]; decide)
      rw [hm0] at this
      exact absurd this (by decide)
  have hhv : haveB u.ws (atF 0 0) k22A.length 32 = 2#32 := by
    have e := haveB_more (ws := u.ws) (p := atF 0 0) (m := k22A.length) (K := 2) (by rw [hA]; decide) 30
    rw [e]
    unfold haveB haveB haveB
    have b0 : bitB u.ws (atF 0 0) k22A.length 0 = false := by
      unfold bitB
      apply decide_eq_false
      rintro ⟨_, q⟩
      rw [hm0] at q
      exact absurd q (by decide)
    have b1 : bitB u.ws (atF 0 0) k22A.length 1 = true := by
      unfold bitB
      exact decide_eq_true ⟨by rw [hA]; decide, k6⟩
    rw [b0, b1]
    decide
  refine ⟨t, u, g1, k1, ?_, ?_, ?_⟩
  · rw [img_have k2 hb k5, hhv, hall]
  · rw [img_whole k2 hb k5, hall, if_neg (by simp)]
  · unfold writeSF
    rw [check_ok k2 hb, if_neg (by simp), k5.head]
    dsimp only
    rw [if_pos]
    rw [hA]
    rintro ⟨_, _, q, _⟩
    exact absurd q (by decide)
end Go.Proofs.Ytgipackjnncabaa
