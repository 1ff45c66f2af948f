/- Plain laws of layer 7: records in a sector. No program in sight. -/
import Derived.Test.YtgipackjnncabaaPl03
import Derived.Test.YtgipackjnncabaaPl06
import Derived.Test.YtgipackjnncabaaPl02b
set_option linter.unusedSimpArgs false
set_option linter.unusedVariables false
namespace Go.Proofs.Ytgipackjnncabaa

/-- a record's words -/
def laidF (n : BitVec 32) (rec : List (BitVec 32)) : List (BitVec 32) :=
  (n :: BitVec.ofNat 32 rec.length :: rec) ++ [sumF (bytesF (n :: BitVec.ofNat 32 rec.length :: rec)), 0#32]
theorem laidF_len (n : BitVec 32) (rec : List (BitVec 32)) : (laidF n rec).length = rec.length + 4 := by simp [laidF]

def numB (h : List (BitVec 32)) : BitVec 32 := h.getD 0 0#32
def sizeB (h : List (BitVec 32)) : Nat := (h.getD 1 0#32).toNat
def recB (h : List (BitVec 32)) : List (BitVec 32) := (h.drop 2).take (sizeB h)
/-- a good record's number, and its size -/
def preB (h : List (BitVec 32)) : Prop := 5 ≤ h.length ∧ (1 ≤ (numB h).toNat ∧ (numB h).toNat ≤ 2147483647) ∧ 1 ≤ sizeB h ∧ sizeB h ≤ 64 ∧ sizeB h + 4 ≤ h.length
/-- a good record -/
def oneB (h : List (BitVec 32)) : Prop := preB h ∧ h.take (sizeB h + 4) = laidF (numB h) (recB h)
/-- is there a good record at the head of these words, behind one of number prev (0: none)? -/
def goodB (h : List (BitVec 32)) (prev : BitVec 32) : Prop := oneB h ∧ (prev = 0#32 ∨ numB h = prev + 1#32)
instance (h : List (BitVec 32)) : Decidable (preB h) := by unfold preB; infer_instance
instance (h : List (BitVec 32)) : Decidable (oneB h) := by unfold oneB; infer_instance
instance (h : List (BitVec 32)) (p : BitVec 32) : Decidable (goodB h p) := by unfold goodB; infer_instance

theorem laid_iff {h : List (BitVec 32)} (hn : sizeB h + 4 ≤ h.length) :
    h.take (sizeB h + 4) = laidF (numB h) (recB h) ↔ h.getD (sizeB h + 2) 0#32 = sumF (bytesF (h.take (sizeB h + 2))) ∧ h.getD (sizeB h + 3) 0#32 = 0#32 := by
  match h, hn with
  | a :: b :: t, hn =>
    have e1 : sizeB (a :: b :: t) = b.toNat := rfl
    have e2 : numB (a :: b :: t) = a := rfl
    have e3 : recB (a :: b :: t) = t.take b.toNat := rfl
    have hlen : b.toNat + 2 ≤ t.length := by rw [e1] at hn; simp at hn; omega
    have el : (t.take b.toNat).length = b.toNat := by rw [List.length_take]; omega
    have eb : BitVec.ofNat 32 (t.take b.toNat).length = b := by rw [el, BitVec.ofNat_toNat, BitVec.setWidth_eq]
    rw [e1, e2, e3]
    have g1 : (a :: b :: t).take (b.toNat + 4) = (a :: b :: t.take b.toNat) ++ [t.getD b.toNat 0#32, t.getD (b.toNat + 1) 0#32] := by
      show a :: b :: t.take (b.toNat + 2) = _
      have : t.take (b.toNat + 2) = t.take b.toNat ++ [t.getD b.toNat 0#32, t.getD (b.toNat + 1) 0#32] := by
        rw [List.take_add_one, List.take_add_one, List.append_assoc]
        simp [List.getD, List.getElem?_eq_getElem (show b.toNat < t.length by omega), List.getElem?_eq_getElem (show b.toNat + 1 < t.length by omega)]
      rw [this]; rfl
    have g2 : (a :: b :: t).take (b.toNat + 2) = a :: b :: t.take b.toNat := rfl
    have g3 : (a :: b :: t).getD (b.toNat + 2) 0#32 = t.getD b.toNat 0#32 := rfl
    have g4 : (a :: b :: t).getD (b.toNat + 3) 0#32 = t.getD (b.toNat + 1) 0#32 := rfl
    rw [g1, g2, g3, g4]
    unfold laidF
    rw [eb, List.append_right_inj]
    simp
  | [a], hn => simp at hn
  | [], hn => simp at hn

/-- what a sector tells from a place on: the last record's number, its words, the place behind -/
def walkF : Nat → List (BitVec 32) → Nat → BitVec 32 → List (BitVec 32) → BitVec 32 × List (BitVec 32) × Nat
  | 0, _, at_, prev, rec => (prev, rec, at_)
  | fuel + 1, w, at_, prev, rec => if goodB (w.drop at_) prev then walkF fuel w (at_ + (sizeB (w.drop at_) + 4)) (numB (w.drop at_)) (recB (w.drop at_)) else (prev, rec, at_)

theorem goodB_size {h : List (BitVec 32)} {prev : BitVec 32} (k : goodB h prev) : 1 ≤ sizeB h ∧ sizeB h ≤ 64 ∧ sizeB h + 4 ≤ h.length := k.1.1.2.2

/-- enough fuel is as good as more -/
theorem walkF_fuel : ∀ (f g : Nat) (w : List (BitVec 32)) (at_ : Nat) (prev : BitVec 32) (rec : List (BitVec 32)), w.length - at_ ≤ f → w.length - at_ ≤ g → walkF f w at_ prev rec = walkF g w at_ prev rec
  | 0, 0, _, _, _, _, _, _ => rfl
  | 0, g + 1, w, at_, prev, rec, h1, h2 => by
    unfold walkF
    rw [if_neg]
    intro hg
    have := goodB_size hg
    rw [List.length_drop] at this
    omega
  | f + 1, 0, w, at_, prev, rec, h1, h2 => by
    unfold walkF
    rw [if_neg]
    intro hg
    have := goodB_size hg
    rw [List.length_drop] at this
    omega
  | f + 1, g + 1, w, at_, prev, rec, h1, h2 => by
    unfold walkF
    by_cases hg : goodB (w.drop at_) prev
    · rw [if_pos hg, if_pos hg]
      have := goodB_size hg
      rw [List.length_drop] at this
      exact walkF_fuel f g w _ _ _ (by omega) (by omega)
    · rw [if_neg hg, if_neg hg]

def goF (w : List (BitVec 32)) (at_ : Nat) (prev : BitVec 32) (rec : List (BitVec 32)) : BitVec 32 × List (BitVec 32) × Nat := walkF (w.length + 1) w at_ prev rec
theorem goF_good {w : List (BitVec 32)} {at_ : Nat} {prev : BitVec 32} {rec : List (BitVec 32)} (h : goodB (w.drop at_) prev) :
    goF w at_ prev rec = goF w (at_ + (sizeB (w.drop at_) + 4)) (numB (w.drop at_)) (recB (w.drop at_)) := by
  unfold goF
  rw [walkF, if_pos h]
  exact walkF_fuel _ _ _ _ _ _ (by omega) (by omega)
theorem goF_stop {w : List (BitVec 32)} {at_ : Nat} {prev : BitVec 32} {rec : List (BitVec 32)} (h : ¬ goodB (w.drop at_) prev) : goF w at_ prev rec = (prev, rec, at_) := by
  unfold goF
  rw [walkF, if_neg h]

/-- a sector's story: number, record, end, and is it clean behind? -/
structure Told where
  number : BitVec 32
  words : List (BitVec 32)
  end_ : Nat
  clean : Bool

def cleanF (w : List (BitVec 32)) : Bool := w.all fun x => decide (x = ones)
def tellF (w : List (BitVec 32)) : Told :=
  ⟨(goF w 0 0#32 []).1, (goF w 0 0#32 []).2.1, (goF w 0 0#32 []).2.2, cleanF (w.drop (goF w 0 0#32 []).2.2)⟩

/-- what is told keeps to bounds -/
theorem walkF_ok : ∀ (f : Nat) (w : List (BitVec 32)) (at_ : Nat) (prev : BitVec 32) (rec : List (BitVec 32)), at_ ≤ w.length → prev.toNat ≤ 2147483647 → rec.length ≤ 64 → (prev = 0#32 ↔ rec = []) →
    (walkF f w at_ prev rec).2.2 ≤ w.length ∧ (walkF f w at_ prev rec).1.toNat ≤ 2147483647 ∧ (walkF f w at_ prev rec).2.1.length ≤ 64 ∧ ((walkF f w at_ prev rec).1 = 0#32 ↔ (walkF f w at_ prev rec).2.1 = [])
  | 0, w, at_, prev, rec, h1, h2, h3, h4 => ⟨h1, h2, h3, h4⟩
  | f + 1, w, at_, prev, rec, h1, h2, h3, h4 => by
    unfold walkF
    by_cases hg : goodB (w.drop at_) prev
    · rw [if_pos hg]
      have g := hg.1.1
      obtain ⟨_, ⟨g1, g2⟩, g3, g4, g5⟩ := g
      rw [List.length_drop] at g5
      have e : (recB (w.drop at_)).length = sizeB (w.drop at_) := by
        unfold recB
        rw [List.length_take, List.length_drop, List.length_drop]; omega
      refine walkF_ok f w _ _ _ (by omega) g2 (by omega) ⟨fun h => ?_, fun h => ?_⟩
      · rw [h] at g1; simp at g1
      · rw [h] at e; simp at e; omega
    · rw [if_neg hg]
      exact ⟨h1, h2, h3, h4⟩
theorem tell_ok (w : List (BitVec 32)) : (tellF w).end_ ≤ w.length ∧ (tellF w).number.toNat ≤ 2147483647 ∧ (tellF w).words.length ≤ 64 ∧ ((tellF w).number = 0#32 ↔ (tellF w).words = []) :=
  walkF_ok _ w 0 0#32 [] (Nat.zero_le _) (by decide) (by decide) ⟨fun _ => rfl, fun _ => rfl⟩

end Go.Proofs.Ytgipackjnncabaa
