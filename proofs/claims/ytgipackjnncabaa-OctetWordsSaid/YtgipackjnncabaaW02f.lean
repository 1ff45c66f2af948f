/- Walks of layer 2, sixth part: the reference of octet.Words. -/
import Derived.Test.YtgipackjnncabaaW02e
set_option linter.unusedVariables false
namespace Go.Proofs.Ytgipackjnncabaa
open Go.Vc Go.RowKit

theorem wordsF_take (bs : List (BitVec 8)) (i : Nat) (hi : i < (bs.length + 3) / 4) : (wordsF bs).take (i + 1) = (wordsF bs).take i ++ [wordOf (four bs i)] := by
  rw [List.take_succ_eq_append_getElem (by rw [wordsF_len]; exact hi)]
  simp [wordsF]

theorem four_drop (bs : List (BitVec 8)) (i j : Nat) (hj : j < 4) : (four bs i).drop j = bs.getD (4 * i + j) 255#8 :: (four bs i).drop (j + 1) := by
  rw [List.drop_eq_getElem_cons (by rw [four_len]; exact hj)]
  simp [four]

set_option maxHeartbeats 4000000 in
/-- its reference -/
theorem rwords_calls {w : World} {a : Option Addr} {c : Nat} {bs : List (BitVec 8)} (h : Sl u8v w a bs) (hl : bs.length ≤ 1048576) :
    Calls Try.prog 51 #[.slice a bs.length c] w (Ret fun v w' => ∃ a' c', v = .slice a' (wordsF bs).length c' ∧ Own 42 u32v w.heap.size w' a' c' (wordsF bs) ∧ Ext w w') := by
  refine calls_of_vc lok Try.func51 ?_ rfl
  conv => whnf
  refine vcLoop_inv lok (σ := Nat × Int × Option Addr × Nat)
    (fun ⟨i, m, b, d⟩ => [(4, .int .i64 m), (0, .slice a bs.length c), (3, .slice b ((wordsF bs).take i).length d)])
    (fun ⟨i, m, b, d⟩ w2 => i ≤ (bs.length + 3) / 4 ∧ m = ((4 * i : Nat) : Int) ∧ Own 42 u32v w.heap.size w2 b d ((wordsF bs).take i) ∧ Ext w w2) (fun s => (bs.length + 3) / 4 - s.1)
    (0, 0, none, 0) ⟨rfl, rfl, rfl, trivial⟩ ⟨Nat.zero_le _, rfl, Own.nil _ _ _ _, Ext.refl _⟩ ?_
  rintro ⟨i, m, b, d⟩ w2 ⟨hi, hm, ho2, hx2⟩
  conv => whnf
  refine vcCond_split lok rfl (fun h2 => ?_) (fun h2 => ?_)
  rotate_left
  · have h2 := df h2
    obtain rfl : i = (bs.length + 3) / 4 := by omega
    conv => whnf
    have e : (wordsF bs).take ((bs.length + 3) / 4) = wordsF bs := List.take_of_length_le (by rw [wordsF_len]; exact Nat.le_refl _)
    rw [e] at ho2
    exact ⟨b, d, by rw [e], ho2, hx2⟩
  have h2 := dt h2
  have him : i < (bs.length + 3) / 4 := by omega
  conv => whnf
  refine vcLoop_inv lok (σ := Nat × Int × Nat)
    (fun ⟨j, z, n⟩ => [(6, .int .i64 z), (5, .int .u32 n), (4, .int .i64 m), (0, .slice a bs.length c), (3, .slice b ((wordsF bs).take i).length d)])
    (fun ⟨j, z, n⟩ w3 => j ≤ 4 ∧ z = (j : Int) - 1 ∧ n = decN ((four bs i).drop j) ∧ w3 = w2) (fun s => s.1)
    (4, 3, 0) ⟨rfl, rfl, rfl, rfl, rfl, trivial⟩ ⟨Nat.le_refl _, rfl, by rw [List.drop_of_length_le (by rw [four_len]; exact Nat.le_refl _)]; rfl, rfl⟩ ?_
  rintro ⟨j, z, n⟩ w3 ⟨hj, hz, hn, hw3⟩
  subst hw3
  conv => whnf
  refine vcCond_split lok rfl (fun h4 => ?_) (fun h4 => ?_)
  · have h4 := dt h4
    conv => whnf
    refine ⟨by omega, ?_⟩
    conv => whnf
    have ek : ∃ k, j = k + 1 := ⟨j - 1, by omega⟩
    obtain ⟨k, hk⟩ := ek
    subst hk
    have hk4 : k < 4 := by omega
    have efd := four_drop bs i k hk4
    have hdl := decN_lt ((four bs i).drop (k + 1))
    rw [show ((four bs i).drop (k + 1)).length = 3 - k by rw [List.length_drop, four_len]; omega] at hdl
    have hp : 256 ^ (3 - k) ≤ 256 ^ 3 := Nat.pow_le_pow_right (by decide) (by omega)
    have hp3 : (256 : Nat) ^ 3 = 16777216 := by decide
    rw [← hn] at hdl
    refine vcCond_meet (fun y : BitVec 8 => [(7, .int .u8 y.toNat), (6, .int .i64 z), (5, .int .u32 n), (4, .int .i64 m), (0, .slice a bs.length c), (3, .slice b ((wordsF bs).take i).length d)])
      (fun y w4 => w4 = w3 ∧ y = bs.getD (4 * i + k) 255#8) ?_ ?_
    · refine vcCond_split lok rfl (fun h5 => ?_) (fun h5 => ?_)
      · have h5 := dt h5
        conv => whnf
        refine ⟨by omega, ?_⟩
        conv => whnf
        have g1 : 0 ≤ m + z := by omega
        have g2 : m + z < bs.length := by omega
        have g3 := h.ext hx2
        have g4 := g3.at _ g1 g2
        obtain ⟨p, o, ha, hcell⟩ := g4
        refine ⟨p, o, ha, ⟨by omega, by omega⟩, ?_⟩
        conv => whnf
        refine ⟨_, hcell, ?_⟩
        conv => whnf
        have e : (m + z).toNat = 4 * i + k := by omega
        have e2 : bs.getD (4 * i + k) default = bs.getD (4 * i + k) 255#8 := by
          simp [List.getD, List.getElem?_eq_getElem (show 4 * i + k < bs.length by omega)]
        exact ⟨bs.getD (m + z).toNat default, ⟨rfl, rfl, rfl, rfl, rfl, rfl, trivial⟩, rfl, by rw [e, e2]⟩
      · have h5 := df h5
        conv => whnf
        refine ⟨255#8, ⟨rfl, rfl, rfl, rfl, rfl, rfl, trivial⟩, rfl, ?_⟩
        simp [List.getD, List.getElem?_eq_none (show bs.length ≤ 4 * i + k by omega)]
    rintro y w4 ⟨hw4, hy⟩
    subst hw4
    rw [← hy] at efd
    have hyl := y.isLt
    have e8 : decN ((four bs i).drop k) = y.toNat + 256 * n := by rw [efd, hn]; rfl
    conv => whnf
    intro z2 hz2
    have hq : z2 = 256 * (n : Int) := by rw [hz2, wu32]; omega
    subst hq
    conv => whnf
    intro z2 hz2
    have hq : z2 = (y.toNat : Int) := by rw [hz2, wu32]; omega
    subst hq
    conv => whnf
    intro z2 hz2
    have hq : z2 = ((y.toNat + 256 * n : Nat) : Int) := by rw [hz2, wu32]; omega
    subst hq
    conv => whnf
    refine ⟨by omega, ?_⟩
    conv => whnf
    exact ⟨(k, z - 1, y.toNat + 256 * n), ⟨rfl, rfl, rfl, rfl, rfl, trivial⟩, ⟨by omega, by omega, e8.symm, rfl⟩, Nat.lt_succ_self k⟩
  · have h4 := df h4
    have hj0 : j = 0 := by omega
    subst hj0
    have hn2 : n = (wordOf (four bs i)).toNat := by rw [wordOf_nat (four bs i) (by rw [four_len]; exact Nat.le_refl _), hn]; rfl
    subst hn2
    conv => whnf
    have etk := wordsF_take bs i him
    refine ⟨_, _, run_buildN e32.toElem ([wordOf (four bs i)].map u32v) (by simp [u32v, Value.oneCell']) (by simp) w3, ?_⟩
    conv => whnf
    have x3 : Ext w3 (w3.alloc (.cells ([wordOf (four bs i)].map u32v).toArray 42)) := Ext.new _ _
    have hs3 : Sl u32v (w3.alloc (.cells ([wordOf (four bs i)].map u32v).toArray 42)) (some ⟨w3.heap.size, 0, none⟩) [wordOf (four bs i)] := Sl.lit _ _
    have hlt : ((wordsF bs).take i).length ≤ 1048576 := by rw [List.length_take, wordsF_len]; omega
    have g7 := (ho2.ext x3).append (ty := 37) (d := 1) e32.toElem (fun _ => rfl) hs3 (by simp only [List.length_singleton]; omega) (hx2.trans x3).size
    obtain ⟨a4, c4, w4, hr4, ho4, hg4, _⟩ := g7
    refine ⟨_, _, hr4, ?_⟩
    have x4 : Ext w w4 := hg4.extOf (hx2.trans x3) (fun g hg => (ho2.ge g hg).1)
    conv => whnf
    refine ⟨by omega, ?_⟩
    conv => whnf
    exact ⟨(i + 1, m + 4, a4, c4), ⟨rfl, rfl, by rw [etk]; rfl, trivial⟩, ⟨by omega, by omega, by rw [etk]; exact ho4, x4⟩, Nat.sub_succ_lt_self _ _ him⟩

end Go.Proofs.Ytgipackjnncabaa
