/- Walks of layer 2, third part: the reference's Get; runs; signs. -/
import Derived.Test.YtgipackjnncabaaW02b
set_option linter.unusedVariables false
namespace Go.Proofs.Ytgipackjnncabaa
open Go.Vc Go.RowKit

theorem pow_le7 {m : Nat} (h : m ≤ 7) : 256 ^ m ≤ 72057594037927936 := Nat.pow_le_pow_right (n := 256) (by decide) h

/-- the reference's Get -/
theorem rget_calls {w : World} {a : Option Addr} {c : Nat} {bs : List (BitVec 8)} (h : Sl u8v w a bs) (hl : bs.length ≤ 2147483648) (at_ width : Int) (hat : -9223372036854775808 ≤ at_) :
    Calls Try.prog 47 #[.slice a bs.length c, .int .i64 at_, .int .i64 width] w (Ret fun v w' => v = .tuple #[.int .u64 (getF bs at_ width).1, .int .i64 (getF bs at_ width).2] ∧ w' = w) := by
  refine calls_of_vc lok Try.func47 ?_ rfl
  conv => whnf
  refine vcReg_meet lok (fun β : Bool => [(25, .bool β)]) (fun β w' => w' = w ∧ β = decide (width < 1 ∨ 8 < width ∨ at_ < 0 ∨ (bs.length : Int) < at_)) [25] (fun _ => rfl) rfl ?_ ?_
  · conv => whnf
    refine bcase (fun h1 => ?_) (fun h1 => ?_)
    · conv => whnf
      exact ⟨_, ⟨rfl, trivial⟩, rfl, by have := dt h1; simp; omega⟩
    · conv => whnf
      refine bcase (fun h2 => ?_) (fun h2 => ?_)
      · conv => whnf
        exact ⟨_, ⟨rfl, trivial⟩, rfl, by have := dt h2; simp; omega⟩
      · conv => whnf
        refine bcase (fun h3 => ?_) (fun h3 => ?_)
        · conv => whnf
          exact ⟨_, ⟨rfl, trivial⟩, rfl, by have := dt h3; simp; omega⟩
        · conv => whnf
          exact ⟨_, ⟨rfl, trivial⟩, rfl, by have := df h1; have := df h2; have := df h3; exact decide_eq_decide.2 (by omega)⟩
  rintro β w' ⟨rfl, hβ⟩
  conv => whnf
  refine vcCond_split lok rfl (fun h1 => ?_) (fun h1 => ?_) <;> rw [h1] at hβ
  · have hβ := dt hβ.symm
    conv => whnf
    have e : getF bs at_ width = (0, 1) := if_pos hβ
    rw [e]
    exact ⟨rfl, rfl⟩
  have hβ := df hβ.symm
  obtain ⟨k, rfl⟩ := Int.eq_ofNat_of_zero_le (a := width) (by omega)
  obtain ⟨t, rfl⟩ := Int.eq_ofNat_of_zero_le (a := at_) (by omega)
  conv => whnf
  refine ⟨by omega, ?_⟩
  conv => whnf
  have e0 : getF bs t k = if (bs.length : Int) - t < k then (0, 2) else (decN ((bs.drop t).take k), 0) := by
    unfold getF; rw [if_neg hβ]; simp
  refine vcCond_split lok rfl (fun h1 => ?_) (fun h1 => ?_)
  · conv => whnf
    rw [e0, if_pos (dt h1)]
    exact ⟨rfl, rfl⟩
  have h1 := df h1
  rw [e0, if_neg h1]
  conv => whnf
  refine ⟨by omega, ?_⟩
  conv => whnf
  refine vcLoop_inv lok (σ := Int)
    (fun i => [(9, .int .i64 i), (8, .int .u64 (decN ((bs.drop (t + (i + 1).toNat)).take (k - (i + 1).toNat)))), (0, .slice a bs.length c), (1, .int .i64 t)])
    (fun i w1 => -1 ≤ i ∧ i < k ∧ w1 = w') (fun i => (i + 1).toNat) (k - 1) ⟨rfl, ?_, rfl, rfl, trivial⟩ ⟨by omega, by omega, rfl⟩ ?_
  · rw [show ((k : Int) - 1 + 1).toNat = k by omega, Nat.sub_self]; simp [decN]; rfl
  rintro i w1 ⟨hi1, hi2, rfl⟩
  conv => whnf
  refine vcCond_split lok rfl (fun h5 => ?_) (fun h5 => ?_)
  · have h5 := dt h5
    obtain ⟨j, rfl⟩ := Int.eq_ofNat_of_zero_le h5
    have e1 : ((j : Int) + 1).toNat = j + 1 := by omega
    have hb := (bs.getD (t + j) default).isLt
    have hlt := decN_lt ((bs.drop (t + (j + 1))).take (k - (j + 1)))
    have hp := pow_le7 (m := ((bs.drop (t + (j + 1))).take (k - (j + 1))).length) (by simp; omega)
    have e2 : decN ((bs.drop (t + j)).take (k - j)) = (bs.getD (t + j) default).toNat + 256 * decN ((bs.drop (t + (j + 1))).take (k - (j + 1))) := by
      rw [drop_cons_getD bs (t + j) (by omega), show k - j = (k - (j + 1)) + 1 by omega, List.take_succ_cons, decN]
      rfl
    rw [e1]
    conv => whnf
    intro z hz
    obtain rfl : z = ((256 * decN ((bs.drop (t + (j + 1))).take (k - (j + 1))) : Nat) : Int) := by rw [hz, wu64]; omega
    conv => whnf
    refine ⟨by omega, ?_⟩
    conv => whnf
    obtain ⟨p, o, ha, hcell⟩ := h.at ((t : Int) + j) (by omega) (by omega)
    refine ⟨p, o, ha, ⟨by omega, by omega⟩, ?_⟩
    conv => whnf
    refine ⟨_, hcell, ?_⟩
    conv => whnf
    rw [show ((t : Int) + j).toNat = t + j by omega]
    intro z2 hz2
    obtain rfl : z2 = ((bs.getD (t + j) default).toNat : Int) := by rw [hz2, wu64]; omega
    conv => whnf
    intro z3 hz3
    obtain rfl : z3 = ((decN ((bs.drop (t + j)).take (k - j)) : Nat) : Int) := by rw [hz3, wu64, e2]; omega
    conv => whnf
    refine ⟨by omega, ?_⟩
    conv => whnf
    refine ⟨(j : Int) - 1, ⟨rfl, ?_, rfl, rfl, trivial⟩, ⟨by omega, by omega, rfl⟩, by omega⟩
    rw [show ((j : Int) - 1 + 1).toNat = j by omega]; rfl
  · have h5 := df h5
    obtain rfl : i = -1 := by omega
    conv => whnf
    exact ⟨rfl, rfl⟩

theorem enc2 (n : Nat) : enc 2 n = [BitVec.ofNat 8 n, BitVec.ofNat 8 (n / 256)] := by
  simp [enc, List.range_succ]
theorem put2 (bs : List (BitVec 8)) (n : Nat) (h : n < 65536) : putF bs 2 n = (bs ++ [BitVec.ofNat 8 n, BitVec.ofNat 8 (n / 256)], 0) := by
  unfold putF
  rw [if_neg (by omega), if_neg (by show ¬ 256 ^ 2 ≤ n; omega)]
  show (bs ++ enc 2 n, (0 : Int)) = _
  rw [enc2]

/-- octet.PutRun -/
theorem putRun_calls {w : World} {a b : Option Addr} {c d : Nat} {bs xs : List (BitVec 8)} (h : Sl u8v w a bs) (hx : Sl u8v w b xs) (hl : bs.length ≤ 16777216) (hl2 : xs.length ≤ 16777216) :
    Calls Try.prog 57 #[.slice a bs.length c, .slice b xs.length d] w (Ret (PutPost (putRunF bs xs) w)) := by
  refine calls_of_vc lok Try.func57 ?_ rfl
  conv => whnf
  refine vcCond_split lok rfl (fun h1 => ?_) (fun h1 => ?_)
  · have h1 := dt h1
    conv => whnf
    have e : putRunF bs xs = ([], 3) := if_pos (by omega)
    rw [e]
    exact ⟨none, 0, rfl, Own.nil _ _ _ _, Ext.refl _⟩
  have h1 := df h1
  have e : putRunF bs xs = (bs ++ [BitVec.ofNat 8 xs.length, BitVec.ofNat 8 (xs.length / 256)] ++ xs, 0) := if_neg (by omega)
  rw [e]
  conv => whnf
  intro z hz
  obtain rfl : z = ((xs.length : Nat) : Int) := by rw [hz, wu64]; omega
  conv => whnf
  refine Calls.ret (put_calls h hl 2 xs.length (by omega)) ?_
  rintro _ w1 ⟨a1, c1, rfl, ho1, hx1⟩
  rw [put2 _ _ (by omega)] at ho1 ⊢
  conv => whnf
  refine vcCond_false lok rfl ?_
  conv => whnf
  obtain ⟨a2, c2, w2, hr2, ho2, hg2, hb2⟩ := ho1.append (ty := 22) (d := d) e8.toElem (fun _ => rfl) (hx.ext hx1) (by simp; omega) hx1.size
  refine ⟨_, _, hr2, ?_⟩
  conv => whnf
  exact ⟨a2, c2, rfl, ho2, hg2.extOf hx1 (fun g hg => (ho1.ge g hg).1)⟩

/-- the reference's PutRun -/
theorem rputRun_calls {w : World} {a b : Option Addr} {c d : Nat} {bs xs : List (BitVec 8)} (h : Sl u8v w a bs) (hx : Sl u8v w b xs) (hl : bs.length ≤ 16777216) (hl2 : xs.length ≤ 16777216) :
    Calls Try.prog 58 #[.slice a bs.length c, .slice b xs.length d] w (Ret (PutPost (putRunF bs xs) w)) := by
  refine calls_of_vc lok Try.func58 ?_ rfl
  conv => whnf
  refine vcCond_split lok rfl (fun h1 => ?_) (fun h1 => ?_)
  · have h1 := dt h1
    conv => whnf
    have e : putRunF bs xs = ([], 3) := if_pos (by omega)
    rw [e]
    exact ⟨none, 0, rfl, Own.nil _ _ _ _, Ext.refl _⟩
  have h1 := df h1
  have e : putRunF bs xs = (bs ++ [BitVec.ofNat 8 xs.length, BitVec.ofNat 8 (xs.length / 256)] ++ xs, 0) := if_neg (by omega)
  rw [e]
  conv => whnf
  intro z hz
  obtain rfl : z = ((xs.length : Nat) : Int) := by rw [hz, wu64]; omega
  conv => whnf
  refine Calls.ret (digits_calls xs.length 2 (by omega) (by omega)) ?_
  rintro _ w1 ⟨a1, c1, rfl, ho1, hx1⟩
  conv => whnf
  refine Calls.ret (join_calls (h.ext hx1) ho1.sl (by rw [enc_len]; omega)) ?_
  rintro _ w2 ⟨a2, c2, rfl, ho2, hx2⟩
  conv => whnf
  refine Calls.ret (join_calls ho2.sl ((hx.ext hx1).ext hx2) (by simp [enc_len]; omega)) ?_
  rintro _ w3 ⟨a3, c3, rfl, ho3, hx3⟩
  conv => whnf
  rw [enc2] at ho3 ⊢
  exact ⟨a3, c3, rfl, ho3.base (by have := hx1.size; have := hx2.size; omega), (hx1.trans hx2).trans hx3⟩

/-- bytes in new memory, an offset, an error's number -/
def RunPost (r : List (BitVec 8) × Int × Int) (w : World) (v : Value) (w' : World) : Prop :=
  ∃ a' c', v = .tuple #[.slice a' r.1.length c', .int .i64 r.2.1, .int .i64 r.2.2] ∧ Own 5 u8v w.heap.size w' a' c' r.1 ∧ Ext w w'

theorem Sl.mid {α : Type} {f : α → Value} {w : World} {a : Option Addr} {xs : List α} (h : Sl f w a xs) (l hi c : Nat) (h1 : l ≤ hi) (h2 : hi ≤ xs.length) (h3 : xs.length ≤ c) :
    Sl f w (if c = l then a else a.map (·.add (l * 1))) ((xs.drop l).take (hi - l)) := (h.drop l c h3).take _

/-- octet.GetRun -/
theorem getRun_calls {w : World} {a : Option Addr} {c : Nat} {bs : List (BitVec 8)} (h : Sl u8v w a bs) (hl : bs.length ≤ 2147483648) (hc : bs.length ≤ c) (at_ : Int) (hat : -9223372036854775808 ≤ at_) :
    Calls Try.prog 59 #[.slice a bs.length c, .int .i64 at_] w (Ret (RunPost (getRunF bs at_) w)) := by
  refine calls_of_vc lok Try.func59 ?_ rfl
  conv => whnf
  refine Calls.ret (get_calls h hl at_ 2 hat) ?_
  rintro _ w' ⟨rfl, rfl⟩
  conv => whnf
  by_cases hb : at_ < 0 ∨ (bs.length : Int) < at_
  · have e1 : getF bs at_ 2 = (0, 1) := if_pos (by omega)
    have e2 : getRunF bs at_ = ([], 0, 1) := if_pos hb
    rw [e1]
    refine vcCond_true lok rfl ?_
    conv => whnf
    rw [e2]
    exact ⟨none, 0, rfl, Own.nil _ _ _ _, Ext.refl _⟩
  by_cases hb2 : (bs.length : Int) - at_ < 2
  · have e1 : getF bs at_ 2 = (0, 2) := by unfold getF; rw [if_neg (by omega), if_pos hb2]
    have e2 : getRunF bs at_ = ([], 0, 2) := by unfold getRunF; rw [if_neg hb, if_pos hb2]
    rw [e1]
    refine vcCond_true lok rfl ?_
    conv => whnf
    rw [e2]
    exact ⟨none, 0, rfl, Own.nil _ _ _ _, Ext.refl _⟩
  have e1 : getF bs at_ 2 = (decN ((bs.drop at_.toNat).take 2), 0) := by unfold getF; rw [if_neg (by omega), if_neg hb2]; rfl
  obtain ⟨t, rfl⟩ := Int.eq_ofNat_of_zero_le (a := at_) (by omega)
  rw [Int.toNat_natCast] at e1
  have hd := decN_lt ((bs.drop t).take 2)
  rw [show ((bs.drop t).take 2).length = 2 by simp; omega] at hd
  have e2 : getRunF bs t = if (bs.length : Int) - t - 2 < decN ((bs.drop t).take 2) then ([], 0, 2) else ((bs.drop (t + 2)).take (decN ((bs.drop t).take 2)), (t : Int) + 2 + (decN ((bs.drop t).take 2) : Int), 0) := by
    unfold getRunF; rw [if_neg hb, if_neg hb2]; rfl
  rw [e1, e2]
  generalize decN ((bs.drop t).take 2) = d at *
  refine vcCond_false lok rfl ?_
  conv => whnf
  refine ⟨by omega, ?_⟩
  conv => whnf
  intro z hz
  obtain rfl : z = (d : Int) := by rw [hz, wi64]; omega
  conv => whnf
  refine ⟨by omega, ?_⟩
  conv => whnf
  refine vcCond_split lok rfl (fun h1 => ?_) (fun h1 => ?_)
  · have h1 := dt h1
    conv => whnf
    rw [if_pos (by omega)]
    exact ⟨none, 0, rfl, Own.nil _ _ _ _, Ext.refl _⟩
  have h1 := df h1
  rw [if_neg (by omega)]
  conv => whnf
  intro z hz
  obtain rfl : z = (d : Int) := by rw [hz, wi64]; omega
  conv => whnf
  refine ⟨by omega, ?_⟩
  conv => whnf
  refine ⟨by omega, fun a' ha' => ?_⟩
  have ha2 : a' = if c = t + 2 then a else a.map (·.add ((t + 2) * 1)) := by
    rw [ha', show ((t : Int) + 2).toNat = t + 2 by omega]
  have hs : Sl u8v w' a' ((bs.drop (t + 2)).take d) := by
    rw [ha2]
    have := Sl.mid h (t + 2) (t + 2 + d) c (by omega) (by omega) hc
    rwa [Nat.add_sub_cancel_left] at this
  conv => whnf
  obtain ⟨a1, c1, w1, hr1, ho1, hg1, _⟩ := (Own.nil 5 u8v w'.heap.size w').append (ty := 22) (d := c - ((t : Int) + 2).toNat) e8.toElem (fun _ => rfl) hs (by simp; omega) (Nat.le_refl _)
  rw [show ((bs.drop (t + 2)).take d).length = ((t : Int) + 2 + d).toNat - ((t : Int) + 2).toNat by simp; omega] at hr1
  refine ⟨_, _, hr1, ?_⟩
  conv => whnf
  intro z hz
  obtain rfl : z = (d : Int) := by rw [hz, wi64]; omega
  conv => whnf
  refine ⟨by omega, ?_⟩
  conv => whnf
  exact ⟨a1, c1, rfl, ho1, hg1.ext⟩

/-- the reference's GetRun -/
theorem rgetRun_calls {w : World} {a : Option Addr} {c : Nat} {bs : List (BitVec 8)} (h : Sl u8v w a bs) (hl : bs.length ≤ 2147483648) (hc : bs.length ≤ c) (at_ : Int) (hat : -9223372036854775808 ≤ at_) :
    Calls Try.prog 60 #[.slice a bs.length c, .int .i64 at_] w (Ret (RunPost (getRunF bs at_) w)) := by
  refine calls_of_vc lok Try.func60 ?_ rfl
  conv => whnf
  refine vcReg_meet lok (fun β : Bool => [(15, .bool β)]) (fun β w' => w' = w ∧ β = decide (at_ < 0 ∨ (bs.length : Int) < at_)) [15] (fun _ => rfl) rfl ?_ ?_
  · conv => whnf
    refine bcase (fun h1 => ?_) (fun h1 => ?_)
    · conv => whnf
      exact ⟨_, ⟨rfl, trivial⟩, rfl, by have := dt h1; simp; omega⟩
    · conv => whnf
      exact ⟨_, ⟨rfl, trivial⟩, rfl, by have := df h1; exact decide_eq_decide.2 (by omega)⟩
  rintro β w' ⟨rfl, hβ⟩
  conv => whnf
  refine vcCond_split lok rfl (fun h1 => ?_) (fun h1 => ?_) <;> rw [h1] at hβ
  · have hb := dt hβ.symm
    conv => whnf
    have e2 : getRunF bs at_ = ([], 0, 1) := if_pos hb
    rw [e2]
    exact ⟨none, 0, rfl, Own.nil _ _ _ _, Ext.refl _⟩
  have hb := df hβ.symm
  conv => whnf
  refine ⟨by omega, ?_⟩
  conv => whnf
  refine vcCond_split lok rfl (fun h2 => ?_) (fun h2 => ?_)
  · have hb2 := dt h2
    have e2 : getRunF bs at_ = ([], 0, 2) := by unfold getRunF; rw [if_neg hb, if_pos hb2]
    conv => whnf
    rw [e2]
    exact ⟨none, 0, rfl, Own.nil _ _ _ _, Ext.refl _⟩
  have hb2 := df h2
  obtain ⟨t, rfl⟩ := Int.eq_ofNat_of_zero_le (a := at_) (by omega)
  have hd := decN_lt ((bs.drop t).take 2)
  rw [show ((bs.drop t).take 2).length = 2 by simp; omega] at hd
  have e3 : decN ((bs.drop t).take 2) = (bs.getD t default).toNat + 256 * (bs.getD (t + 1) default).toNat := by
    rw [drop_cons_getD bs t (by omega), drop_cons_getD bs (t + 1) (by omega)]
    simp [decN]
  have e2 : getRunF bs t = if (bs.length : Int) - t - 2 < decN ((bs.drop t).take 2) then ([], 0, 2) else ((bs.drop (t + 2)).take (decN ((bs.drop t).take 2)), (t : Int) + 2 + (decN ((bs.drop t).take 2) : Int), 0) := by
    unfold getRunF; rw [if_neg hb, if_neg hb2]; rfl
  rw [e2]
  have hb0 := (bs.getD t default).isLt
  have hb1 := (bs.getD (t + 1) default).isLt
  conv => whnf
  refine vcDraw_go lok mixed (fun w1 => w1 = w'.drew) [] [0, 1, 2, 3, 4, 5, 6, 7, 8, 9, 10, 11, 12, 13] (by kernel_rfl) fun w1 hw1 => ⟨hw1, ?_⟩
  have hx1 : Ext w' w1 := by rw [hw1]; exact Ext.drew _
  conv => whnf
  obtain ⟨p, o, ha, hcell⟩ := (h.ext hx1).at (t : Int) (by omega) (by omega)
  refine ⟨p, o, ha, ⟨by omega, by omega⟩, ?_⟩
  conv => whnf
  refine ⟨_, fun w2 hw2 => by rw [hw2, ← hw1]; exact hcell, ?_⟩
  conv => whnf
  rw [Int.toNat_natCast]
  intro z hz
  obtain rfl : z = ((bs.getD t default).toNat : Int) := by rw [hz, wi64]; omega
  conv => whnf
  refine ⟨by omega, ?_⟩
  conv => whnf
  obtain ⟨p2, o2, ha2, hcell2⟩ := (h.ext hx1).at ((t : Int) + 1) (by omega) (by omega)
  refine ⟨p2, o2, ha2, ⟨by omega, by omega⟩, ?_⟩
  conv => whnf
  refine ⟨_, fun w2 hw2 => by rw [hw2, ← hw1]; exact hcell2, ?_⟩
  conv => whnf
  rw [show ((t : Int) + 1).toNat = t + 1 by omega]
  intro z hz
  obtain rfl : z = ((bs.getD (t + 1) default).toNat : Int) := by rw [hz, wi64]; omega
  conv => whnf
  refine ⟨by omega, ?_⟩
  conv => whnf
  refine ⟨by omega, ?_⟩
  conv => whnf
  refine ⟨by omega, ?_⟩
  conv => whnf
  refine ⟨by omega, ?_⟩
  conv => whnf
  rw [show ((bs.getD t default).toNat : Int) + 256 * ((bs.getD (t + 1) default).toNat : Int) = (decN ((bs.drop t).take 2) : Int) by rw [e3]; omega]
  generalize decN ((bs.drop t).take 2) = d at *
  refine vcCond_split lok rfl (fun h3 => ?_) (fun h3 => ?_)
  · have h3 := dt h3
    conv => whnf
    rw [if_pos (by omega)]
    exact ⟨none, 0, rfl, Own.nil _ _ _ _, hx1⟩
  have h3 := df h3
  rw [if_neg (by omega)]
  conv => whnf
  refine ⟨by omega, ?_⟩
  conv => whnf
  refine ⟨by omega, ?_⟩
  conv => whnf
  refine ⟨by omega, ?_⟩
  conv => whnf
  refine ⟨by omega, fun a' ha' => ?_⟩
  have ha2 : a' = if c = t + 2 then a else a.map (·.add ((t + 2) * 1)) := by
    rw [ha', show ((t : Int) + 2).toNat = t + 2 by omega]
  have hs : Sl u8v w1 a' ((bs.drop (t + 2)).take d) := by
    rw [ha2]
    have := Sl.mid (h.ext hx1) (t + 2) (t + 2 + d) c (by omega) (by omega) hc
    rwa [Nat.add_sub_cancel_left] at this
  conv => whnf
  have hj := join_calls (c := 0) (d := c - ((t : Int) + 2).toNat) (Sl.nil u8v w1 none) hs (by simp; omega)
  rw [show ((bs.drop (t + 2)).take d).length = ((t : Int) + 2 + d).toNat - ((t : Int) + 2).toNat by simp; omega] at hj
  refine Calls.ret hj ?_
  rintro _ w2 ⟨a2, c2, rfl, ho2, hx2⟩
  conv => whnf
  refine ⟨by omega, ?_⟩
  conv => whnf
  refine ⟨by omega, ?_⟩
  conv => whnf
  exact ⟨a2, c2, rfl, ho2.base hx1.size, hx1.trans hx2⟩

end Go.Proofs.Ytgipackjnncabaa
