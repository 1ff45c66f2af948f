/- Own texts of this claim, joined: W02c, W02d, Fr, L02a, L02b, W02e, Pl02b, Blk, Bv, W03a. -/
import Derived.Test.YtgipackjnncabaaK16b

/- Walks of layer 2, third part: the reference's Get; runs; signs. -/
set_option linter.unusedVariables false
namespace Go.Proofs.Ytgipackjnncabaa
open Go.Vc Go.RowKit

theorem pow_le7 {m : Nat} (h : m ≤ 7) : 256 ^ m ≤ 72057594037927936 := Nat.pow_le_pow_right (n := 256) (by decide) h

/-- the reference's Get -/
theorem rget_calls {w : World} {a : Option Addr} {c : Nat} {bs : List (BitVec 8)} (h : Sl u8v w a bs) (hl : bs.length ≤ 2147483648) (at_ width : Int) (hat : -9223372036854775808 ≤ at_) :
    Calls Try.prog 47 #[.slice a bs.length c, .int .i64 at_, .int .i64 width] w (Ret fun v w' => v = .tuple #[.int .u64 (getF bs at_ width).1, .int .i64 (getF bs at_ width).2] ∧ w' = w) := by
  refine calls_of_vc lok Try.func47 ?_ rfl
  conv => whnf
  refine vcReg_meet lok (fun β : Bool => [(25, .bool β)]) (fun β w' => w' = w ∧ β = decide (width < 1 ∨ 8 < width ∨ at_ < 0 ∨ (bs.length : Int) < at_)) [25] (fun _ => rfl) rfl ?_ ?_
  · conv => whnf
    refine bcase (fun h1 => ?_) (fun h1 => ?_)
    · conv => whnf
      exact ⟨_, ⟨rfl, trivial⟩, rfl, by have := dt h1; simp; omega⟩
    · conv => whnf
      refine bcase (fun h2 => ?_) (fun h2 => ?_)
      · conv => whnf
        exact ⟨_, ⟨rfl, trivial⟩, rfl, by have := dt h2; simp; omega⟩
      · conv => whnf
        refine bcase (fun h3 => ?_) (fun h3 => ?_)
        · conv => whnf
          exact ⟨_, ⟨rfl, trivial⟩, rfl, by have := dt h3; simp; omega⟩
        · conv => whnf
          exact ⟨_, ⟨rfl, trivial⟩, rfl, by have := df h1; have := df h2; have := df h3; exact decide_eq_decide.2 (by omega)⟩
  rintro β w' ⟨rfl, hβ⟩
  conv => whnf
  refine vcCond_split lok rfl (fun h1 => ?_) (fun h1 => ?_) <;> rw [h1] at hβ
  · have hβ := dt hβ.symm
    conv => whnf
    have e : getF bs at_ width = (0, 1) := if_pos hβ
    rw [e]
    exact ⟨rfl, rfl⟩
  have hβ := df hβ.symm
  obtain ⟨k, rfl⟩ := Int.eq_ofNat_of_zero_le (a := width) (by omega)
  obtain ⟨t, rfl⟩ := Int.eq_ofNat_of_zero_le (a := at_) (by omega)
  conv => whnf
  refine ⟨by omega, ?_⟩
  conv => whnf
  have e0 : getF bs t k = if (bs.length : Int) - t < k then (0, 2) else (decN ((bs.drop t).take k), 0) := by
    unfold getF; rw [if_neg hβ]; simp
  refine vcCond_split lok rfl (fun h1 => ?_) (fun h1 => ?_)
  · conv => whnf
    rw [e0, if_pos (dt h1)]
    exact ⟨rfl, rfl⟩
  have h1 := df h1
  rw [e0, if_neg h1]
  conv => whnf
  refine ⟨by omega, ?_⟩
  conv => whnf
  refine vcLoop_inv lok (σ := Int)
    (fun i => [(9, .int .i64 i), (8, .int .u64 (decN ((bs.drop (t + (i + 1).toNat)).take (k - (i + 1).toNat)))), (0, .slice a bs.length c), (1, .int .i64 t)])
    (fun i w1 => -1 ≤ i ∧ i < k ∧ w1 = w') (fun i => (i + 1).toNat) (k - 1) ⟨rfl, ?_, rfl, rfl, trivial⟩ ⟨by omega, by omega, rfl⟩ ?_
  · rw [show ((k : Int) - 1 + 1).toNat = k by omega, Nat.sub_self]; simp [decN]; rfl
  rintro i w1 ⟨hi1, hi2, rfl⟩
  conv => whnf
  refine vcCond_split lok rfl (fun h5 => ?_) (fun h5 => ?_)
  · have h5 := dt h5
    obtain ⟨j, rfl⟩ := Int.eq_ofNat_of_zero_le h5
    have e1 : ((j : Int) + 1).toNat = j + 1 := by omega
    have hb := (bs.getD (t + j) default).isLt
    have hlt := decN_lt ((bs.drop (t + (j + 1))).take (k - (j + 1)))
    have hp := pow_le7 (m := ((bs.drop (t + (j + 1))).take (k - (j + 1))).length) (by simp; omega)
    have e2 : decN ((bs.drop (t + j)).take (k - j)) = (bs.getD (t + j) default).toNat + 256 * decN ((bs.drop (t + (j + 1))).take (k - (j + 1))) := by
      rw [drop_cons_getD bs (t + j) (by omega), show k - j = (k - (j + 1)) + 1 by omega, List.take_succ_cons, decN]
      rfl
    rw [e1]
    conv => whnf
    intro z hz
    obtain rfl : z = ((256 * decN ((bs.drop (t + (j + 1))).take (k - (j + 1))) : Nat) : Int) := by rw [hz, wu64]; omega
    conv => whnf
    refine ⟨by omega, ?_⟩
    conv => whnf
    obtain ⟨p, o, ha, hcell⟩ := h.at ((t : Int) + j) (by omega) (by omega)
    refine ⟨p, o, ha, ⟨by omega, by omega⟩, ?_⟩
    conv => whnf
    refine ⟨_, hcell, ?_⟩
    conv => whnf
    rw [show ((t : Int) + j).toNat = t + j by omega]
    intro z2 hz2
    obtain rfl : z2 = ((bs.getD (t + j) default).toNat : Int) := by rw [hz2, wu64]; omega
    conv => whnf
    intro z3 hz3
    obtain rfl : z3 = ((decN ((bs.drop (t + j)).take (k - j)) : Nat) : Int) := by rw [hz3, wu64, e2]; omega
    conv => whnf
    refine ⟨by omega, ?_⟩
    conv => whnf
    refine ⟨(j : Int) - 1, ⟨rfl, ?_, rfl, rfl, trivial⟩, ⟨by omega, by omega, rfl⟩, by omega⟩
    rw [show ((j : Int) - 1 + 1).toNat = j by omega]; rfl
  · have h5 := df h5
    obtain rfl : i = -1 := by omega
    conv => whnf
    exact ⟨rfl, rfl⟩

theorem enc2 (n : Nat) : enc 2 n = [BitVec.ofNat 8 n, BitVec.ofNat 8 (n / 256)] := by
  simp [enc, List.range_succ]
theorem put2 (bs : List (BitVec 8)) (n : Nat) (h : n < 65536) : putF bs 2 n = (bs ++ [BitVec.ofNat 8 n, BitVec.ofNat 8 (n / 256)], 0) := by
  unfold putF
  rw [if_neg (by omega), if_neg (by show ¬ 256 ^ 2 ≤ n; omega)]
  show (bs ++ enc 2 n, (0 : Int)) = _
  rw [enc2]

/-- octet.PutRun -/
theorem putRun_calls {w : World} {a b : Option Addr} {c d : Nat} {bs xs : List (BitVec 8)} (h : Sl u8v w a bs) (hx : Sl u8v w b xs) (hl : bs.length ≤ 16777216) (hl2 : xs.length ≤ 16777216) :
    Calls Try.prog 57 #[.slice a bs.length c, .slice b xs.length d] w (Ret (PutPost (putRunF bs xs) w)) := by
  refine calls_of_vc lok Try.func57 ?_ rfl
  conv => whnf
  refine vcCond_split lok rfl (fun h1 => ?_) (fun h1 => ?_)
  · have h1 := dt h1
    conv => whnf
    have e : putRunF bs xs = ([], 3) := if_pos (by omega)
    rw [e]
    exact ⟨none, 0, rfl, Own.nil _ _ _ _, Ext.refl _⟩
  have h1 := df h1
  have e : putRunF bs xs = (bs ++ [BitVec.ofNat 8 xs.length, BitVec.ofNat 8 (xs.length / 256)] ++ xs, 0) := if_neg (by omega)
  rw [e]
  conv => whnf
  intro z hz
  obtain rfl : z = ((xs.length : Nat) : Int) := by rw [hz, wu64]; omega
  conv => whnf
  refine Calls.ret (put_calls h hl 2 xs.length (by omega)) ?_
  rintro _ w1 ⟨a1, c1, rfl, ho1, hx1⟩
  rw [put2 _ _ (by omega)] at ho1 ⊢
  conv => whnf
  refine vcCond_false lok rfl ?_
  conv => whnf
  obtain ⟨a2, c2, w2, hr2, ho2, hg2, hb2⟩ := ho1.append (ty := 22) (d := d) e8.toElem (fun _ => rfl) (hx.ext hx1) (by simp; omega) hx1.size
  refine ⟨_, _, hr2, ?_⟩
  conv => whnf
  exact ⟨a2, c2, rfl, ho2, hg2.extOf hx1 (fun g hg => (ho1.ge g hg).1)⟩

/-- the reference's PutRun -/
theorem rputRun_calls {w : World} {a b : Option Addr} {c d : Nat} {bs xs : List (BitVec 8)} (h : Sl u8v w a bs) (hx : Sl u8v w b xs) (hl : bs.length ≤ 16777216) (hl2 : xs.length ≤ 16777216) :
    Calls Try.prog 58 #[.slice a bs.length c, .slice b xs.length d] w (Ret (PutPost (putRunF bs xs) w)) := by
  refine calls_of_vc lok Try.func58 ?_ rfl
  conv => whnf
  refine vcCond_split lok rfl (fun h1 => ?_) (fun h1 => ?_)
  · have h1 := dt h1
    conv => whnf
    have e : putRunF bs xs = ([], 3) := if_pos (by omega)
    rw [e]
    exact ⟨none, 0, rfl, Own.nil _ _ _ _, Ext.refl _⟩
  have h1 := df h1
  have e : putRunF bs xs = (bs ++ [BitVec.ofNat 8 xs.length, BitVec.ofNat 8 (xs.length / 256)] ++ xs, 0) := if_neg (by omega)
  rw [e]
  conv => whnf
  intro z hz
  obtain rfl : z = ((xs.length : Nat) : Int) := by rw [hz, wu64]; omega
  conv => whnf
  refine Calls.ret (digits_calls xs.length 2 (by omega) (by omega)) ?_
  rintro _ w1 ⟨a1, c1, rfl, ho1, hx1⟩
  conv => whnf
  refine Calls.ret (join_calls (h.ext hx1) ho1.sl (by rw [enc_len]; omega)) ?_
  rintro _ w2 ⟨a2, c2, rfl, ho2, hx2⟩
  conv => whnf
  refine Calls.ret (join_calls ho2.sl ((hx.ext hx1).ext hx2) (by simp [enc_len]; omega)) ?_
  rintro _ w3 ⟨a3, c3, rfl, ho3, hx3⟩
  conv => whnf
  rw [enc2] at ho3 ⊢
  exact ⟨a3, c3, rfl, ho3.base (by have := hx1.size; have := hx2.size; omega), (hx1.trans hx2).trans hx3⟩

/-- bytes in new memory, an offset, an error's number -/
def RunPost (r : List (BitVec 8) × Int × Int) (w : World) (v : Value) (w' : World) : Prop :=
  ∃ a' c', v = .tuple #[.slice a' r.1.length c', .int .i64 r.2.1, .int .i64 r.2.2] ∧ Own 5 u8v w.heap.size w' a' c' r.1 ∧ Ext w w'

theorem Sl.mid {α : Type} {f : α → Value} {w : World} {a : Option Addr} {xs : List α} (h : Sl f w a xs) (l hi c : Nat) (h1 : l ≤ hi) (h2 : hi ≤ xs.length) (h3 : xs.length ≤ c) :
    Sl f w (if c = l then a else a.map (·.add (l * 1))) ((xs.drop l).take (hi - l)) := (h.drop l c h3).take _

/-- octet.GetRun -/
theorem getRun_calls {w : World} {a : Option Addr} {c : Nat} {bs : List (BitVec 8)} (h : Sl u8v w a bs) (hl : bs.length ≤ 2147483648) (hc : bs.length ≤ c) (at_ : Int) (hat : -9223372036854775808 ≤ at_) :
    Calls Try.prog 59 #[.slice a bs.length c, .int .i64 at_] w (Ret (RunPost (getRunF bs at_) w)) := by
  refine calls_of_vc lok Try.func59 ?_ rfl
  conv => whnf
  refine Calls.ret (get_calls h hl at_ 2 hat) ?_
  rintro _ w' ⟨rfl, rfl⟩
  conv => whnf
  by_cases hb : at_ < 0 ∨ (bs.length : Int) < at_
  · have e1 : getF bs at_ 2 = (0, 1) := if_pos (by omega)
    have e2 : getRunF bs at_ = ([], 0, 1) := if_pos hb
    rw [e1]
    refine vcCond_true lok rfl ?_
    conv => whnf
    rw [e2]
    exact ⟨none, 0, rfl, Own.nil _ _ _ _, Ext.refl _⟩
  by_cases hb2 : (bs.length : Int) - at_ < 2
  · have e1 : getF bs at_ 2 = (0, 2) := by unfold getF; rw [if_neg (by omega), if_pos hb2]
    have e2 : getRunF bs at_ = ([], 0, 2) := by unfold getRunF; rw [if_neg hb, if_pos hb2]
    rw [e1]
    refine vcCond_true lok rfl ?_
    conv => whnf
    rw [e2]
    exact ⟨none, 0, rfl, Own.nil _ _ _ _, Ext.refl _⟩
  have e1 : getF bs at_ 2 = (decN ((bs.drop at_.toNat).take 2), 0) := by unfold getF; rw [if_neg (by omega), if_neg hb2]; rfl
  obtain ⟨t, rfl⟩ := Int.eq_ofNat_of_zero_le (a := at_) (by omega)
  rw [Int.toNat_natCast] at e1
  have hd := decN_lt ((bs.drop t).take 2)
  rw [show ((bs.drop t).take 2).length = 2 by simp; omega] at hd
  have e2 : getRunF bs t = if (bs.length : Int) - t - 2 < decN ((bs.drop t).take 2) then ([], 0, 2) else ((bs.drop (t + 2)).take (decN ((bs.drop t).take 2)), (t : Int) + 2 + (decN ((bs.drop t).take 2) : Int), 0) := by
    unfold getRunF; rw [if_neg hb, if_neg hb2]; rfl
  rw [e1, e2]
  generalize decN ((bs.drop t).take 2) = d at *
  refine vcCond_false lok rfl ?_
  conv => whnf
  refine ⟨by omega, ?_⟩
  conv => whnf
  intro z hz
  obtain rfl : z = (d : Int) := by rw [hz, wi64]; omega
  conv => whnf
  refine ⟨by omega, ?_⟩
  conv => whnf
  refine vcCond_split lok rfl (fun h1 => ?_) (fun h1 => ?_)
  · have h1 := dt h1
    conv => whnf
    rw [if_pos (by omega)]
    exact ⟨none, 0, rfl, Own.nil _ _ _ _, Ext.refl _⟩
  have h1 := df h1
  rw [if_neg (by omega)]
  conv => whnf
  intro z hz
  obtain rfl : z = (d : Int) := by rw [hz, wi64]; omega
  conv => whnf
  refine ⟨by omega, ?_⟩
  conv => whnf
  refine ⟨by omega, fun a' ha' => ?_⟩
  have ha2 : a' = if c = t + 2 then a else a.map (·.add ((t + 2) * 1)) := by
    rw [ha', show ((t : Int) + 2).toNat = t + 2 by omega]
  have hs : Sl u8v w' a' ((bs.drop (t + 2)).take d) := by
    rw [ha2]
    have := Sl.mid h (t + 2) (t + 2 + d) c (by omega) (by omega) hc
    rwa [Nat.add_sub_cancel_left] at this
  conv => whnf
  obtain ⟨a1, c1, w1, hr1, ho1, hg1, _⟩ := (Own.nil 5 u8v w'.heap.size w').append (ty := 22) (d := c - ((t : Int) + 2).toNat) e8.toElem (fun _ => rfl) hs (by simp; omega) (Nat.le_refl _)
  rw [show ((bs.drop (t + 2)).take d).length = ((t : Int) + 2 + d).toNat - ((t : Int) + 2).toNat by simp; omega] at hr1
  refine ⟨_, _, hr1, ?_⟩
  conv => whnf
  intro z hz
  obtain rfl : z = (d : Int) := by rw [hz, wi64]; omega
  conv => whnf
  refine ⟨by omega, ?_⟩
  conv => whnf
  exact ⟨a1, c1, rfl, ho1, hg1.ext⟩

/-- the reference's GetRun -/
theorem rgetRun_calls {w : World} {a : Option Addr} {c : Nat} {bs : List (BitVec 8)} (h : Sl u8v w a bs) (hl : bs.length ≤ 2147483648) (hc : bs.length ≤ c) (at_ : Int) (hat : -9223372036854775808 ≤ at_) :
    Calls Try.prog 60 #[.slice a bs.length c, .int .i64 at_] w (Ret (RunPost (getRunF bs at_) w)) := by
  refine calls_of_vc lok Try.func60 ?_ rfl
  conv => whnf
  refine vcReg_meet lok (fun β : Bool => [(15, .bool β)]) (fun β w' => w' = w ∧ β = decide (at_ < 0 ∨ (bs.length : Int) < at_)) [15] (fun _ => rfl) rfl ?_ ?_
  · conv => whnf
    refine bcase (fun h1 => ?_) (fun h1 => ?_)
    · conv => whnf
      exact ⟨_, ⟨rfl, trivial⟩, rfl, by have := dt h1; simp; omega⟩
    · conv => whnf
      exact ⟨_, ⟨rfl, trivial⟩, rfl, by have := df h1; exact decide_eq_decide.2 (by omega)⟩
  rintro β w' ⟨rfl, hβ⟩
  conv => whnf
  refine vcCond_split lok rfl (fun h1 => ?_) (fun h1 => ?_) <;> rw [h1] at hβ
  · have hb := dt hβ.symm
    conv => whnf
    have e2 : getRunF bs at_ = ([], 0, 1) := if_pos hb
    rw [e2]
    exact ⟨none, 0, rfl, Own.nil _ _ _ _, Ext.refl _⟩
  have hb := df hβ.symm
  conv => whnf
  refine ⟨by omega, ?_⟩
  conv => whnf
  refine vcCond_split lok rfl (fun h2 => ?_) (fun h2 => ?_)
  · have hb2 := dt h2
    have e2 : getRunF bs at_ = ([], 0, 2) := by unfold getRunF; rw [if_neg hb, if_pos hb2]
    conv => whnf
    rw [e2]
    exact ⟨none, 0, rfl, Own.nil _ _ _ _, Ext.refl _⟩
  have hb2 := df h2
  obtain ⟨t, rfl⟩ := Int.eq_ofNat_of_zero_le (a := at_) (by omega)
  have hd := decN_lt ((bs.drop t).take 2)
  rw [show ((bs.drop t).take 2).length = 2 by simp; omega] at hd
  have e3 : decN ((bs.drop t).take 2) = (bs.getD t default).toNat + 256 * (bs.getD (t + 1) default).toNat := by
    rw [drop_cons_getD bs t (by omega), drop_cons_getD bs (t + 1) (by omega)]
    simp [decN]
  have e2 : getRunF bs t = if (bs.length : Int) - t - 2 < decN ((bs.drop t).take 2) then ([], 0, 2) else ((bs.drop (t + 2)).take (decN ((bs.drop t).take 2)), (t : Int) + 2 + (decN ((bs.drop t).take 2) : Int), 0) := by
    unfold getRunF; rw [if_neg hb, if_neg hb2]; rfl
  rw [e2]
  have hb0 := (bs.getD t default).isLt
  have hb1 := (bs.getD (t + 1) default).isLt
  conv => whnf
  refine vcDraw_go lok mixed (fun w1 => w1 = w'.drew) [] [0, 1, 2, 3, 4, 5, 6, 7, 8, 9, 10, 11, 12, 13] (by kernel_rfl) fun w1 hw1 => ⟨hw1, ?_⟩
  have hx1 : Ext w' w1 := by rw [hw1]; exact Ext.drew _
  conv => whnf
  obtain ⟨p, o, ha, hcell⟩ := (h.ext hx1).at (t : Int) (by omega) (by omega)
  refine ⟨p, o, ha, ⟨by omega, by omega⟩, ?_⟩
  conv => whnf
  refine ⟨_, fun w2 hw2 => by rw [hw2, ← hw1]; exact hcell, ?_⟩
  conv => whnf
  rw [Int.toNat_natCast]
  intro z hz
  obtain rfl : z = ((bs.getD t default).toNat : Int) := by rw [hz, wi64]; omega
  conv => whnf
  refine ⟨by omega, ?_⟩
  conv => whnf
  obtain ⟨p2, o2, ha2, hcell2⟩ := (h.ext hx1).at ((t : Int) + 1) (by omega) (by omega)
  refine ⟨p2, o2, ha2, ⟨by omega, by omega⟩, ?_⟩
  conv => whnf
  refine ⟨_, fun w2 hw2 => by rw [hw2, ← hw1]; exact hcell2, ?_⟩
  conv => whnf
  rw [show ((t : Int) + 1).toNat = t + 1 by omega]
  intro z hz
  obtain rfl : z = ((bs.getD (t + 1) default).toNat : Int) := by rw [hz, wi64]; omega
  conv => whnf
  refine ⟨by omega, ?_⟩
  conv => whnf
  refine ⟨by omega, ?_⟩
  conv => whnf
  refine ⟨by omega, ?_⟩
  conv => whnf
  refine ⟨by omega, ?_⟩
  conv => whnf
  rw [show ((bs.getD t default).toNat : Int) + 256 * ((bs.getD (t + 1) default).toNat : Int) = (decN ((bs.drop t).take 2) : Int) by rw [e3]; omega]
  generalize decN ((bs.drop t).take 2) = d at *
  refine vcCond_split lok rfl (fun h3 => ?_) (fun h3 => ?_)
  · have h3 := dt h3
    conv => whnf
    rw [if_pos (by omega)]
    exact ⟨none, 0, rfl, Own.nil _ _ _ _, hx1⟩
  have h3 := df h3
  rw [if_neg (by omega)]
  conv => whnf
  refine ⟨by omega, ?_⟩
  conv => whnf
  refine ⟨by omega, ?_⟩
  conv => whnf
  refine ⟨by omega, ?_⟩
  conv => whnf
  refine ⟨by omega, fun a' ha' => ?_⟩
  have ha2 : a' = if c = t + 2 then a else a.map (·.add ((t + 2) * 1)) := by
    rw [ha', show ((t : Int) + 2).toNat = t + 2 by omega]
  have hs : Sl u8v w1 a' ((bs.drop (t + 2)).take d) := by
    rw [ha2]
    have := Sl.mid (h.ext hx1) (t + 2) (t + 2 + d) c (by omega) (by omega) hc
    rwa [Nat.add_sub_cancel_left] at this
  conv => whnf
  have hj := join_calls (c := 0) (d := c - ((t : Int) + 2).toNat) (Sl.nil u8v w1 none) hs (by simp; omega)
  rw [show ((bs.drop (t + 2)).take d).length = ((t : Int) + 2 + d).toNat - ((t : Int) + 2).toNat by simp; omega] at hj
  refine Calls.ret hj ?_
  rintro _ w2 ⟨a2, c2, rfl, ho2, hx2⟩
  conv => whnf
  refine ⟨by omega, ?_⟩
  conv => whnf
  refine ⟨by omega, ?_⟩
  conv => whnf
  exact ⟨a2, c2, rfl, ho2.base hx1.size, hx1.trans hx2⟩

end Go.Proofs.Ytgipackjnncabaa

/- Walks of layer 2, fourth part: literals, signs, what must come of fixed calls. -/
set_option linter.unusedVariables false
set_option linter.unusedSimpArgs false
namespace Go.Vc
open Go.RowKit

theorem fill_one {cells : Array Value} {k : Nat} {v : Value} (h1 : v.oneCell' = true) (hk : k < cells.size) (rest : List (Nat × Value)) :
    Instr.fill (fun i => some (i * 1, 1)) cells ((k, v) :: rest) = Instr.fill (fun i => some (i * 1, 1)) (cells.setIfInBounds k v) rest := by
  have hc := oneCell_cells h1
  have h2 : ¬ (k + 1 > cells.size) := by omega
  simp [Instr.fill, hc, h2]

theorem fill_all : ∀ (vs : List Value) (k : Nat) (cells : Array Value), (∀ v ∈ vs, v.oneCell' = true) → cells.size = k + vs.length →
    Instr.fill (fun i => some (i * 1, 1)) cells ((vs.zipIdx k).map fun (v, i) => (i, v)) = some (cells.toList.take k ++ vs).toArray
  | [], k, cells, _, hs => by
    simp only [List.zipIdx_nil, List.map_nil, Instr.fill, List.append_nil]
    rw [List.take_of_length_le (by simp at hs ⊢; omega)]
  | v :: vs, k, cells, h1, hs => by
    simp only [List.zipIdx_cons, List.map_cons]
    rw [fill_one (h1 v (by simp)) (by simp at hs; omega), fill_all vs (k + 1) _ (fun u hu => h1 u (by simp [hu])) (by simp at hs ⊢; omega)]
    congr 2
    simp only [Array.toList_setIfInBounds]
    have hk : k < cells.toList.length := by simp at hs ⊢; omega
    rw [List.take_succ_eq_append_getElem (by simpa using hk)]
    rw [List.take_set, List.set_eq_of_length_le (by simp; omega)]
    simp

/-- a slice literal -/
theorem run_buildN {P : Program} {t e : TypeId} (he : Elem P t e) (vs : List Value) (h1 : ∀ v ∈ vs, v.oneCell' = true) (hl : vs.length ≤ 16777216) (w : World) :
    (Instr.buildSlice t vs.length ((vs.zipIdx 0).map fun (v, i) => (i, v)).toArray).run P w = .ok (.slice (some ⟨w.heap.size, 0, none⟩) vs.length vs.length) (w.alloc (.cells vs.toArray e)) := by
  obtain ⟨i, z, hi, hz, hs, hby, hzc⟩ := he.info
  have key : ∀ cells : Array Value, cells.size = vs.length → Instr.fill (fun i => some (i * 1, 1)) cells ((vs.zipIdx 0).map fun (v, i) => (i, v)) = some vs.toArray := by
    intro cells hc
    have := fill_all vs 0 cells h1 (by omega)
    simpa using this
  have hbig : ¬ (16777216 < vs.length) := by omega
  by_cases h0 : vs = []
  · subst h0
    have k0 := key #[] rfl
    simp only [List.zipIdx_nil, List.map_nil] at k0
    simp [Instr.buildSlice, run_underlying he.und, run_size hi, hs, k0, run_newRow, Array.range_zero']
    rfl
  · have hne : ¬ vs.length = 0 := by simpa using h0
    have k1 := key ((Array.range vs.length).map fun x => z.cells[x % z.cells.size]!) (by simp)
    simp [Instr.buildSlice, run_underlying he.und, run_size hi, hs, run_zero hi hz, hbig, hne, h0]
    simp only [Nat.mul_one] at k1
    rw [k1]
    simp [run_newRow]

theorem Sl.lit {α : Type} {f : α → Value} {e : TypeId} (xs : List α) (w : World) : Sl f (w.alloc (.cells (xs.map f).toArray e)) (some ⟨w.heap.size, 0, none⟩) xs := by
  refine .inr ⟨_, _, rfl, fun i y hy => ?_⟩
  rw [World.cell?_alloc_new, Nat.zero_add]
  simp [hy]

/-! ### a slice converted to its own type: its block bears a mark behind its end -/
theorem freeze_cell (w : World) (a p : Addr) (n : Nat) : (w.freeze a n).cell? p = w.cell? p := by
  unfold World.freeze
  split
  · rfl
  · unfold World.cell?
    simp only [Array.getElem?_modify]
    by_cases h : a.block = p.block
    · rw [if_pos h]
      cases hh : w.heap[p.block]? with
      | none => rfl
      | some o => cases o <;> rfl
    · rw [if_neg h]

theorem freeze_ext {w0 w : World} (h : Ext w0 w) {a : Addr} (ha : w0.heap.size ≤ a.block) (n : Nat) : Ext w0 (w.freeze a n) := by
  refine Below.trans h ?_
  unfold World.freeze
  split
  · exact Below.refl _ _
  · refine ⟨rfl, rfl, rfl, by simp, fun k hk => ?_⟩
    simp only [Array.getElem?_modify]
    rw [if_neg (by omega)]

theorem run_conv {P : Program} {t e : TypeId} (hu : P.underlying t = some (.slice e)) (he : P.underlying e = some (.int .u8)) {w : World} {g n c : Nat} {cur : Array Value} {T : TypeId} {fr : Nat × Nat} (hg : w.heap[g]? = some (.cells cur T fr)) :
    (convert t t (.slice (some ⟨g, 0, none⟩) n c)).run P w = .ok (.slice (some ⟨g, 0, none⟩) n c) (w.freeze ⟨g, cur.size, none⟩ 1) := by
  have hs : w.shape? g = some (T, cur.size) := by simp [World.shape?, hg]
  simp [convert, run_underlying hu, run_underlying he, markStringish, shape, freeze, Sem.run, hs]

theorem Sl.frz {α : Type} {f : α → Value} {w : World} {a : Option Addr} {xs : List α} (h : Sl f w a xs) (p : Addr) (n : Nat) : Sl f (w.freeze p n) a xs := by
  rcases h with h | ⟨b, o, ha, hc⟩
  · exact .inl h
  · exact .inr ⟨b, o, ha, fun i x hx => by rw [freeze_cell]; exact hc i x hx⟩

/-- a text as bytes: what stands behind the conversion -/
theorem run_convLit {P : Program} {t e : TypeId} (hu : P.underlying t = some (.slice e)) (he : P.underlying e = some (.int .u8)) (xs : List (BitVec 8)) (w : World) (n c : Nat) :
    ∃ w2, (convert t t (.slice (some ⟨w.heap.size, 0, none⟩) n c)).run P (w.alloc (.cells (xs.map u8v).toArray e)) = .ok (.slice (some ⟨w.heap.size, 0, none⟩) n c) w2 ∧ Sl u8v w2 (some ⟨w.heap.size, 0, none⟩) xs ∧ Ext w w2 :=
  ⟨_, run_conv hu he (heap_alloc_new w _), (Sl.lit (f := u8v) xs w).frz _ _, freeze_ext (Ext.new _ _) (Nat.le_refl _) _⟩
end Go.Vc

namespace Go.Proofs.Ytgipackjnncabaa
open Go.Vc Go.RowKit

theorem und22 : Try.prog.underlying 22 = some (.slice 5) := by kernel_rfl
theorem und5 : Try.prog.underlying 5 = some (.int .u8) := by kernel_rfl

/-- the number with a sign that a word is -/
def signF (x : Nat) : Int := if x < 2147483648 then x else x - 4294967296

theorem wi32_sign {x : Nat} (h : x < 4294967296) : IntKind.i32.wrap (x : Int) = signF x := by
  rw [wi32]; unfold signF; split <;> omega

theorem signed_calls {w : World} (x : Nat) (h : x < 4294967296) : Calls Try.prog 55 #[.int .u32 x] w (Ret fun v w' => v = .int .i32 (signF x) ∧ w' = w) := by
  refine calls_of_vc lok Try.func55 ?_ rfl
  conv => whnf
  intro z hz
  rw [wi32_sign h] at hz
  subst hz
  conv => whnf
  exact ⟨rfl, rfl⟩

theorem known02 {w : World} : Calls Try.prog 40 #[] w (Ret fun v w' => v = .bool true ∧ Ext w w') := by
  refine calls_of_vc (args := []) lok Try.func40 ?_ rfl
  conv => whnf
  refine Calls.ret (put_calls (c := 0) (Sl.nil u8v w none) (by simp) 2 258 (by decide)) ?_
  rintro _ w1 ⟨a1, c1, rfl, ho1, hx1⟩
  have e1 : putF [] 2 258 = ([2#8, 1#8], 0) := by decide
  rw [e1] at ho1 ⊢
  conv => whnf
  refine ⟨_, _, run_buildN e8.toElem [u8v 97#8, u8v 98#8] (by simp [u8v, Value.oneCell']) (by simp) w1, ?_⟩
  conv => whnf
  obtain ⟨w2, hr2, hs2, hx2⟩ := run_convLit und22 und5 [97#8, 98#8] w1 2 2
  refine ⟨_, _, hr2, ?_⟩
  conv => whnf
  have hp := putRun_calls (c := 0) (d := 2) (Sl.nil u8v w2 none) hs2 (Nat.zero_le _) (by decide)
  refine Calls.ret hp ?_
  rintro _ w3 ⟨a3, c3, rfl, ho3, hx3⟩
  have e3 : putRunF [] [97#8, 98#8] = ([2#8, 0#8, 97#8, 98#8], 0) := by decide
  rw [e3] at ho3 ⊢
  conv => whnf
  refine Calls.ret (put_calls (c := 0) (Sl.nil u8v w3 none) (by simp) 1 256 (by decide)) ?_
  rintro _ w4 ⟨a4, c4, rfl, ho4, hx4⟩
  have e4 : putF [] 1 256 = ([], 3) := by decide
  rw [e4] at ho4 ⊢
  conv => whnf
  have h13 := (hx2.trans hx3).trans hx4
  refine vcReg_go lok ?_
  conv => whnf
  refine ⟨_, run_toStr (ho1.sl.ext h13), ?_⟩
  conv => whnf
  intro β hβ
  obtain rfl : β = true := (str_eq hβ rfl (ys := [2#8, 1#8]) rfl).trans (by decide)
  conv => whnf
  refine ⟨_, run_toStr (ho3.sl.ext hx4), ?_⟩
  conv => whnf
  intro β hβ
  obtain rfl : β = true := (str_eq hβ rfl (ys := [2#8, 0#8, 97#8, 98#8]) rfl).trans (by decide)
  conv => whnf
  refine Calls.ret (signed_calls 4294967295 (by decide)) ?_
  rintro _ w5 ⟨rfl, rfl⟩
  conv => whnf
  exact ⟨rfl, hx1.trans h13⟩

end Go.Proofs.Ytgipackjnncabaa

/- From the given rows of integers to slices that read as lists. -/
set_option linter.unusedVariables false
namespace Go.Vc
open Go.RowKit

theorem wf_le {k : IntKind} {n : Int} (h : (Lit.int k n).wf = true) : k.min ≤ n ∧ n ≤ k.max := by
  obtain ⟨h1, h2⟩ := (Bool.and_eq_true_iff (x := decide (k.min ≤ n)) (y := decide (n ≤ k.max))).1 h
  exact ⟨of_decide_eq_true h1, of_decide_eq_true h2⟩

theorem row_any {α : Type} (f : α → Value) (k : IntKind) (g : Int → α) {w : World} {a : Option Addr} {len cap : Nat} {zs : List Int}
    (hg : ∀ n, (Lit.int k n).wf = true → f (g n) = .int k n)
    (h : (a = none ∧ len = 0 ∧ cap = 0 ∧ zs = []) ∨ ∃ x, a = some x ∧ len ≤ cap ∧ cap ≤ maxLen ∧ zs.length = cap ∧ (∀ i, i < zs.length → w.cell? (x.add i) = some (.int k (zs.getD i 0))) ∧ ∀ n ∈ zs, (Lit.int k n).wf = true) :
    ∃ bs : List α, bs.length = len ∧ Sl f w a bs ∧ len ≤ cap := by
  rcases h with ⟨rfl, rfl, rfl, rfl⟩ | ⟨x, rfl, h1, h2, h3, h4, h5⟩
  · exact ⟨[], rfl, .nil _ _ _, Nat.le_refl _⟩
  · refine ⟨(zs.take len).map g, by simp; omega, ?_, h1⟩
    rcases Nat.eq_zero_or_pos len with rfl | hl
    · exact .inl (by simp)
    obtain ⟨b, o, sp⟩ := x
    have h0 := h4 0 (by omega)
    have hsp : sp = none := by
      simp only [Addr.add, if_true] at h0
      unfold World.cell? at h0
      split at h0
      · cases sp with
        | none => rfl
        | some _ => cases h0
      · cases h0
    subst hsp
    refine .inr ⟨b, o, rfl, fun i y hy => ?_⟩
    rw [List.getElem?_map, List.getElem?_take] at hy
    split at hy
    · rename_i hi
      have hlt : i < zs.length := by omega
      rw [List.getElem?_eq_getElem hlt] at hy
      cases hy
      have := h4 i hlt
      rw [addr_add] at this
      rw [this, hg _ (h5 _ (List.getElem_mem hlt))]
      simp [List.getD, List.getElem?_eq_getElem hlt]
    · cases hy

theorem row_u8 {w : World} {a : Option Addr} {len cap : Nat} {zs : List Int}
    (h : (a = none ∧ len = 0 ∧ cap = 0 ∧ zs = []) ∨ ∃ x, a = some x ∧ len ≤ cap ∧ cap ≤ maxLen ∧ zs.length = cap ∧ (∀ i, i < zs.length → w.cell? (x.add i) = some (.int .u8 (zs.getD i 0))) ∧ ∀ n ∈ zs, (Lit.int .u8 n).wf = true) :
    ∃ bs : List (BitVec 8), bs.length = len ∧ Sl u8v w a bs ∧ len ≤ cap := by
  refine row_any u8v .u8 (BitVec.ofInt 8) (fun n hn => ?_) h
  obtain ⟨h1, h2⟩ := wf_le hn
  simp [IntKind.min, IntKind.max, IntKind.signed, IntKind.bits] at h1 h2
  simp only [u8v, BitVec.toNat_ofInt]
  congr 1
  omega

theorem row_u32 {w : World} {a : Option Addr} {len cap : Nat} {zs : List Int}
    (h : (a = none ∧ len = 0 ∧ cap = 0 ∧ zs = []) ∨ ∃ x, a = some x ∧ len ≤ cap ∧ cap ≤ maxLen ∧ zs.length = cap ∧ (∀ i, i < zs.length → w.cell? (x.add i) = some (.int .u32 (zs.getD i 0))) ∧ ∀ n ∈ zs, (Lit.int .u32 n).wf = true) :
    ∃ bs : List (BitVec 32), bs.length = len ∧ Sl u32v w a bs ∧ len ≤ cap := by
  refine row_any u32v .u32 (BitVec.ofInt 32) (fun n hn => ?_) h
  obtain ⟨h1, h2⟩ := wf_le hn
  simp [IntKind.min, IntKind.max, IntKind.signed, IntKind.bits] at h1 h2
  simp only [u32v, BitVec.toNat_ofInt]
  congr 1
  omega

theorem row_i64 {w : World} {a : Option Addr} {len cap : Nat} {zs : List Int}
    (h : (a = none ∧ len = 0 ∧ cap = 0 ∧ zs = []) ∨ ∃ x, a = some x ∧ len ≤ cap ∧ cap ≤ maxLen ∧ zs.length = cap ∧ (∀ i, i < zs.length → w.cell? (x.add i) = some (.int .i64 (zs.getD i 0))) ∧ ∀ n ∈ zs, (Lit.int .i64 n).wf = true) :
    ∃ xs : List Int, xs.length = len ∧ Sl (fun x => Value.int .i64 x) w a xs ∧ len ≤ cap :=
  row_any (fun x => Value.int .i64 x) .i64 id (fun n hn => rfl) h

theorem wf_i64 {n : Int} (h : (Lit.int .i64 n).wf = true) : -9223372036854775808 ≤ n ∧ n ≤ 9223372036854775807 := by
  obtain ⟨h1, h2⟩ := wf_le h
  simp [IntKind.min, IntKind.max, IntKind.signed, IntKind.bits] at h1 h2
  omega
theorem wf_u64 {n : Int} (h : (Lit.int .u64 n).wf = true) : ∃ m : Nat, n = m ∧ m < 2 ^ 64 := by
  obtain ⟨h1, h2⟩ := wf_le h
  simp [IntKind.min, IntKind.max, IntKind.signed, IntKind.bits] at h1 h2
  exact ⟨n.toNat, by omega, by omega⟩
theorem wf_u32 {n : Int} (h : (Lit.int .u32 n).wf = true) : ∃ m : BitVec 32, n = m.toNat := by
  obtain ⟨h1, h2⟩ := wf_le h
  simp [IntKind.min, IntKind.max, IntKind.signed, IntKind.bits] at h1 h2
  exact ⟨BitVec.ofInt 32 n, by rw [BitVec.toNat_ofInt]; omega⟩
theorem wf_u8 {n : Int} (h : (Lit.int .u8 n).wf = true) : ∃ m : BitVec 8, n = m.toNat := by
  obtain ⟨h1, h2⟩ := wf_le h
  simp [IntKind.min, IntKind.max, IntKind.signed, IntKind.bits] at h1 h2
  exact ⟨BitVec.ofInt 8 n, by rw [BitVec.toNat_ofInt]; omega⟩

/-- a law's ending as the frame asks for it -/
theorem law_ret {w : World} {e : Ending} {w' : World} (h : Ret (fun v w' => v = .bool true ∧ Ext w w') e w') : e = .returned (.bool true) ∧ Below w.heap.size w w' := by
  cases e with
  | returned v => obtain ⟨rfl, h⟩ := h; exact ⟨rfl, h⟩
  | _ => cases h

end Go.Vc

/- The laws OctetPuts and OctetGets, walked. -/
set_option linter.unusedVariables false
namespace Go.Proofs.Ytgipackjnncabaa
open Go.Vc Go.RowKit

/-- the law holds, and nothing that was there has turned -/
abbrev Law (w : World) : Ending → World → Prop := Ret fun v w' => v = .bool true ∧ Ext w w'

theorem octetPuts_walk {w : World} {a : Option Addr} {c : Nat} {bs : List (BitVec 8)} (h : Sl u8v w a bs) (width : Int) (n : Nat) (hn : n < 2 ^ 64) :
    Calls Try.prog 3 #[.slice a bs.length c, .int .i64 width, .int .u64 n] w (Law w) := by
  refine calls_of_vc lok Try.func3 ?_ rfl
  conv => whnf
  refine vcCond_split lok rfl (fun h1 => ?_) (fun h1 => ?_)
  · conv => whnf
    refine Calls.ret known02 ?_
    rintro _ w1 ⟨rfl, hx1⟩
    conv => whnf
    exact ⟨rfl, hx1⟩
  have hl := df h1
  conv => whnf
  refine Calls.ret (lent_calls h (by omega)) ?_
  rintro _ w1 ⟨a1, c1, rfl, ho1, hx1⟩
  have hs1 : Sl u8v w1 a1 bs := by simpa using ho1.sl.take bs.length
  have hc1 : bs.length + 1 ≤ c1 := by simpa using ho1.le.1
  conv => whnf
  refine Calls.ret (put_calls hs1 (by omega) width n hn) ?_
  rintro _ w2 ⟨a2, c2, rfl, ho2, hx2⟩
  conv => whnf
  refine Calls.ret (rput_calls (h.ext (hx1.trans hx2)) (by omega) width n hn) ?_
  rintro _ w3 ⟨a3, c3, rfl, ho3, hx3⟩
  have ho1' := ho1.ext (hx2.trans hx3)
  have h3 := h.ext ((hx1.trans hx2).trans hx3)
  have ho2' := ho2.ext hx3
  have hlen : (putF bs width n).1.length ≤ 2147483648 := by
    unfold putF
    split
    · simp
    · split
      · simp
      · simp [enc_len]; omega
  conv => whnf
  refine vcReg_go lok ?_
  conv => whnf
  refine ⟨_, run_toStr ho2'.sl, ?_⟩
  conv => whnf
  refine ⟨_, run_toStr ho3.sl, ?_⟩
  conv => whnf
  intro β hβ
  obtain rfl : β = true := by rw [str_eq hβ rfl rfl]; simp
  conv => whnf
  refine bcase (fun h5 => ?_) (fun h5 => absurd rfl (df h5))
  conv => whnf
  refine Calls.ret (kept_calls ho1'.sl h3 hc1 (by omega)) ?_
  rintro _ _ ⟨rfl, rfl⟩
  conv => whnf
  refine Calls.ret (spoil_calls ho2' (by have := hx1.size; have := hx2.size; have := hx3.size; omega) hlen) ?_
  rintro _ w4 ⟨rfl, hg4⟩
  have hx4 : Ext w1 w4 := hg4.extOf (hx2.trans hx3) (fun g hg => (ho2'.ge g hg).1)
  conv => whnf
  refine vcReg_go lok ?_
  conv => whnf
  refine Calls.ret (kept_calls (ho1.ext hx4).sl (h.ext (hx1.trans hx4)) hc1 (by omega)) ?_
  rintro _ _ ⟨rfl, rfl⟩
  conv => whnf
  refine Calls.ret known02 ?_
  rintro _ w5 ⟨rfl, hx5⟩
  conv => whnf
  exact ⟨rfl, (hx1.trans hx4).trans hx5⟩

theorem octetGets_walk {w : World} {a : Option Addr} {c : Nat} {bs : List (BitVec 8)} (h : Sl u8v w a bs) (at_ width : Int) (hat : -9223372036854775808 ≤ at_) :
    Calls Try.prog 4 #[.slice a bs.length c, .int .i64 at_, .int .i64 width] w (Law w) := by
  refine calls_of_vc lok Try.func4 ?_ rfl
  conv => whnf
  refine vcCond_split lok rfl (fun h1 => ?_) (fun h1 => ?_)
  · conv => whnf
    refine Calls.ret known02 ?_
    rintro _ w1 ⟨rfl, hx1⟩
    conv => whnf
    exact ⟨rfl, hx1⟩
  have hl := df h1
  conv => whnf
  refine Calls.ret (lent_calls h (by omega)) ?_
  rintro _ w1 ⟨a1, c1, rfl, ho1, hx1⟩
  have hs1 : Sl u8v w1 a1 bs := by simpa using ho1.sl.take bs.length
  have hc1 : bs.length + 1 ≤ c1 := by simpa using ho1.le.1
  conv => whnf
  refine Calls.ret (get_calls hs1 (by omega) at_ width hat) ?_
  rintro _ _ ⟨rfl, rfl⟩
  conv => whnf
  refine Calls.ret (rget_calls (h.ext hx1) (by omega) at_ width hat) ?_
  rintro _ _ ⟨rfl, rfl⟩
  conv => whnf
  refine vcReg_go lok ?_
  conv => whnf
  refine bcase (fun h5 => ?_) (fun h5 => absurd rfl (df h5))
  conv => whnf
  refine bcase (fun h5 => ?_) (fun h5 => absurd rfl (df h5))
  conv => whnf
  refine Calls.ret (kept_calls ho1.sl (h.ext hx1) hc1 (by omega)) ?_
  rintro _ _ ⟨rfl, rfl⟩
  conv => whnf
  refine Calls.ret known02 ?_
  rintro _ w5 ⟨rfl, hx5⟩
  conv => whnf
  exact ⟨rfl, hx1.trans hx5⟩

end Go.Proofs.Ytgipackjnncabaa

/- The laws OctetRuns and OctetBack, walked. -/
set_option linter.unusedVariables false
namespace Go.Vc
open Go.RowKit
theorem run_build0 {α : Type} {P : Program} {t e : TypeId} (f : α → Value) (he : Elem P t e) (w : World) :
    ∃ w', (Instr.buildSlice t 0 #[]).run P w = .ok (.slice (some ⟨w.heap.size, 0, none⟩) 0 0) w' ∧ Own e f w.heap.size w' (some ⟨w.heap.size, 0, none⟩) 0 [] ∧ Ext w w' := by
  refine ⟨_, run_buildN he [] (by simp) (by simp) w, ?_, Ext.new _ _⟩
  refine ⟨rfl, .inr ⟨_, 0, #[], rfl, Nat.le_refl _, heap_alloc_new w _, Nat.le_refl _, Nat.zero_le _, rfl, rfl⟩⟩
end Go.Vc
namespace Go.Proofs.Ytgipackjnncabaa
open Go.Vc Go.RowKit

theorem putRun_len (bs xs : List (BitVec 8)) (h1 : bs.length ≤ 1048576) (h2 : xs.length ≤ 1048576) : (putRunF bs xs).1.length ≤ 2147483648 := by
  unfold putRunF
  split
  · simp
  · simp; omega

theorem getRun_len (bs : List (BitVec 8)) (at_ : Int) (h1 : bs.length ≤ 1048576) : (getRunF bs at_).1.length ≤ 2147483648 := by
  unfold getRunF
  split
  · simp
  · split
    · simp
    · split
      · simp
      · simp; omega

theorem octetRuns_walk {w : World} {a b : Option Addr} {c d : Nat} {bs xs : List (BitVec 8)} (h : Sl u8v w a bs) (hb : Sl u8v w b xs) (hc : bs.length ≤ c) (hd : xs.length ≤ d) (at_ : Int) (hat : -9223372036854775808 ≤ at_) :
    Calls Try.prog 8 #[.slice a bs.length c, .slice b xs.length d, .int .i64 at_] w (Law w) := by
  refine calls_of_vc lok Try.func8 ?_ rfl
  conv => whnf
  refine vcReg_meet lok (fun β : Bool => [(27, .bool β)]) (fun β w' => w' = w ∧ β = decide (1048576 < bs.length ∨ 1048576 < xs.length)) [27] (fun _ => rfl) rfl ?_ ?_
  · conv => whnf
    refine bcase (fun h1 => ?_) (fun h1 => ?_)
    · conv => whnf
      exact ⟨_, ⟨rfl, trivial⟩, rfl, by have := dt h1; simp; omega⟩
    · conv => whnf
      exact ⟨_, ⟨rfl, trivial⟩, rfl, by have := df h1; rw [decide_eq_decide]; omega⟩
  rintro β w' ⟨rfl, hβ⟩
  conv => whnf
  refine vcCond_split lok rfl (fun h1 => ?_) (fun h1 => ?_)
  · conv => whnf
    refine Calls.ret known02 ?_
    rintro _ w1 ⟨rfl, hx1⟩
    conv => whnf
    exact ⟨rfl, hx1⟩
  rw [hβ] at h1
  have hl := df h1
  conv => whnf
  refine Calls.ret (lent_calls h (by omega)) ?_
  rintro _ w1 ⟨a1, c1, rfl, ho1, hx1⟩
  have hs1 : Sl u8v w1 a1 bs := by simpa using ho1.sl.take bs.length
  have hc1 : bs.length + 1 ≤ c1 := by simpa using ho1.le.1
  conv => whnf
  refine Calls.ret (lent_calls (hb.ext hx1) (by omega)) ?_
  rintro _ w2 ⟨a2, c2, rfl, ho2, hx2⟩
  have hs2 : Sl u8v w2 a2 xs := by simpa using ho2.sl.take xs.length
  have hc2 : xs.length + 1 ≤ c2 := by simpa using ho2.le.1
  conv => whnf
  refine Calls.ret (putRun_calls (hs1.ext hx2) hs2 (by omega) (by omega)) ?_
  rintro _ w3 ⟨a3, c3, rfl, ho3, hx3⟩
  conv => whnf
  have e3 : Ext _ w3 := (hx1.trans hx2).trans hx3
  refine Calls.ret (rputRun_calls (h.ext e3) (hb.ext e3) (by omega) (by omega)) ?_
  rintro _ w4 ⟨a4, c4, rfl, ho4, hx4⟩
  conv => whnf
  refine Calls.ret (getRun_calls (((hs1.ext hx2).ext hx3).ext hx4) (by omega) (by omega) at_ hat) ?_
  rintro _ w5 ⟨a5, c5, rfl, ho5, hx5⟩
  conv => whnf
  refine Calls.ret (rgetRun_calls (h.ext ((e3.trans hx4).trans hx5)) (by omega) hc at_ hat) ?_
  rintro _ w6 ⟨a6, c6, rfl, ho6, hx6⟩
  conv => whnf
  have x36 : Ext w3 w6 := (hx4.trans hx5).trans hx6
  have ho3' := ho3.ext x36
  have ho5' := ho5.ext hx6
  refine vcReg_meet lok (fun β : Bool => [(19, .bool β)]) (fun β w' => w' = w6 ∧ β = true) [19] (fun _ => rfl) rfl ?_ ?_
  · conv => whnf
    refine ⟨_, run_toStr ho3'.sl, ?_⟩
    conv => whnf
    refine ⟨_, run_toStr (ho4.ext (hx5.trans hx6)).sl, ?_⟩
    conv => whnf
    intro β hβ
    obtain rfl : β = true := by rw [str_eq hβ rfl rfl]; simp
    conv => whnf
    refine bcase (fun h5 => ?_) (fun h5 => absurd rfl (df h5))
    conv => whnf
    refine ⟨_, run_toStr ho5'.sl, ?_⟩
    conv => whnf
    refine ⟨_, run_toStr ho6.sl, ?_⟩
    conv => whnf
    intro β hβ
    obtain rfl : β = true := by rw [str_eq hβ rfl rfl]; simp
    conv => whnf
    refine bcase (fun h5 => ?_) (fun h5 => absurd rfl (df h5))
    conv => whnf
    exact ⟨_, ⟨rfl, trivial⟩, rfl, by simp⟩
  rintro _ _ ⟨rfl, rfl⟩
  conv => whnf
  have z1 := hx1.size
  have z2 := hx2.size
  have z3 := hx3.size
  have z4 := hx4.size
  have z5 := hx5.size
  have z6 := hx6.size
  refine Calls.ret (spoil_calls ho3' (by omega) (putRun_len bs xs (by omega) (by omega))) ?_
  rintro _ w7 ⟨rfl, hg7⟩
  have x27 : Ext w2 w7 := hg7.extOf (hx3.trans x36) (fun g hg => (ho3'.ge g hg).1)
  have z7 := x27.size
  conv => whnf
  have ho5'' : Own 5 u8v w4.heap.size w7 a5 c5 (getRunF bs at_).1 := hg7.keepOwn ho5' (fun g hg h3 => by
    have h6 := (ho3.ge g h3).2
    have h7 := (ho5.ge g hg).1
    omega)
  refine Calls.ret (spoil_calls ho5'' (by have := hg7.size; omega) (getRun_len bs at_ (by omega))) ?_
  rintro _ w8 ⟨rfl, hg8⟩
  have x28 : Ext w2 w8 := hg8.extOf x27 (fun g hg => by have := (ho5'.ge g hg).1; omega)
  conv => whnf
  refine vcReg_go lok ?_
  conv => whnf
  refine Calls.ret (kept_calls (ho1.ext (hx2.trans x28)).sl (h.ext ((hx1.trans hx2).trans x28)) hc1 (by omega)) ?_
  rintro _ _ ⟨rfl, rfl⟩
  conv => whnf
  refine Calls.ret (kept_calls (ho2.ext x28).sl (hb.ext ((hx1.trans hx2).trans x28)) hc2 (by omega)) ?_
  rintro _ _ ⟨rfl, rfl⟩
  conv => whnf
  refine Calls.ret known02 ?_
  rintro _ w9 ⟨rfl, hx9⟩
  conv => whnf
  exact ⟨rfl, ((hx1.trans hx2).trans x28).trans hx9⟩

theorem decN_enc : ∀ (k n : Nat), decN (enc k n) = n % 256 ^ k
  | 0, n => by simp [enc, decN, Nat.mod_one]
  | k + 1, n => by
    rw [enc_succ, decN_append, decN_single, enc_len, decN_enc k n, BitVec.toNat_ofNat, show (2 : Nat) ^ 8 = 256 from rfl]
    exact (Nat.mod_pow_succ).symm

theorem shl_pow (k : Nat) (hk : k < 8) : IntKind.u64.wrap ((1 : Int) * 2 ^ (min ((8 * (k : Int))).toNat IntKind.u64.bits)) = ((256 ^ k : Nat) : Int) := by
  have e1 : min (8 * (k : Int)).toNat IntKind.u64.bits = 8 * k := by
    show min (8 * (k : Int)).toNat 64 = 8 * k
    omega
  rw [e1, wu64, Int.one_mul, Int.pow_mul, show (2 : Int) ^ 8 = ((256 : Nat) : Int) from by decide, ← Int.natCast_pow]
  have : 256 ^ k ≤ 256 ^ 7 := Nat.pow_le_pow_right (by decide) (by omega)
  have h7 : (256 : Nat) ^ 7 = 72057594037927936 := by decide
  rw [h7] at this
  generalize 256 ^ k = m at this ⊢
  omega

theorem get_back (bs ts : List (BitVec 8)) (k v : Nat) (h1 : 1 ≤ k) (h2 : k ≤ 8) (hv : v < 256 ^ k) : getF (bs ++ enc k v ++ ts) bs.length k = (v, 0) := by
  unfold getF
  rw [if_neg (by simp; omega), if_neg (by simp [enc_len]; omega)]
  have : ((bs ++ enc k v ++ ts).drop (bs.length : Int).toNat).take (k : Int).toNat = enc k v := by
    rw [Int.toNat_natCast, Int.toNat_natCast, List.append_assoc, List.drop_left, List.take_append_of_le_length (by rw [enc_len]; exact Nat.le_refl _), List.take_of_length_le (by rw [enc_len]; exact Nat.le_refl _)]
  rw [this, decN_enc, Nat.mod_eq_of_lt hv]

/-- the number as it is cut to k bytes -/
def cutN (n k : Nat) : Nat := if k < 8 then n % 256 ^ k else n

theorem cutN_lt (n k : Nat) (hn : n < 2 ^ 64) (hk : k ≤ 8) : cutN n k < 256 ^ k := by
  unfold cutN
  split
  · exact Nat.mod_lt _ (Nat.pow_pos (by decide))
  · have : k = 8 := by omega
    subst this; exact hn

theorem octetBack_walk {w : World} {a b : Option Addr} {c d : Nat} {bs xs : List (BitVec 8)} (h : Sl u8v w a bs) (hb : Sl u8v w b xs) (hc : bs.length ≤ c) (n : Nat) (hn : n < 2 ^ 64) :
    Calls Try.prog 5 #[.slice a bs.length c, .int .u64 n, .slice b xs.length d] w (Law w) := by
  refine calls_of_vc lok Try.func5 ?_ rfl
  conv => whnf
  refine vcReg_meet lok (fun β : Bool => [(21, .bool β)]) (fun β w' => w' = w ∧ β = decide (65536 < bs.length ∨ 65536 < xs.length)) [21] (fun _ => rfl) rfl ?_ ?_
  · conv => whnf
    refine bcase (fun h1 => ?_) (fun h1 => ?_)
    · conv => whnf
      exact ⟨_, ⟨rfl, trivial⟩, rfl, by have := dt h1; simp; omega⟩
    · conv => whnf
      exact ⟨_, ⟨rfl, trivial⟩, rfl, by have := df h1; rw [decide_eq_decide]; omega⟩
  rintro β w' ⟨hw, hβ⟩
  subst hw
  conv => whnf
  refine vcCond_split lok rfl (fun h1 => ?_) (fun h1 => ?_)
  · conv => whnf
    refine Calls.ret known02 ?_
    rintro _ w1 ⟨rfl, hx1⟩
    conv => whnf
    exact ⟨rfl, hx1⟩
  rw [hβ] at h1
  have hl := df h1
  conv => whnf
  refine vcLoop_inv lok (σ := Nat)
    (fun k => [(7, .int .i64 k), (0, .slice a bs.length c), (1, .int .u64 n), (2, .slice b xs.length d), (6, .bool false)])
    (fun k w1 => 1 ≤ k ∧ k ≤ 9 ∧ Ext w' w1) (fun k => 9 - k)
    1 ⟨rfl, rfl, rfl, rfl, rfl, trivial⟩ ⟨by omega, by omega, Ext.refl _⟩ ?_
  rintro k w1 ⟨hk1, hk9, hx1⟩
  conv => whnf
  refine vcCond_split lok rfl (fun h2 => ?_) (fun h2 => ?_)
  rotate_left
  · conv => whnf
    refine Calls.ret known02 ?_
    rintro _ w2 ⟨rfl, hx2⟩
    conv => whnf
    exact ⟨rfl, hx1.trans hx2⟩
  have hk8 : k ≤ 8 := by have := dt h2; omega
  conv => whnf
  refine vcCond_meet (fun v : Nat => [(8, .int .u64 v), (7, .int .i64 k), (0, .slice a bs.length c), (1, .int .u64 n), (2, .slice b xs.length d), (6, .bool false)]) (fun v w2 => w2 = w1 ∧ v = cutN n k) ?_ ?_
  · refine vcCond_split lok rfl (fun h3 => ?_) (fun h3 => ?_)
    · have h3 := dt h3
      conv => whnf
      refine ⟨by omega, ?_⟩
      conv => whnf
      intro z hz
      obtain rfl : z = 8 * (k : Int) := by rw [hz, wu64]; omega
      conv => whnf
      refine ⟨by omega, ?_⟩
      intro z2 hz2
      rw [shl_pow k (by omega)] at hz2
      subst hz2
      conv => whnf
      refine ⟨by have : 0 < 256 ^ k := Nat.pow_pos (by decide); omega, ?_⟩
      intro z3 hz3
      rw [Int.tmod_eq_emod_of_nonneg (by omega), ← Int.natCast_emod] at hz3
      subst hz3
      conv => whnf
      exact ⟨n % 256 ^ k, ⟨rfl, rfl, rfl, rfl, rfl, rfl, trivial⟩, rfl, by unfold cutN; rw [if_pos (by omega)]⟩
    · have h3 := df h3
      conv => whnf
      exact ⟨n, ⟨rfl, rfl, rfl, rfl, rfl, rfl, trivial⟩, rfl, by unfold cutN; rw [if_neg (by omega)]⟩
  rintro v w2 ⟨hw2, hv⟩
  subst hw2
  have hv2 : v < 256 ^ k := by rw [hv]; exact cutN_lt n k hn hk8
  have hv3 : v < 2 ^ 64 := Nat.lt_of_lt_of_le hv2 (Nat.pow_le_pow_right (n := 256) (by decide) hk8)
  conv => whnf
  refine Calls.ret (put_calls (h.ext hx1) (by omega) k v hv3) ?_
  have ep : putF bs k v = (bs ++ enc k v, 0) := by
    unfold putF
    rw [if_neg (by omega), if_neg (by rw [Int.toNat_natCast]; omega), Int.toNat_natCast]
  rw [ep]
  rintro _ w3 ⟨a3, c3, rfl, ho3, hx3⟩
  have hl3 : (bs ++ enc k v).length = bs.length + k := by simp [enc_len]
  have hle3 := ho3.le
  conv => whnf
  refine vcDraw_go lok mixed (fun w1 => w1 = w3.drew) [] [0, 1, 2, 3, 4, 5, 6, 7, 8, 9, 10, 11, 12, 13, 14, 15, 16, 17, 18, 19, 20] (by kernel_rfl) fun w4 hw4 => ⟨hw4, ?_⟩
  have x4 : Ext w3 w4 := hw4 ▸ Ext.drew w3
  conv => whnf
  refine ⟨by omega, ?_⟩
  conv => whnf
  refine bcase (fun h5 => absurd (show ((bs ++ enc k v).length : Int) = bs.length + k by rw [hl3]; omega) (ne_true h5)) (fun h5 => ?_)
  conv => whnf
  refine ⟨⟨by omega, by rw [hl3] at hle3; omega⟩, ?_⟩
  conv => whnf
  have ho4 := ho3.ext x4
  have hs4 : Sl u8v w4 a3 bs := by
    have := ho4.sl.take bs.length
    rwa [List.take_left] at this
  refine ⟨_, fun w5 hw5 => by rw [hw5, ← hw4]; exact run_toStr hs4, ?_⟩
  conv => whnf
  refine ⟨_, fun w5 hw5 => by rw [hw5, ← hw4]; exact run_toStr ((h.ext hx1).ext (hx3.trans x4)), ?_⟩
  conv => whnf
  intro γ hγ
  obtain rfl : γ = true := by rw [str_eq hγ rfl rfl]; simp
  conv => whnf
  refine vcCond_false lok rfl ?_
  conv => whnf
  obtain ⟨w5, hr5, ho5, hx5⟩ := run_build0 (f := u8v) e8.toElem w4
  refine ⟨_, _, hr5, ?_⟩
  conv => whnf
  obtain ⟨a6, c6, w6, hr6, ho6, hg6, _⟩ := ho5.append (ty := 22) (d := c3) e8.toElem (fun _ => rfl) (ho4.sl.ext hx5) (by simp [enc_len]; omega) hx5.size
  refine ⟨_, _, hr6, ?_⟩
  have hx6 : Ext w4 w6 := hg6.extOf hx5 (fun g hg => (ho5.ge g hg).1)
  conv => whnf
  obtain ⟨a7, c7, w7, hr7, ho7, hg7, _⟩ := ho6.append (ty := 22) (d := d) e8.toElem (fun _ => rfl) (hb.ext (((hx1.trans hx3).trans x4).trans hx6)) (by simp [enc_len]; omega) hx6.size
  refine ⟨_, _, hr7, ?_⟩
  have hx7 : Ext w4 w7 := hg7.extOf hx6 (fun g hg => (ho6.ge g hg).1)
  conv => whnf
  have hs7 : Sl u8v w7 a7 (bs ++ enc k v ++ xs) := by simpa using ho7.sl
  have hl7 : ([] ++ (bs ++ enc k v, 0).1 ++ xs).length = (bs ++ enc k v ++ xs).length := by simp
  rw [hl7]
  refine Calls.ret (get_calls hs7 (by simp [enc_len]; omega) bs.length k (by omega)) ?_
  rw [get_back bs xs k v hk1 hk8 hv2]
  rintro _ w8 ⟨rfl, rfl⟩
  conv => whnf
  refine vcReg_go lok ?_
  conv => whnf
  refine vcCond_split lok rfl (fun h8 => absurd rfl (ne_true h8)) (fun h8 => ?_)
  conv => whnf
  refine ⟨by omega, ?_⟩
  conv => whnf
  refine ⟨k + 1, ⟨rfl, rfl, rfl, rfl, rfl, trivial⟩, ⟨by omega, by omega, ((hx1.trans hx3).trans x4).trans hx7⟩, ?_⟩
  omega

end Go.Proofs.Ytgipackjnncabaa

/- Walks of layer 2, fifth part: words and bytes, signs. -/
set_option linter.unusedVariables false
namespace Go.Proofs.Ytgipackjnncabaa
open Go.Vc Go.RowKit

/-- words as bytes -/
def bytesF (ws : List (BitVec 32)) : List (BitVec 8) := ws.flatMap fun x => enc 4 x.toNat
/-- the four bytes at place i, 255 where there are none -/
def four (bs : List (BitVec 8)) (i : Nat) : List (BitVec 8) := (List.range 4).map fun j => bs.getD (4 * i + j) 255#8
def wordOf (l : List (BitVec 8)) : BitVec 32 := BitVec.ofNat 32 (decN l)
/-- bytes as words -/
def wordsF (bs : List (BitVec 8)) : List (BitVec 32) := (List.range ((bs.length + 3) / 4)).map fun i => wordOf (four bs i)

theorem bytesF_len (ws : List (BitVec 32)) : (bytesF ws).length = 4 * ws.length := by
  unfold bytesF
  induction ws with
  | nil => rfl
  | cons x l ih => rw [List.flatMap_cons, List.length_append, ih, enc_len, List.length_cons]; omega
theorem wordsF_len (bs : List (BitVec 8)) : (wordsF bs).length = (bs.length + 3) / 4 := by simp [wordsF]

/-- octet.Plain -/
theorem plain_calls {w : World} (s : Int) (h0 : -2147483648 ≤ s) (h1 : s < 2147483648) : Calls Try.prog 53 #[.int .i32 s] w (Ret fun v w' => v = .int .u32 (s % 4294967296) ∧ w' = w) := by
  refine calls_of_vc lok Try.func53 ?_ rfl
  conv => whnf
  intro z hz
  rw [wu32] at hz
  subst hz
  conv => whnf
  exact ⟨rfl, rfl⟩

/-- its reference -/
theorem rplain_calls {w : World} (s : Int) (h0 : -2147483648 ≤ s) (h1 : s < 2147483648) : Calls Try.prog 54 #[.int .i32 s] w (Ret fun v w' => v = .int .u32 (s % 4294967296) ∧ w' = w) := by
  refine calls_of_vc lok Try.func54 ?_ rfl
  conv => whnf
  refine vcCond_split lok rfl (fun h2 => ?_) (fun h2 => ?_)
  · have h2 := dt h2
    conv => whnf
    intro z hz
    rw [wi64 (by omega)] at hz
    obtain rfl := hz.symm
    conv => whnf
    refine ⟨by omega, ?_⟩
    conv => whnf
    intro z hz
    obtain rfl : z = s % 4294967296 := by rw [hz, wu32]; omega
    conv => whnf
    exact ⟨rfl, rfl⟩
  · have h2 := df h2
    conv => whnf
    intro z hz
    rw [wu32] at hz
    subst hz
    conv => whnf
    exact ⟨rfl, rfl⟩

/-- the reference of octet.Signed -/
theorem rsigned_calls {w : World} (x : Nat) (h : x < 4294967296) : Calls Try.prog 56 #[.int .u32 x] w (Ret fun v w' => v = .int .i32 (signF x) ∧ w' = w) := by
  refine calls_of_vc lok Try.func56 ?_ rfl
  conv => whnf
  refine vcCond_split lok rfl (fun h2 => ?_) (fun h2 => ?_)
  · have h2 := dt h2
    conv => whnf
    intro z hz
    rw [wi64 (by omega)] at hz
    subst hz
    conv => whnf
    refine ⟨by omega, ?_⟩
    conv => whnf
    intro z hz
    obtain rfl : z = signF x := by rw [hz, wi32]; unfold signF; split <;> omega
    conv => whnf
    exact ⟨rfl, rfl⟩
  · have h2 := df h2
    conv => whnf
    intro z hz
    rw [wi32_sign h] at hz
    subst hz
    conv => whnf
    exact ⟨rfl, rfl⟩

/-- what the references compare -/
theorem same_calls {w : World} {a b : Option Addr} {c d : Nat} {xs ys : List (BitVec 32)} (hx : Sl u32v w a xs) (hy : Sl u32v w b ys) (hxl : xs.length ≤ 2147483648) :
    Calls Try.prog 50 #[.slice a xs.length c, .slice b ys.length d] w (Ret fun v w' => v = .bool (decide (xs = ys)) ∧ Ext w w') := by
  refine calls_of_vc lok Try.func50 ?_ rfl
  conv => whnf
  refine vcCond_split lok rfl (fun h1 => ?_) (fun h1 => ?_)
  · conv => whnf
    refine ⟨?_, Ext.refl _⟩
    rw [decide_eq_false]
    rintro rfl
    exact absurd rfl (ne_true h1)
  have hl : xs.length = ys.length := by have := ne_false h1; omega
  conv => whnf
  refine vcLoop_inv lok (σ := Nat)
    (fun i => [(5, .int .i64 i), (0, .slice a xs.length c), (1, .slice b ys.length d)])
    (fun i w1 => i ≤ xs.length ∧ xs.take i = ys.take i ∧ Ext w w1) (fun i => xs.length - i)
    0 ⟨rfl, rfl, rfl, trivial⟩ ⟨Nat.zero_le _, by simp, Ext.refl _⟩ ?_
  rintro i w1 ⟨hi, ht, hx1⟩
  conv => whnf
  refine vcCond_split lok rfl (fun h2 => ?_) (fun h2 => ?_)
  rotate_left
  · have h2 := df h2
    conv => whnf
    refine ⟨?_, hx1⟩
    rw [List.take_of_length_le (by omega), List.take_of_length_le (by omega)] at ht
    rw [decide_eq_true ht]
  have h2 := dt h2
  conv => whnf
  refine vcDraw_go lok mixed (fun w2 => w2 = w1.drew) [] [0, 1, 2, 3, 4, 5, 6, 7, 8] (by kernel_rfl) fun w2 hw2 => ⟨hw2, ?_⟩
  have x2 : Ext w w2 := hx1.trans (hw2 ▸ Ext.drew w1)
  conv => whnf
  obtain ⟨p, o, ha, hcell⟩ := (hx.ext x2).at (i : Int) (by omega) (by omega)
  refine ⟨p, o, ha, ⟨by omega, by omega⟩, ?_⟩
  conv => whnf
  refine ⟨_, fun w3 hw3 => by rw [hw3, ← hw2]; exact hcell, ?_⟩
  conv => whnf
  obtain ⟨p2, o2, ha2, hcell2⟩ := (hy.ext x2).at (i : Int) (by omega) (by omega)
  refine ⟨p2, o2, ha2, ⟨by omega, by omega⟩, ?_⟩
  conv => whnf
  refine ⟨_, fun w3 hw3 => by rw [hw3, ← hw2]; exact hcell2, ?_⟩
  conv => whnf
  have hix : i < xs.length := by omega
  have hiy : i < ys.length := by omega
  have gx : xs.getD (i : Int).toNat default = xs[i] := by simp [List.getD, List.getElem?_eq_getElem hix]
  have gy : ys.getD (i : Int).toNat default = ys[i] := by simp [List.getD, List.getElem?_eq_getElem hiy]
  rw [gx, gy]
  refine vcCond_split lok rfl (fun h3 => ?_) (fun h3 => ?_)
  · have h3 := ne_true h3
    conv => whnf
    refine ⟨?_, x2⟩
    rw [decide_eq_false]
    rintro rfl
    exact h3 rfl
  · have h3 := ne_false h3
    have h4 : xs[i] = ys[i] := BitVec.eq_of_toNat_eq (by omega)
    conv => whnf
    refine ⟨by omega, ?_⟩
    conv => whnf
    refine ⟨i + 1, ⟨rfl, rfl, rfl, trivial⟩, ⟨by omega, ?_, x2⟩, by omega⟩
    rw [List.take_succ_eq_append_getElem hix, List.take_succ_eq_append_getElem hiy, ht, h4]

theorem bytesF_take (ws : List (BitVec 32)) (i : Nat) (h : i < ws.length) : bytesF (ws.take (i + 1)) = bytesF (ws.take i) ++ enc 4 ws[i].toNat := by
  rw [List.take_succ_eq_append_getElem h]
  unfold bytesF
  rw [List.flatMap_append]
  simp

theorem shr32 (n k : Nat) (hk : k ≤ 32) : (n : Int).fdiv (2 ^ (min ((k : Int)).toNat IntKind.u32.bits)) = ((n / 2 ^ k : Nat) : Int) := by
  have e1 : min (k : Int).toNat IntKind.u32.bits = k := by
    show min (k : Int).toNat 32 = k
    omega
  rw [e1, Int.fdiv_eq_ediv_of_nonneg _ (by exact Int.pow_nonneg (by decide)), Int.natCast_ediv, Int.natCast_pow]
  rfl

/-- octet.Bytes -/
theorem bytes_calls {w : World} {a : Option Addr} {c : Nat} {ws : List (BitVec 32)} (h : Sl u32v w a ws) (hl : ws.length ≤ 1048576) :
    Calls Try.prog 48 #[.slice a ws.length c] w (Ret (BytesPost (bytesF ws) w)) := by
  refine calls_of_vc lok Try.func48 ?_ rfl
  conv => whnf
  refine ⟨by omega, ?_⟩
  conv => whnf
  obtain ⟨w1, hr1, ho1, hx1⟩ := run_makeOwn e8 w.heap.size w (Nat.le_refl _) 0 (4 * ws.length) (Nat.zero_le _) (by omega)
  have e4 : ((4 * ws.length : Nat) : Int) = 4 * (ws.length : Int) := by omega
  rw [e4] at hr1
  refine ⟨_, _, hr1, ?_⟩
  conv => whnf
  refine vcLoop_inv lok (σ := Nat × Option Addr × Nat)
    (fun ⟨i, b, d⟩ => [(12, .int .i64 i), (11, .int .i64 ws.length), (10, .slice a ws.length c), (3, .slice b (bytesF (ws.take i)).length d)])
    (fun ⟨i, b, d⟩ w2 => i ≤ ws.length ∧ Own 5 u8v w.heap.size w2 b d (bytesF (ws.take i)) ∧ Ext w w2) (fun s => ws.length - s.1)
    (0, _, _) ⟨rfl, rfl, rfl, rfl, trivial⟩ ⟨Nat.zero_le _, ho1, hx1⟩ ?_
  rintro ⟨i, b, d⟩ w2 ⟨hi, ho2, hx2⟩
  conv => whnf
  refine vcCond_split lok rfl (fun h2 => ?_) (fun h2 => ?_)
  rotate_left
  · have h2 := df h2
    obtain rfl : i = ws.length := by omega
    conv => whnf
    rw [List.take_length] at ho2
    exact ⟨b, d, by rw [List.take_length], ho2, hx2⟩
  have h2 := dt h2
  have hiw : i < ws.length := by omega
  have hbl := bytesF_len (ws.take i)
  rw [List.length_take] at hbl
  conv => whnf
  obtain ⟨p, o, ha, hcell⟩ := (h.ext hx2).at (i : Int) (by omega) (by omega)
  refine ⟨p, o, ha, ⟨by omega, by omega⟩, ?_⟩
  conv => whnf
  refine ⟨_, hcell, ?_⟩
  have gx : ws.getD (i : Int).toNat default = ws[i] := by simp [List.getD, List.getElem?_eq_getElem hiw]
  rw [gx]
  have ebt := bytesF_take ws i hiw
  generalize ws[i] = x at ebt ⊢
  have hn := x.isLt
  conv => whnf
  intro z hz
  obtain rfl : z = ((BitVec.ofNat 8 (x.toNat / 256 ^ 0)).toNat : Int) := by rw [hz, wu8, BitVec.toNat_ofNat]; simp only [Nat.pow_zero, Nat.div_one]; omega
  conv => whnf
  refine ⟨by omega, ?_⟩
  intro z1 hz1
  obtain rfl : z1 = ((x.toNat / 256 ^ 1 : Nat) : Int) := by rw [hz1]; exact shr32 x.toNat 8 (by decide)
  conv => whnf
  intro z hz
  obtain rfl : z = ((BitVec.ofNat 8 (x.toNat / 256 ^ 1)).toNat : Int) := by rw [hz, wu8, BitVec.toNat_ofNat]; omega
  conv => whnf
  refine ⟨by omega, ?_⟩
  intro z1 hz1
  obtain rfl : z1 = ((x.toNat / 256 ^ 2 : Nat) : Int) := by rw [hz1]; exact shr32 x.toNat 16 (by decide)
  conv => whnf
  intro z hz
  obtain rfl : z = ((BitVec.ofNat 8 (x.toNat / 256 ^ 2)).toNat : Int) := by rw [hz, wu8, BitVec.toNat_ofNat]; omega
  conv => whnf
  refine ⟨by omega, ?_⟩
  intro z1 hz1
  obtain rfl : z1 = ((x.toNat / 256 ^ 3 : Nat) : Int) := by rw [hz1]; exact shr32 x.toNat 24 (by decide)
  conv => whnf
  intro z hz
  obtain rfl : z = ((BitVec.ofNat 8 (x.toNat / 256 ^ 3)).toNat : Int) := by rw [hz, wu8, BitVec.toNat_ofNat]; omega
  conv => whnf
  refine ⟨_, _, run_buildN e8.toElem ((enc 4 x.toNat).map u8v) (by simp [u8v, Value.oneCell']) (by simp [enc_len]) w2, ?_⟩
  conv => whnf
  have x3 : Ext w2 (w2.alloc (.cells ((enc 4 x.toNat).map u8v).toArray 5)) := Ext.new _ _
  have hs3 : Sl u8v (w2.alloc (.cells ((enc 4 x.toNat).map u8v).toArray 5)) (some ⟨w2.heap.size, 0, none⟩) (enc 4 x.toNat) := Sl.lit _ _
  obtain ⟨a4, c4, w4, hr4, ho4, hg4, _⟩ := (ho2.ext x3).append (ty := 22) (d := 4) e8.toElem (fun _ => rfl) hs3 (by rw [enc_len]; omega) (hx2.trans x3).size
  refine ⟨_, _, hr4, ?_⟩
  have x4 : Ext w w4 := hg4.extOf (hx2.trans x3) (fun g hg => (ho2.ge g hg).1)
  conv => whnf
  refine ⟨by omega, ?_⟩
  conv => whnf
  refine ⟨(i + 1, a4, c4), ⟨rfl, rfl, rfl, by rw [ebt]; rfl, trivial⟩, ⟨by omega, by rw [ebt]; exact ho4, x4⟩, by omega⟩

/-- its reference -/
theorem rbytes_calls {w : World} {a : Option Addr} {c : Nat} {ws : List (BitVec 32)} (h : Sl u32v w a ws) (hl : ws.length ≤ 1048576) :
    Calls Try.prog 52 #[.slice a ws.length c] w (Ret (BytesPost (bytesF ws) w)) := by
  refine calls_of_vc lok Try.func52 ?_ rfl
  conv => whnf
  refine vcLoop_inv lok (σ := Nat × Option Addr × Nat)
    (fun ⟨i, b, d⟩ => [(4, .int .i64 i), (0, .slice a ws.length c), (3, .slice b (bytesF (ws.take i)).length d)])
    (fun ⟨i, b, d⟩ w2 => i ≤ ws.length ∧ Own 5 u8v w.heap.size w2 b d (bytesF (ws.take i)) ∧ Ext w w2) (fun s => ws.length - s.1)
    (0, none, 0) ⟨rfl, rfl, rfl, trivial⟩ ⟨Nat.zero_le _, Own.nil _ _ _ _, Ext.refl _⟩ ?_
  rintro ⟨i, b, d⟩ w2 ⟨hi, ho2, hx2⟩
  conv => whnf
  refine vcCond_split lok rfl (fun h2 => ?_) (fun h2 => ?_)
  rotate_left
  · have h2 := df h2
    obtain rfl : i = ws.length := by omega
    conv => whnf
    rw [List.take_length] at ho2
    exact ⟨b, d, by rw [List.take_length], ho2, hx2⟩
  have h2 := dt h2
  have hiw : i < ws.length := by omega
  have hbl := bytesF_len (ws.take i)
  rw [List.length_take] at hbl
  conv => whnf
  obtain ⟨p, o, ha, hcell⟩ := (h.ext hx2).at (i : Int) (by omega) (by omega)
  refine ⟨p, o, ha, ⟨by omega, by omega⟩, ?_⟩
  conv => whnf
  refine ⟨_, hcell, ?_⟩
  have gx : ws.getD (i : Int).toNat default = ws[i] := by simp [List.getD, List.getElem?_eq_getElem hiw]
  rw [gx]
  have ebt := bytesF_take ws i hiw
  generalize ws[i] = x at ebt ⊢
  have hn := x.isLt
  conv => whnf
  intro z hz
  obtain rfl : z = (x.toNat : Int) := by rw [hz, wu64]; omega
  conv => whnf
  refine Calls.ret (digits_calls x.toNat 4 (by omega) (by decide)) ?_
  rintro _ w3 ⟨a3, c3, rfl, ho3, hx3⟩
  conv => whnf
  obtain ⟨a4, c4, w4, hr4, ho4, hg4, _⟩ := (ho2.ext hx3).append (ty := 22) (d := c3) e8.toElem (fun _ => rfl) ho3.sl (by rw [enc_len]; omega) (hx2.trans hx3).size
  refine ⟨_, _, hr4, ?_⟩
  have x4 : Ext w w4 := hg4.extOf (hx2.trans hx3) (fun g hg => (ho2.ge g hg).1)
  conv => whnf
  refine ⟨by omega, ?_⟩
  conv => whnf
  refine ⟨(i + 1, a4, c4), ⟨rfl, rfl, by rw [ebt]; rfl, trivial⟩, ⟨by omega, by rw [ebt]; exact ho4, x4⟩, by omega⟩

/-- the words of the first i places, naughts behind -/
def wpre (bs : List (BitVec 8)) (i : Nat) : List (BitVec 32) := (wordsF bs).take i ++ List.replicate ((bs.length + 3) / 4 - i) 0#32
theorem wpre_len (bs : List (BitVec 8)) (i : Nat) (hi : i ≤ (bs.length + 3) / 4) : (wpre bs i).length = (bs.length + 3) / 4 := by
  unfold wpre
  rw [List.length_append, List.length_take, wordsF_len, List.length_replicate]; omega

theorem wpre_set (bs : List (BitVec 8)) (i : Nat) (hi : i < (bs.length + 3) / 4) (x : BitVec 32) :
    (wpre bs i).set i x = (wordsF bs).take i ++ x :: List.replicate ((bs.length + 3) / 4 - (i + 1)) 0#32 := by
  unfold wpre
  have hl : ((wordsF bs).take i).length = i := by rw [List.length_take, wordsF_len]; omega
  rw [List.set_append_right _ _ (by omega), hl, Nat.sub_self, show (bs.length + 3) / 4 - i = ((bs.length + 3) / 4 - (i + 1)) + 1 by omega, List.replicate_succ, List.set_cons_zero]
theorem wpre_set0 (bs : List (BitVec 8)) (i : Nat) (hi : i < (bs.length + 3) / 4) : (wpre bs i).set i 0#32 = wpre bs i := by
  rw [wpre_set bs i hi]
  unfold wpre
  rw [show (bs.length + 3) / 4 - i = ((bs.length + 3) / 4 - (i + 1)) + 1 by omega, List.replicate_succ]
theorem wpre_succ (bs : List (BitVec 8)) (i : Nat) (hi : i < (bs.length + 3) / 4) : (wpre bs i).set i (wordOf (four bs i)) = wpre bs (i + 1) := by
  rw [wpre_set bs i hi]
  unfold wpre
  rw [List.take_succ_eq_append_getElem (by rw [wordsF_len]; exact hi)]
  have : (wordsF bs)[i]'(by rw [wordsF_len]; exact hi) = wordOf (four bs i) := by simp [wordsF]
  rw [this, List.append_assoc]
  rfl
theorem four_len (bs : List (BitVec 8)) (i : Nat) : (four bs i).length = 4 := by simp [four]
theorem four_take (bs : List (BitVec 8)) (i j : Nat) (hj : j < 4) : (four bs i).take (j + 1) = (four bs i).take j ++ [bs.getD (4 * i + j) 255#8] := by
  rw [List.take_succ_eq_append_getElem (by rw [four_len]; exact hj)]
  simp [four]
theorem wordOf_nat (l : List (BitVec 8)) (h : l.length ≤ 4) : (wordOf l).toNat = decN l := by
  unfold wordOf
  rw [BitVec.toNat_ofNat]
  refine Nat.mod_eq_of_lt (Nat.lt_of_lt_of_le (decN_lt l) ?_)
  exact Nat.pow_le_pow_right (n := 256) (by decide) h

theorem or_up32 (n b j : Nat) (hn : n < 256 ^ j) (hb : b < 256) (hj : j < 4) :
    Go.IntKind.u32.wrap ((BitVec.ofInt Go.IntKind.u32.bits (n : Int) ||| BitVec.ofInt Go.IntKind.u32.bits (Go.IntKind.u32.wrap ((b : Int) * 2 ^ min (8 * (j : Int)).toNat Go.IntKind.u32.bits))).toNat : Int) = ((n + 256 ^ j * b : Nat) : Int) := by
  have e1 : min (8 * (j : Int)).toNat Go.IntKind.u32.bits = 8 * j := by
    show min (8 * (j : Int)).toNat 32 = 8 * j
    omega
  have p8 : (256 : Nat) ^ (j + 1) ≤ 2 ^ 32 := by
    have : (256 : Nat) ^ (j + 1) ≤ 256 ^ 4 := Nat.pow_le_pow_right (by decide) (by omega)
    exact this
  have hsum : n + 256 ^ j * b < 256 ^ (j + 1) := by
    have h1 : 256 ^ j * b ≤ 256 ^ j * 255 := Nat.mul_le_mul_left _ (by omega)
    rw [Nat.pow_succ]
    omega
  have e2 : ((b : Int) * 2 ^ (8 * j)) = ((256 ^ j * b : Nat) : Int) := by
    rw [Int.pow_mul, Int.mul_comm, show (2 : Int) ^ 8 = ((256 : Nat) : Int) from by decide, ← Int.natCast_pow, ← Int.natCast_mul]
  have hm : 256 ^ j * b < 2 ^ 32 := by omega
  have e4 : n ||| 256 ^ j * b = n + 256 ^ j * b := by
    have h := Nat.shiftLeft_add_eq_or_of_lt (i := 8 * j) (b := n) (by rw [Nat.pow_mul]; exact hn) b
    rw [Nat.shiftLeft_eq, Nat.pow_mul, show (2 : Nat) ^ 8 = 256 from rfl, Nat.mul_comm] at h
    rw [Nat.or_comm, ← h, Nat.add_comm]
  rw [e1, e2, wu32, wu32]
  have hs2 : n + 256 ^ j * b < 2 ^ 32 := by omega
  clear e1 e2 hsum p8 hn
  generalize 256 ^ j * b = m at *
  have e3 : ((m : Nat) : Int) % 4294967296 = (m : Int) := by omega
  rw [e3]
  show (((BitVec.ofInt 32 (n : Int) ||| BitVec.ofInt 32 (m : Int)).toNat : Nat) : Int) % 4294967296 = _
  rw [BitVec.ofInt_natCast, BitVec.ofInt_natCast, BitVec.toNat_or, BitVec.toNat_ofNat, BitVec.toNat_ofNat, Nat.mod_eq_of_lt (by omega), Nat.mod_eq_of_lt hm, e4]
  omega

set_option maxHeartbeats 2000000 in
/-- octet.Words -/
theorem words_calls {w : World} {a : Option Addr} {c : Nat} {bs : List (BitVec 8)} (h : Sl u8v w a bs) (hl : bs.length ≤ 1048576) :
    Calls Try.prog 49 #[.slice a bs.length c] w (Ret fun v w' => ∃ a' c', v = .slice a' (wordsF bs).length c' ∧ Own 42 u32v w.heap.size w' a' c' (wordsF bs) ∧ Ext w w') := by
  refine calls_of_vc lok Try.func49 ?_ rfl
  conv => whnf
  refine ⟨by omega, ?_⟩
  conv => whnf
  refine ⟨by omega, ?_⟩
  intro z hz
  obtain rfl : z = (((bs.length + 3) / 4 : Nat) : Int) := by rw [hz, Int.tdiv_eq_ediv_of_nonneg (by omega), wi64 (by omega)]; omega
  conv => whnf
  obtain ⟨w1, hr1, ho1, hx1⟩ := run_makeOwn e32 w.heap.size w (Nat.le_refl _) ((bs.length + 3) / 4) ((bs.length + 3) / 4) (Nat.le_refl _) (by omega)
  refine ⟨_, _, hr1, ?_⟩
  conv => whnf
  rw [List.length_replicate]
  refine vcLoop_inv lok (σ := Nat)
    (fun i => [(14, .int .i64 i), (13, .int .i64 ((bs.length + 3) / 4 : Nat)), (0, .slice a bs.length c), (3, .slice (some ⟨w.heap.size, 0, none⟩) ((bs.length + 3) / 4) ((bs.length + 3) / 4))])
    (fun i w2 => i ≤ (bs.length + 3) / 4 ∧ Own 42 u32v w.heap.size w2 (some ⟨w.heap.size, 0, none⟩) ((bs.length + 3) / 4) (wpre bs i) ∧ Ext w w2) (fun s => (bs.length + 3) / 4 - s)
    0 ⟨rfl, rfl, rfl, rfl, trivial⟩ ⟨Nat.zero_le _, ho1, hx1⟩ ?_
  rintro i w2 ⟨hi, ho2, hx2⟩
  conv => whnf
  refine vcCond_split lok rfl (fun h2 => ?_) (fun h2 => ?_)
  rotate_left
  · have h2 := df h2
    obtain rfl : i = (bs.length + 3) / 4 := by omega
    conv => whnf
    have e : wpre bs ((bs.length + 3) / 4) = wordsF bs := by unfold wpre; rw [List.take_of_length_le (by rw [wordsF_len]; exact Nat.le_refl _), Nat.sub_self]; simp
    rw [e] at ho2
    exact ⟨_, _, by rw [wordsF_len], ho2, hx2⟩
  have h2 := dt h2
  have him : i < (bs.length + 3) / 4 := by omega
  conv => whnf
  refine vcLoop_inv lok (σ := Nat)
    (fun j => [(17, .int .i64 j), (4, .int .i64 i), (14, .int .i64 i), (13, .int .i64 ((bs.length + 3) / 4 : Nat)), (0, .slice a bs.length c), (3, .slice (some ⟨w.heap.size, 0, none⟩) ((bs.length + 3) / 4) ((bs.length + 3) / 4))])
    (fun j w3 => j ≤ 4 ∧ Own 42 u32v w.heap.size w3 (some ⟨w.heap.size, 0, none⟩) ((bs.length + 3) / 4) ((wpre bs i).set i (wordOf ((four bs i).take j))) ∧ Ext w w3) (fun s => 4 - s)
    0 ⟨rfl, rfl, rfl, rfl, rfl, rfl, trivial⟩ ⟨Nat.zero_le _, by rw [List.take_zero, show wordOf [] = 0#32 from rfl, wpre_set0 bs i him]; exact ho2, hx2⟩ ?_
  rintro j w3 ⟨hj, ho3, hx3⟩
  conv => whnf
  refine vcCond_split lok rfl (fun h4 => ?_) (fun h4 => ?_)
  rotate_left
  · have h4 := df h4
    obtain rfl : j = 4 := by omega
    rw [List.take_of_length_le (by rw [four_len]; exact Nat.le_refl _), wpre_succ bs i him] at ho3
    conv => whnf
    refine ⟨by omega, ?_⟩
    conv => whnf
    exact ⟨i + 1, ⟨rfl, rfl, rfl, rfl, trivial⟩, ⟨by omega, ho3, hx3⟩, by omega⟩
  have h4 := dt h4
  have hj4 : j < 4 := by omega
  conv => whnf
  refine ⟨by omega, ?_⟩
  conv => whnf
  refine ⟨by omega, ?_⟩
  conv => whnf
  refine vcCond_meet (fun y : BitVec 8 => [(6, .int .u8 y.toNat), (5, .int .i64 j), (17, .int .i64 j), (4, .int .i64 i), (14, .int .i64 i), (13, .int .i64 ((bs.length + 3) / 4 : Nat)), (0, .slice a bs.length c), (3, .slice (some ⟨w.heap.size, 0, none⟩) ((bs.length + 3) / 4) ((bs.length + 3) / 4))])
    (fun y w4 => w4 = w3 ∧ y = bs.getD (4 * i + j) 255#8) ?_ ?_
  · refine vcCond_split lok rfl (fun h5 => ?_) (fun h5 => ?_)
    · have h5 := dt h5
      conv => whnf
      refine ⟨by omega, ?_⟩
      conv => whnf
      refine ⟨by omega, ?_⟩
      conv => whnf
      have g1 : 0 ≤ 4 * (i : Int) + (j : Int) := by omega
      have g2 : 4 * (i : Int) + (j : Int) < bs.length := h5
      have g3 := h.ext hx3
      have g4 := g3.at (4 * (i : Int) + (j : Int)) g1 g2
      obtain ⟨p, o, ha, hcell⟩ := g4
      refine ⟨p, o, ha, ⟨by omega, by omega⟩, ?_⟩
      conv => whnf
      refine ⟨_, hcell, ?_⟩
      conv => whnf
      have e : (4 * (i : Int) + (j : Int)).toNat = 4 * i + j := by omega
      have e2 : bs.getD (4 * i + j) default = bs.getD (4 * i + j) 255#8 := by
        simp [List.getD, List.getElem?_eq_getElem (show 4 * i + j < bs.length by omega)]
      exact ⟨bs.getD (4 * (i : Int) + (j : Int)).toNat default, ⟨rfl, rfl, rfl, rfl, rfl, rfl, rfl, rfl, trivial⟩, rfl, by rw [e, e2]⟩
    · have h5 := df h5
      conv => whnf
      refine ⟨255#8, ⟨rfl, rfl, rfl, rfl, rfl, rfl, rfl, rfl, trivial⟩, rfl, ?_⟩
      simp [List.getD, List.getElem?_eq_none (show bs.length ≤ 4 * i + j by omega)]
  rintro y w4 ⟨hw4, hy⟩
  subst hw4
  conv => whnf
  have hlen : ((wpre bs i).set i (wordOf ((four bs i).take j))).length = (bs.length + 3) / 4 := by rw [List.length_set, wpre_len bs i hi]
  have g4 := ho3.sl.at (i : Int) (by omega) (by omega)
  obtain ⟨p, o, ha, hcell⟩ := g4
  refine ⟨p, o, ha, ⟨by omega, by omega⟩, ?_⟩
  conv => whnf
  refine ⟨_, hcell, ?_⟩
  have gx : ((wpre bs i).set i (wordOf ((four bs i).take j))).getD (i : Int).toNat default = wordOf ((four bs i).take j) := by
    simp [List.getD, List.getElem?_set, wpre_len bs i hi, him]
  rw [gx]
  have hwn := wordOf_nat ((four bs i).take j) (by rw [List.length_take, four_len]; omega)
  have hdl := decN_lt ((four bs i).take j)
  rw [show ((four bs i).take j).length = j by rw [List.length_take, four_len]; omega] at hdl
  have hyl := y.isLt
  conv => whnf
  intro z hz
  obtain rfl : z = (y.toNat : Int) := by rw [hz, wu32]; omega
  conv => whnf
  intro z hz
  obtain rfl : z = (j : Int) := by rw [hz, wu64]; omega
  conv => whnf
  intro z hz
  obtain rfl : z = 8 * (j : Int) := by rw [hz, wu64]; omega
  conv => whnf
  refine ⟨by omega, ?_⟩
  intro z hz
  subst hz
  conv => whnf
  intro z hz
  have e6 := or_up32 (decN ((four bs i).take j)) y.toNat j hdl hyl hj4
  have e7 : decN ((four bs i).take (j + 1)) = decN ((four bs i).take j) + 256 ^ j * y.toNat := by
    rw [four_take bs i j hj4, decN_append, decN_single, ← hy, show ((four bs i).take j).length = j by rw [List.length_take, four_len]; omega]
  rw [hwn, e6, ← e7, ← wordOf_nat ((four bs i).take (j + 1)) (by rw [List.length_take, four_len]; omega)] at hz
  subst hz
  conv => whnf
  have g5 := ho3.store (i : Int) (by omega) (by omega)
  obtain ⟨g, hg, hc1, hc2, hBg, hgw, hst⟩ := g5
  have g6 := hst (wordOf ((four bs i).take (j + 1)))
  obtain ⟨ho5, hg5⟩ := g6
  rw [show (i : Int).toNat = i from rfl, List.set_set] at ho5
  rw [show (i : Int).toNat = i from rfl] at hg5
  refine ⟨g, 0, hg, ⟨by omega, by omega⟩, ?_⟩
  conv => whnf
  refine ⟨⟨rfl, hc1, hc2⟩, fun w5 hw5 => ?_⟩
  have hw6 : w5 = w4.setCell ⟨g, 0 + i, none⟩ (u32v (wordOf ((four bs i).take (j + 1)))) := hw5
  rw [← hw6] at ho5 hg5
  have x5 : Ext w w5 := hg5.extOf hx3 (fun g' hg' => by cases hg'; exact hBg)
  conv => whnf
  refine ⟨by omega, ?_⟩
  conv => whnf
  exact ⟨j + 1, ⟨rfl, rfl, rfl, rfl, rfl, rfl, trivial⟩, ⟨by omega, ho5, x5⟩, by omega⟩

end Go.Proofs.Ytgipackjnncabaa

/- Plain laws of layer 2: bytes as words and back. No program in sight. -/
set_option linter.unusedSimpArgs false
set_option linter.unusedVariables false
namespace Go.Proofs.Ytgipackjnncabaa

theorem enc_cons (k n : Nat) : enc (k + 1) n = BitVec.ofNat 8 n :: enc k (n / 256) := by
  unfold enc
  rw [List.range_succ_eq_map, List.map_cons, List.map_map]
  congr 1
  · simp
  · apply List.map_congr_left
    intro i _
    simp only [Function.comp]
    rw [Nat.div_div_eq_div_mul, Nat.pow_succ, Nat.mul_comm]
theorem enc_decN : ∀ l : List (BitVec 8), enc l.length (decN l) = l
  | [] => rfl
  | c :: l => by
    have hc := c.isLt
    show enc (l.length + 1) (c.toNat + 256 * decN l) = c :: l
    rw [enc_cons, show (c.toNat + 256 * decN l) / 256 = decN l by omega, enc_decN l]
    congr 1
    apply BitVec.eq_of_toNat_eq
    rw [BitVec.toNat_ofNat]
    omega

theorem bytesF_cons (x : BitVec 32) (l : List (BitVec 32)) : bytesF (x :: l) = enc 4 x.toNat ++ bytesF l := rfl
theorem bytesF_get : ∀ (ws : List (BitVec 32)) (i j : Nat), i < ws.length → j < 4 → (bytesF ws).getD (4 * i + j) 255#8 = (enc 4 (ws.getD i 0#32).toNat).getD j 255#8
  | [], i, j, h, _ => by simp at h
  | x :: l, 0, j, _, hj => by
    rw [bytesF_cons]
    simp only [List.getD]
    rw [List.getElem?_append_left (by rw [enc_len]; omega)]
    simp
  | x :: l, i + 1, j, h, hj => by
    have ih := bytesF_get l i j (by simpa using h) hj
    rw [bytesF_cons]
    simp only [List.getD] at ih ⊢
    rw [List.getElem?_append_right (by rw [enc_len]; omega), enc_len, show 4 * (i + 1) + j - 4 = 4 * i + j by omega, ih]
    simp

theorem list4 {l m : List (BitVec 8)} (h1 : l.length = 4) (h2 : m.length = 4) (h : ∀ j, j < 4 → l.getD j 255#8 = m.getD j 255#8) : l = m := by
  apply List.ext_getElem (by omega)
  intro i hi hj
  have := h i (by omega)
  simpa [List.getD, List.getElem?_eq_getElem hi, List.getElem?_eq_getElem hj] using this

theorem four_bytes (ws : List (BitVec 32)) (i : Nat) (hi : i < ws.length) : four (bytesF ws) i = enc 4 (ws.getD i 0#32).toNat := by
  apply list4 (four_len _ _) (enc_len _ _)
  intro j hj
  rw [← bytesF_get ws i j hi hj]
  unfold four
  simp [List.getD, hj]

theorem words_bytes (ws : List (BitVec 32)) : wordsF (bytesF ws) = ws := by
  apply List.ext_getElem
  · rw [wordsF_len, bytesF_len]; omega
  · intro i h1 h2
    have e : (wordsF (bytesF ws))[i]'h1 = wordOf (four (bytesF ws) i) := by simp [wordsF]
    rw [e, four_bytes ws i h2]
    unfold wordOf
    rw [decN_enc]
    apply BitVec.eq_of_toNat_eq
    have := (ws.getD i 0#32).isLt
    rw [BitVec.toNat_ofNat, show (256 : Nat) ^ 4 = 2 ^ 32 from rfl, Nat.mod_mod, Nat.mod_eq_of_lt this]
    simp [List.getD, List.getElem?_eq_getElem h2]

theorem bytes_words_len (bs : List (BitVec 8)) : (bytesF (wordsF bs)).length = 4 * ((bs.length + 3) / 4) := by rw [bytesF_len, wordsF_len]

theorem bytes_words_get (bs : List (BitVec 8)) (k : Nat) (hk : k < 4 * ((bs.length + 3) / 4)) : (bytesF (wordsF bs)).getD k 255#8 = bs.getD k 255#8 := by
  have hi : k / 4 < (wordsF bs).length := by rw [wordsF_len]; omega
  have e : k = 4 * (k / 4) + k % 4 := by omega
  have hj : k % 4 < 4 := Nat.mod_lt _ (by decide)
  have ew : (wordsF bs).getD (k / 4) 0#32 = wordOf (four bs (k / 4)) := by
    rw [wordsF_len] at hi
    simp [wordsF, List.getD, hi]
  rw [e, bytesF_get _ _ _ hi hj, ew, wordOf_nat _ (by rw [four_len]; exact Nat.le_refl _)]
  have e4 : enc 4 (decN (four bs (k / 4))) = four bs (k / 4) := by
    have := enc_decN (four bs (k / 4))
    rwa [four_len] at this
  rw [e4, ← e]
  unfold four
  simp only [List.getD]
  simp [hj, List.getElem?_range, ← e]
theorem bytes_words_take (bs : List (BitVec 8)) : (bytesF (wordsF bs)).take bs.length = bs := by
  have hl := bytes_words_len bs
  apply List.ext_getElem
  · rw [List.length_take, hl]; omega
  · intro i h1 h2
    rw [List.getElem_take]
    have := bytes_words_get bs i (by omega)
    simpa [List.getD, List.getElem?_eq_getElem h2, List.getElem?_eq_getElem (show i < (bytesF (wordsF bs)).length by omega)] using this
end Go.Proofs.Ytgipackjnncabaa

/- Blocks known whole: boxes and structs that a call owns; what is written in a list of blocks. -/
set_option linter.unusedSimpArgs false
set_option linter.unusedVariables false
namespace Go.Vc
open Go.RowKit

/-- block b is a row of just these cells -/
def Blk (w : World) (b : Nat) (T : TypeId) (vs : List Value) : Prop := w.heap[b]? = some (.cells vs.toArray T (0, 0))

section
variable {w w' : World} {b : Nat} {T : TypeId} {vs : List Value}

theorem Blk.lt (h : Blk w b T vs) : b < w.heap.size := by
  rcases Nat.lt_or_ge b w.heap.size with h' | h'
  · exact h'
  · unfold Blk at h; rw [Array.getElem?_eq_none h'] at h; cases h
theorem Blk.new (w : World) (T : TypeId) (vs : List Value) : Blk (w.alloc (.cells vs.toArray T)) w.heap.size T vs := heap_alloc_new w _
theorem Blk.cell (h : Blk w b T vs) {i : Nat} {v : Value} (hv : vs[i]? = some v) : w.cell? ⟨b, 0 + i, none⟩ = some v := by
  rw [cell_row h, Nat.zero_add, List.getElem?_toArray]; exact hv
theorem Blk.cell0 (h : Blk w b T vs) {v : Value} (hv : vs[0]? = some v) : w.cell? ⟨b, 0, none⟩ = some v := h.cell (i := 0) hv
theorem Blk.cells (h : Blk w b T vs) : CellsAt w b 0 vs := fun i v hv => h.cell hv
theorem Blk.frozen (h : Blk w b T vs) (i : Nat) : w.frozen? ⟨b, i, none⟩ = false := by
  have h' : w.heap[b]? = some (.cells vs.toArray T (0, 0)) := h
  simp [World.frozen?, h']
theorem Blk.keep (h : Blk w b T vs) (hk : w'.heap[b]? = w.heap[b]?) : Blk w' b T vs := by unfold Blk; rw [hk]; exact h
theorem Blk.ext (h : Blk w b T vs) (hk : Ext w w') : Blk w' b T vs := h.keep (hk.block b h.lt)
theorem Blk.set (h : Blk w b T vs) (i : Nat) (v : Value) : Blk (w.setCell ⟨b, 0 + i, none⟩ v) b T (vs.set i v) := by
  have h' : w.heap[b]? = some (.cells vs.toArray T (0, 0)) := h
  unfold Blk
  rw [Nat.zero_add]
  simp [World.setCell, Array.getElem?_modify, h']
theorem Blk.can (h : Blk w b T vs) (i : Nat) (hi : i < vs.length) (v : Value) (hv : v.oneCell' = true) :
    v.oneCell' = true ∧ (w.cell? ⟨b, 0 + i, none⟩).isSome = true ∧ w.frozen? ⟨b, 0 + i, none⟩ = false :=
  ⟨hv, by rw [h.cell (List.getElem?_eq_getElem hi)]; rfl, h.frozen _⟩
end

theorem gr_setCell (w : World) (b i : Nat) (v : Value) : Gr w (w.setCell ⟨b, i, none⟩ v) (some b) :=
  ⟨rfl, rfl, rfl, by simp [World.setCell], fun k hk hne => Below.heap_setCell _ _ _ _ (fun e => hne (by rw [e]))⟩

theorem gr_of_set {w w2 : World} {b i : Nat} {v : Value} (h : w2 = w.setCell ⟨b, i, none⟩ v) : Gr w w2 (some b) := by
  rw [h]; exact gr_setCell _ _ _ _

/-- a struct is stored into a block known whole -/
theorem Blk.storeAgg {L : Lay} {P : Program} (hL : L.Ok P) {w : World} {b : Nat} {T t : TypeId} {vs us : List Value} (h : Blk w b T vs) (ht : L.agg t = some us.length) (off : Nat) (hoff : off + us.length ≤ vs.length) (h1 : ∀ u ∈ us, u.oneCell' = true) :
    ∃ w', (Instr.storeAt t (.pointer (some ⟨b, off, none⟩)) (.agg us.toArray)).run P w = .ok () w' ∧ Blk w' b T (vs.take off ++ us ++ vs.drop (off + us.length)) ∧ Gr w w' (some b) := by
  obtain ⟨d, hu, hd, i, hi, hsz⟩ := hL.agg _ _ ht
  have hr := run_storeCells_at (P := P) b off T us 0 vs.toArray w h (by simpa using hoff) h1
  refine ⟨w.setRow b (vs.take off ++ us ++ vs.drop (off + us.length)).toArray, ?_, ?_, gr_setRow _ _ _⟩
  · simp only [Instr.storeAt, Instr.sureAddr, storeVar, Value.cells]
    simp only [Nat.add_zero, List.toList_toArray] at hr
    simp [run_size hi, hsz]
    simpa using hr
  · unfold Blk
    rw [setRow_heap w b _ _ T _ h]
theorem Blk.cellsAt {w : World} {b : Nat} {T : TypeId} {vs : List Value} (h : Blk w b T vs) (off : Nat) (us : List Value) (hu : ∀ i v, us[i]? = some v → vs[off + i]? = some v) : CellsAt w b (0 + off) us := fun i v hv => by
  rw [Nat.add_assoc]; exact h.cell (hu i v hv)

section
variable {α : Type} {T : TypeId} {f : α → Value} {B : Nat} {w : World} {g c : Nat} {xs : List α}
/-- an element of an owned slice is read -/
theorem Own.cellAt (h : Own T f B w (some ⟨g, 0, none⟩) c xs) {i : Nat} {x : α} (hx : xs[i]? = some x) : w.cell? ⟨g, 0 + i, none⟩ = some (f x) := by
  rcases h.sl with h1 | ⟨b, o, ha, hc⟩
  · subst h1; simp at hx
  · cases ha; exact hc i x hx
theorem Own.storeAt (h : Own T f B w (some ⟨g, 0, none⟩) c xs) (i : Nat) (hi : i < xs.length) :
    ((w.cell? ⟨g, 0 + i, none⟩).isSome = true ∧ w.frozen? ⟨g, 0 + i, none⟩ = false) ∧ ∀ x w', w' = w.setCell ⟨g, 0 + i, none⟩ (f x) → Own T f B w' (some ⟨g, 0, none⟩) c (xs.set i x) ∧ Gr w w' (some g) := by
  obtain ⟨g', hg, h1, h2, _, _, h3⟩ := h.store (i : Int) (by omega) (by omega)
  cases hg
  rw [Int.toNat_natCast] at h1 h2
  refine ⟨⟨h1, h2⟩, fun x w' hw => ?_⟩
  have h4 := h3 x
  rw [Int.toNat_natCast, ← hw] at h4
  exact h4
theorem Own.lt (h : Own T f B w (some ⟨g, 0, none⟩) c xs) : B ≤ g ∧ g < w.heap.size := h.ge g rfl
end

/-- The world after something was written into the listed blocks (or new blocks were made). -/
structure Mod (S : Nat → Prop) (w w' : World) : Prop where
  os : w'.os = w.os
  tape : w'.tape = w.tape
  output : w'.output = w.output
  size : w.heap.size ≤ w'.heap.size
  block : ∀ k, k < w.heap.size → ¬ S k → w'.heap[k]? = w.heap[k]?

section
variable {S : Nat → Prop} {a b c : World}
theorem Mod.refl (S : Nat → Prop) (w : World) : Mod S w w := ⟨rfl, rfl, rfl, Nat.le_refl _, fun _ _ _ => rfl⟩
theorem Mod.trans (h : Mod S a b) (k : Mod S b c) : Mod S a c :=
  ⟨k.os.trans h.os, k.tape.trans h.tape, k.output.trans h.output, Nat.le_trans h.size k.size, fun i hi hn => by
    rw [k.block i (Nat.lt_of_lt_of_le hi h.size) hn, h.block i hi hn]⟩
theorem Mod.ofGr {row : Option Nat} (h : Gr a b row) (hr : ∀ g, row = some g → S g) : Mod S a b :=
  ⟨h.os, h.tape, h.output, h.size, fun k hk hn => h.block k hk fun e => hn (hr k e.symm)⟩
theorem Mod.ofExt (S : Nat → Prop) (h : Ext a b) : Mod S a b := ⟨h.os, h.tape, h.output, h.size, fun k hk _ => h.block k hk⟩
/-- what was written is new to an elder world -/
theorem Mod.above {w0 : World} (h : Mod S b c) (hb : Ext w0 b) (hr : ∀ g, S g → w0.heap.size ≤ g) : Ext w0 c :=
  ⟨h.os.trans hb.os, h.tape.trans hb.tape, h.output.trans hb.output, Nat.le_trans hb.size h.size, fun k hk => by
    rw [h.block k (Nat.lt_of_lt_of_le hk hb.size) (fun hs => absurd (hr k hs) (by omega)), hb.block k hk]⟩
theorem Mod.sub {S' : Nat → Prop} (h : Mod S a b) (hs : ∀ k, k < a.heap.size → S k → S' k) : Mod S' a b :=
  ⟨h.os, h.tape, h.output, h.size, fun k hk hn => h.block k hk fun e => hn (hs k hk e)⟩
theorem Mod.keepBlk {g : Nat} {T : TypeId} {vs : List Value} (h : Mod S a b) (hb : Blk a g T vs) (hn : ¬ S g) : Blk b g T vs := hb.keep (h.block g hb.lt hn)
theorem Mod.keepOwn {α : Type} {T : TypeId} {f : α → Value} {B c : Nat} {p : Option Addr} {xs : List α} (h : Mod S a b) (ho : Own T f B a p c xs) (hn : ∀ g, blockOf p = some g → ¬ S g) : Own T f B b p c xs :=
  ho.keep fun g hg => h.block g (ho.ge g hg).2 (hn g hg)
theorem Mod.keepSl {α : Type} {f : α → Value} {p : Option Addr} {xs : List α} (h : Mod S a b) (ho : Sl f a p xs) (hn : xs ≠ [] → ∀ g, blockOf p = some g → ¬ S g) : Sl f b p xs := by
  rcases ho with ho | ⟨g, o, ha, hc⟩
  · exact .inl ho
  · by_cases he : xs = []
    · exact .inl he
    · refine .inr ⟨g, o, ha, fun i x hx => ?_⟩
      have hb := hc i x hx
      have := hn he g (by rw [ha]; rfl)
      rw [World.cell?_of_block (w := a) (a := ⟨g, o + i, none⟩) (h.block g (cell_lt hb) this)]
      exact hb
end
end Go.Vc

/- The operators on unsigned integers, as they are on bit vectors. -/
set_option linter.unusedSimpArgs false
set_option linter.unusedVariables false
namespace Go.Proofs.Ytgipackjnncabaa
open Go.Vc

theorem ofI32 (x : BitVec 32) : BitVec.ofInt 32 (x.toNat : Int) = x := by
  rw [BitVec.ofInt_natCast, BitVec.ofNat_toNat, BitVec.setWidth_eq]
theorem ofI8 (x : BitVec 8) : BitVec.ofInt 8 (x.toNat : Int) = x := by
  rw [BitVec.ofInt_natCast, BitVec.ofNat_toNat, BitVec.setWidth_eq]
theorem w32 (x : BitVec 32) : IntKind.u32.wrap ((x.toNat : Nat) : Int) = (x.toNat : Int) := by
  rw [wu32]; have := x.isLt; omega
theorem w8 (x : BitVec 8) : IntKind.u8.wrap ((x.toNat : Nat) : Int) = (x.toNat : Int) := by
  rw [wu8]; have := x.isLt; omega
theorem and32 (x y : BitVec 32) : IntKind.u32.wrap (((BitVec.ofInt IntKind.u32.bits (x.toNat : Int) &&& BitVec.ofInt IntKind.u32.bits (y.toNat : Int)).toNat : Nat) : Int) = ((x &&& y).toNat : Int) := by
  show IntKind.u32.wrap (((BitVec.ofInt 32 (x.toNat : Int) &&& BitVec.ofInt 32 (y.toNat : Int)).toNat : Nat) : Int) = _
  rw [ofI32, ofI32, w32]
theorem or32 (x y : BitVec 32) : IntKind.u32.wrap (((BitVec.ofInt IntKind.u32.bits (x.toNat : Int) ||| BitVec.ofInt IntKind.u32.bits (y.toNat : Int)).toNat : Nat) : Int) = ((x ||| y).toNat : Int) := by
  show IntKind.u32.wrap (((BitVec.ofInt 32 (x.toNat : Int) ||| BitVec.ofInt 32 (y.toNat : Int)).toNat : Nat) : Int) = _
  rw [ofI32, ofI32, w32]
theorem xor32 (x y : BitVec 32) : IntKind.u32.wrap (((BitVec.ofInt IntKind.u32.bits (x.toNat : Int) ^^^ BitVec.ofInt IntKind.u32.bits (y.toNat : Int)).toNat : Nat) : Int) = ((x ^^^ y).toNat : Int) := by
  show IntKind.u32.wrap (((BitVec.ofInt 32 (x.toNat : Int) ^^^ BitVec.ofInt 32 (y.toNat : Int)).toNat : Nat) : Int) = _
  rw [ofI32, ofI32, w32]
theorem xor8 (x y : BitVec 8) : IntKind.u8.wrap (((BitVec.ofInt IntKind.u8.bits (x.toNat : Int) ^^^ BitVec.ofInt IntKind.u8.bits (y.toNat : Int)).toNat : Nat) : Int) = ((x ^^^ y).toNat : Int) := by
  show IntKind.u8.wrap (((BitVec.ofInt 8 (x.toNat : Int) ^^^ BitVec.ofInt 8 (y.toNat : Int)).toNat : Nat) : Int) = _
  rw [ofI8, ofI8, w8]
theorem andnot32 (x y : BitVec 32) : IntKind.u32.wrap (((BitVec.ofInt IntKind.u32.bits (x.toNat : Int) &&& ~~~BitVec.ofInt IntKind.u32.bits (y.toNat : Int)).toNat : Nat) : Int) = ((x &&& ~~~y).toNat : Int) := by
  show IntKind.u32.wrap (((BitVec.ofInt 32 (x.toNat : Int) &&& ~~~BitVec.ofInt 32 (y.toNat : Int)).toNat : Nat) : Int) = _
  rw [ofI32, ofI32, w32]
theorem not32 (x : BitVec 32) : IntKind.u32.wrap (((BitVec.ofInt IntKind.u32.bits IntKind.u32.max ^^^ BitVec.ofInt IntKind.u32.bits (x.toNat : Int)).toNat : Nat) : Int) = ((~~~x).toNat : Int) := by
  show IntKind.u32.wrap (((BitVec.ofInt 32 IntKind.u32.max ^^^ BitVec.ofInt 32 (x.toNat : Int)).toNat : Nat) : Int) = _
  rw [ofI32, show BitVec.ofInt 32 IntKind.u32.max = BitVec.allOnes 32 from by decide, BitVec.allOnes_xor, w32]
theorem neg32 (x : BitVec 32) : IntKind.u32.wrap (0 - (x.toNat : Int)) = ((-x).toNat : Int) := by
  rw [wu32, BitVec.toNat_neg]; have := x.isLt; omega
theorem add32 (x y : BitVec 32) : IntKind.u32.wrap ((x.toNat : Int) + (y.toNat : Int)) = ((x + y).toNat : Int) := by
  rw [wu32, BitVec.toNat_add]; omega
theorem sub32 (x y : BitVec 32) : IntKind.u32.wrap ((x.toNat : Int) - (y.toNat : Int)) = ((x - y).toNat : Int) := by
  rw [wu32, BitVec.toNat_sub]; have := x.isLt; have := y.isLt; omega
theorem shr32b (x : BitVec 32) (n : Nat) (hn : n ≤ 32) : (x.toNat : Int).fdiv (2 ^ (min ((n : Int)).toNat IntKind.u32.bits)) = ((x >>> n).toNat : Int) := by
  have e1 : min (n : Int).toNat IntKind.u32.bits = n := by
    show min (n : Int).toNat 32 = n
    omega
  rw [e1, Int.fdiv_eq_ediv_of_nonneg _ (by exact Int.pow_nonneg (by decide)), BitVec.toNat_ushiftRight, Nat.shiftRight_eq_div_pow, Int.natCast_ediv, Int.natCast_pow]
  rfl
theorem shl32b (x : BitVec 32) (n : Nat) (hn : n ≤ 32) : IntKind.u32.wrap ((x.toNat : Int) * 2 ^ (min ((n : Int)).toNat IntKind.u32.bits)) = ((x <<< n).toNat : Int) := by
  have e1 : min (n : Int).toNat IntKind.u32.bits = n := by
    show min (n : Int).toNat 32 = n
    omega
  rw [e1, wu32, BitVec.toNat_shiftLeft, Nat.shiftLeft_eq, show (2 : Int) ^ n = ((2 ^ n : Nat) : Int) from by rw [Int.natCast_pow]; rfl, ← Int.natCast_mul]
  generalize x.toNat * 2 ^ n = m
  omega
theorem shl8b (x : BitVec 8) (n : Nat) (hn : n ≤ 8) : IntKind.u8.wrap ((x.toNat : Int) * 2 ^ (min ((n : Int)).toNat IntKind.u8.bits)) = ((x <<< n).toNat : Int) := by
  have e1 : min (n : Int).toNat IntKind.u8.bits = n := by
    show min (n : Int).toNat 8 = n
    omega
  rw [e1, wu8, BitVec.toNat_shiftLeft, Nat.shiftLeft_eq, show (2 : Int) ^ n = ((2 ^ n : Nat) : Int) from by rw [Int.natCast_pow]; rfl, ← Int.natCast_mul]
  generalize x.toNat * 2 ^ n = m
  omega
end Go.Proofs.Ytgipackjnncabaa

/- Walks of layer 3: sums. -/
set_option linter.unusedVariables false
namespace Go.Proofs.Ytgipackjnncabaa
open Go.Vc Go.RowKit

theorem and_one (x : BitVec 32) : x &&& 1#32 = if x.getLsbD 0 = true then 1#32 else 0#32 := by
  apply BitVec.eq_of_toNat_eq
  rw [BitVec.toNat_and, show (1#32).toNat = 1 from rfl, Nat.and_one_is_mod]
  have : x.getLsbD 0 = decide (x.toNat % 2 = 1) := by rw [BitVec.getLsbD, Nat.testBit_zero]
  rw [this]
  rcases Nat.mod_two_eq_zero_or_one x.toNat with h | h <;> simp [h]

theorem step_code (r : BitVec 32) (x : Bool) : (r >>> 1) ^^^ (3988292384#32 &&& -((r &&& 1#32) ^^^ (if x = true then 1#32 else 0#32))) = stepB r x := by
  rw [and_one]
  unfold stepB
  congr 1
  generalize r.getLsbD 0 = p
  cases p <;> cases x <;> decide

theorem shr_bit (c : BitVec 8) (k : Nat) : ((c.setWidth 32) >>> k) &&& 1#32 = if c.getLsbD k = true then 1#32 else 0#32 := by
  have e : ((c.setWidth 32) >>> k).getLsbD 0 = c.getLsbD k := by
    rw [BitVec.getLsbD_ushiftRight, BitVec.getLsbD_setWidth, Nat.add_zero]
    by_cases h : k < 32
    · simp [h]
    · rw [BitVec.getLsbD_of_ge c k (by omega)]
      simp
  rw [and_one, e]

theorem setW (c : BitVec 8) : (c.setWidth 32).toNat = c.toNat := by
  rw [BitVec.toNat_setWidth]
  have := c.isLt
  omega

theorem bits8_take (c : BitVec 8) (k : Nat) (hk : k < 8) : (bits8 c).take (k + 1) = (bits8 c).take k ++ [c.getLsbD k] := by
  rw [List.take_succ_eq_append_getElem (by rw [bits8_len]; exact hk)]
  simp [bits8]

/-- the inner function of crc.On: one bit taken in -/
theorem take_calls {w : World} {b : Nat} {r : BitVec 32} (x : Bool) (hb : Blk w b 42 [u32v r]) :
    Calls Try.prog 142 #[.int .u32 (if x = true then 1#32 else 0#32 : BitVec 32).toNat, .pointer (some ⟨b, 0, none⟩)] w (Ret fun v w' => v = .tuple #[] ∧ Blk w' b 42 [u32v (stepB r x)] ∧ Gr w w' (some b)) := by
  refine calls_of_vc lok Try.func142 ?_ rfl
  conv => whnf
  refine ⟨_, hb.cell0 rfl, ?_⟩
  conv => whnf
  intro z hz
  replace hz := hz.trans (and32 r 1#32)
  subst hz
  conv => whnf
  intro z hz
  replace hz := hz.trans (xor32 (r &&& 1#32) (if x = true then 1#32 else 0#32))
  subst hz
  conv => whnf
  refine ⟨_, hb.cell0 rfl, ?_⟩
  conv => whnf
  refine ⟨by omega, ?_⟩
  intro z hz
  replace hz := hz.trans (shr32b r 1 (by decide))
  subst hz
  conv => whnf
  refine ⟨(hb).can 0 (by simp) _ rfl, fun w1 hq7 => ?_⟩
  have hb1 : Blk w1 b 42 [u32v (r >>> 1)] := by rw [hq7]; exact (hb).set 0 _
  have gw1 := gr_of_set hq7
  clear hq7
  conv => whnf
  refine ⟨_, hb1.cell0 rfl, ?_⟩
  conv => whnf
  intro z hz
  replace hz := hz.trans (neg32 ((r &&& 1#32) ^^^ (if x = true then 1#32 else 0#32)))
  subst hz
  conv => whnf
  intro z hz
  replace hz := hz.trans (and32 3988292384#32 (-((r &&& 1#32) ^^^ (if x = true then 1#32 else 0#32))))
  subst hz
  conv => whnf
  intro z hz
  replace hz := hz.trans (xor32 (r >>> 1) (3988292384#32 &&& -((r &&& 1#32) ^^^ (if x = true then 1#32 else 0#32))))
  subst hz
  conv => whnf
  rw [step_code]
  refine ⟨(hb1).can 0 (by simp) _ rfl, fun w2 hq12 => ?_⟩
  have hb2 : Blk w2 b 42 [u32v (stepB r x)] := by rw [hq12]; exact (hb1).set 0 _
  have gw2 := gr_of_set hq12
  clear hq12
  conv => whnf
  exact ⟨rfl, hb2, gw1.step gw2 (.inl rfl)⟩

set_option maxHeartbeats 1000000 in
/-- crc.On -/
theorem on_calls {w : World} {a : Option Addr} {c : Nat} {bs : List (BitVec 8)} (s : BitVec 32) (h : Sl u8v w a bs) (hl : bs.length ≤ 2147483648) :
    Calls Try.prog 62 #[.int .u32 s.toNat, .slice a bs.length c] w (Ret fun v w' => v = .int .u32 (onF s bs).toNat ∧ Ext w w') := by
  refine calls_of_vc lok Try.func62 ?_ rfl
  conv => whnf
  intro z hz
  replace hz := hz.trans (not32 s)
  subst hz
  conv => whnf
  intro w1 hw1
  have hb1 : Blk w1 w.heap.size 42 [.int .u32 0] := by rw [hw1]; exact Blk.new w 42 _
  have x1 : Ext w w1 := by rw [hw1]; exact Ext.new _ _
  clear hw1
  conv => whnf
  refine ⟨(hb1).can 0 (by simp) _ rfl, fun w2 hq16 => ?_⟩
  have hb2 : Blk w2 w.heap.size 42 [u32v (~~~s)] := by rw [hq16]; exact (hb1).set 0 _
  have gw2 := gr_of_set hq16
  clear hq16
  conv => whnf
  have x2 : Ext w w2 := gw2.extOf x1 (fun g hg => by cases hg; exact Nat.le_refl _)
  refine vcLoop_inv lok (σ := Nat)
    (fun i => [(15, .int .i64 i), (14, .int .i64 bs.length), (13, .slice a bs.length c), (6, .func (.func 142) #[] #[.pointer (some ⟨w.heap.size, 0, none⟩)]), (5, .pointer (some ⟨w.heap.size, 0, none⟩))])
    (fun i w3 => i ≤ bs.length ∧ Blk w3 w.heap.size 42 [u32v (crcB (~~~s) (bitsF (bs.take i)))] ∧ Ext w w3) (fun i => bs.length - i)
    0 ⟨rfl, rfl, rfl, rfl, rfl, trivial⟩ ⟨Nat.zero_le _, hb2, x2⟩ ?_
  rintro i w3 ⟨hi, hb3, x3⟩
  conv => whnf
  refine vcCond_split lok rfl (fun h2 => ?_) (fun h2 => ?_)
  · have h2 := dt h2
    conv => whnf
    have hlt : i < bs.length := by omega
    have gx : bs.getD (i : Int).toNat default = bs[i] := by simp [List.getD, List.getElem?_eq_getElem hlt]
    have ets : bs.take (i + 1) = bs.take i ++ [bs[i]] := List.take_succ_eq_append_getElem hlt
    have g20 := (h.ext x3).at ((i : Int)) (by omega) (by omega)
    obtain ⟨p20, o20, ha20, hcell20⟩ := g20
    refine ⟨p20, o20, ha20, ⟨by omega, by omega⟩, ?_⟩
    conv => whnf
    refine ⟨_, hcell20, ?_⟩
    conv => whnf
    rw [gx]
    generalize bs[i] = y at *
    conv => whnf
    refine vcLoop_inv lok (σ := Nat)
      (fun k => [(19, .int .i64 k), (8, .int .u8 y.toNat), (15, .int .i64 i), (14, .int .i64 bs.length), (13, .slice a bs.length c), (6, .func (.func 142) #[] #[.pointer (some ⟨w.heap.size, 0, none⟩)]), (5, .pointer (some ⟨w.heap.size, 0, none⟩))])
      (fun k w4 => k ≤ 8 ∧ Blk w4 w.heap.size 42 [u32v (crcB (~~~s) (bitsF (bs.take i) ++ (bits8 y).take k))] ∧ Ext w w4) (fun k => 8 - k)
      0 ⟨rfl, rfl, rfl, rfl, rfl, rfl, rfl, trivial⟩ ⟨Nat.zero_le _, by rw [List.take_zero, List.append_nil]; exact hb3, x3⟩ ?_
    rintro k w4 ⟨hk, hb4, x4⟩
    conv => whnf
    refine vcCond_split lok rfl (fun h4 => ?_) (fun h4 => ?_)
    · have h4 := dt h4
      conv => whnf
      have hk8 : k < 8 := by omega
      intro z hz
      replace hz := hz.trans ((show _ = (((y.setWidth 32).toNat : Nat) : Int) by rw [wu32, setW]; have := y.isLt; omega))
      subst hz
      conv => whnf
      intro z hz
      have hz26 : z = (k : Int) := by rw [hz, wu64]; omega
      clear hz
      subst hz26
      conv => whnf
      refine ⟨by omega, ?_⟩
      intro z hz
      replace hz := hz.trans (shr32b (y.setWidth 32) k (by omega))
      subst hz
      conv => whnf
      intro z hz
      replace hz := hz.trans (and32 ((y.setWidth 32) >>> k) 1#32)
      subst hz
      conv => whnf
      rw [shr_bit]
      refine Calls.ret (take_calls (y.getLsbD k) hb4) ?_
      rintro _ w5 ⟨rfl, hb5, hg5⟩
      conv => whnf
      refine ⟨by omega, ?_⟩
      conv => whnf
      refine ⟨k + 1, ⟨rfl, rfl, rfl, rfl, rfl, rfl, rfl, trivial⟩, ⟨by omega, ?_, hg5.extOf x4 (fun g hg => by cases hg; exact Nat.le_refl _)⟩, by omega⟩
      rw [bits8_take y k hk8, ← List.append_assoc, crcB_snoc]
      exact hb5
    · have h4 := df h4
      conv => whnf
      obtain rfl : k = 8 := by omega
      refine ⟨by omega, ?_⟩
      conv => whnf
      refine ⟨i + 1, ⟨rfl, rfl, rfl, rfl, rfl, trivial⟩, ⟨by omega, ?_, x4⟩, by omega⟩
      rw [ets, bitsF_append]
      have e8 : (bits8 y).take 8 = bits8 y := List.take_of_length_le (by rw [bits8_len]; exact Nat.le_refl _)
      rw [e8] at hb4
      have e : bitsF [y] = bits8 y := List.append_nil _
      rw [e]
      exact hb4
  · have h2 := df h2
    conv => whnf
    obtain rfl : i = bs.length := by omega
    rw [List.take_length] at hb3
    refine ⟨_, hb3.cell0 rfl, ?_⟩
    conv => whnf
    intro z hz
    replace hz := hz.trans (not32 (crcB (~~~s) (bitsF bs)))
    subst hz
    conv => whnf
    exact ⟨rfl, x3⟩

theorem xor64 (x y : BitVec 32) : IntKind.i64.wrap (((BitVec.ofInt IntKind.i64.bits (x.toNat : Int) ^^^ BitVec.ofInt IntKind.i64.bits (y.toNat : Int)).toNat : Nat) : Int) = ((x ^^^ y).toNat : Int) := by
  show IntKind.i64.wrap (((BitVec.ofInt 64 (x.toNat : Int) ^^^ BitVec.ofInt 64 (y.toNat : Int)).toNat : Nat) : Int) = _
  have e : (BitVec.ofInt 64 (x.toNat : Int) ^^^ BitVec.ofInt 64 (y.toNat : Int)).toNat = (x ^^^ y).toNat := by
    rw [BitVec.ofInt_natCast, BitVec.ofInt_natCast, BitVec.toNat_xor, BitVec.toNat_xor, BitVec.toNat_ofNat, BitVec.toNat_ofNat]
    have := x.isLt
    have := y.isLt
    rw [Nat.mod_eq_of_lt (by omega), Nat.mod_eq_of_lt (by omega)]
  rw [e]
  have := (x ^^^ y).isLt
  exact wi64 (by omega)

theorem shr1_nat (r : BitVec 32) : (r >>> 1).toNat = r.toNat / 2 := by rw [BitVec.toNat_ushiftRight, Nat.shiftRight_eq_div_pow]
theorem not_nat (r : BitVec 32) : ((~~~r).toNat : Int) = 4294967295 - (r.toNat : Int) := by
  rw [BitVec.toNat_not]
  have := r.isLt
  omega
theorem low_nat (r : BitVec 32) : r.getLsbD 0 = decide (r.toNat % 2 = 1) := by rw [BitVec.getLsbD, Nat.testBit_zero]
theorem bit8_nat (c : BitVec 8) (k : Nat) : c.getLsbD k = decide (c.toNat / 2 ^ k % 2 = 1) := by rw [BitVec.getLsbD, Nat.testBit_eq_decide_div_mod_eq]

set_option maxHeartbeats 1000000 in
/-- its reference -/
theorem ron_calls {w : World} {a : Option Addr} {c : Nat} {bs : List (BitVec 8)} (s : BitVec 32) (h : Sl u8v w a bs) (hl : bs.length ≤ 2147483648) :
    Calls Try.prog 63 #[.int .u32 s.toNat, .slice a bs.length c] w (Ret fun v w' => v = .int .u32 (onF s bs).toNat ∧ w' = w) := by
  have hsl := s.isLt
  refine calls_of_vc lok Try.func63 ?_ rfl
  conv => whnf
  intro z hz
  have hz37 : z = (s.toNat : Int) := by rw [hz]; exact wi64 (by omega)
  clear hz
  subst hz37
  conv => whnf
  refine ⟨by omega, ?_⟩
  rw [← not_nat]
  conv => whnf
  refine vcLoop_inv lok (σ := Nat × BitVec 32)
    (fun ⟨i, r⟩ => [(6, .int .i64 i), (5, .int .i64 r.toNat), (1, .slice a bs.length c)])
    (fun ⟨i, r⟩ w3 => i ≤ bs.length ∧ r = crcB (~~~s) (bitsF (bs.take i)) ∧ w3 = w) (fun s => bs.length - s.1)
    (0, ~~~s) ⟨rfl, rfl, rfl, trivial⟩ ⟨Nat.zero_le _, rfl, rfl⟩ ?_
  rintro ⟨i, r⟩ w3 ⟨hi, hr, rfl⟩
  conv => whnf
  refine vcCond_split lok rfl (fun h2 => ?_) (fun h2 => ?_)
  · have h2 := dt h2
    conv => whnf
    have hlt : i < bs.length := by omega
    have gx : bs.getD (i : Int).toNat default = bs[i] := by simp [List.getD, List.getElem?_eq_getElem hlt]
    have ets : bs.take (i + 1) = bs.take i ++ [bs[i]] := List.take_succ_eq_append_getElem hlt
    have g42 := (h).at ((i : Int)) (by omega) (by omega)
    obtain ⟨p42, o42, ha42, hcell42⟩ := g42
    refine ⟨p42, o42, ha42, ⟨by omega, by omega⟩, ?_⟩
    conv => whnf
    refine ⟨_, hcell42, ?_⟩
    conv => whnf
    rw [gx]
    generalize bs[i] = y at *
    have hyl := y.isLt
    intro z hz
    have hz43 : z = (y.toNat : Int) := by rw [hz]; exact wi64 (by omega)
    clear hz
    subst hz43
    conv => whnf
    refine vcLoop_inv lok (σ := Nat × BitVec 32 × Nat)
      (fun ⟨k, r, m⟩ => [(8, .int .i64 k), (7, .int .i64 m), (6, .int .i64 i), (5, .int .i64 r.toNat), (1, .slice a bs.length c)])
      (fun ⟨k, r, m⟩ w4 => k ≤ 8 ∧ r = crcB (~~~s) (bitsF (bs.take i) ++ (bits8 y).take k) ∧ m = y.toNat / 2 ^ k ∧ w4 = w3) (fun s => 8 - s.1)
      (0, r, y.toNat) ⟨rfl, rfl, rfl, rfl, rfl, trivial⟩ ⟨Nat.zero_le _, by rw [List.take_zero, List.append_nil]; exact hr, by simp, rfl⟩ ?_
    rintro ⟨k, r2, m⟩ w4 ⟨hk, hr2, hm, rfl⟩
    have hrl := r2.isLt
    conv => whnf
    refine vcCond_split lok rfl (fun h4 => ?_) (fun h4 => ?_)
    · have h4 := dt h4
      conv => whnf
      have hk8 : k < 8 := by omega
      refine ⟨by decide, ?_⟩
      intro z1 hz
      have hz47 : z1 = ((r2.toNat % 2 : Nat) : Int) := by rw [hz, Int.tmod_eq_emod_of_nonneg (by omega)]; omega
      clear hz
      subst hz47
      conv => whnf
      refine ⟨by decide, ?_⟩
      intro z2 hz
      have hz48 : z2 = ((m % 2 : Nat) : Int) := by rw [hz, Int.tmod_eq_emod_of_nonneg (by omega)]; omega
      clear hz
      subst hz48
      conv => whnf
      refine ⟨by decide, ?_⟩
      intro z3 hz
      have hz49 : z3 = ((r2 >>> 1).toNat : Int) := by rw [hz, Int.tdiv_eq_ediv_of_nonneg (by omega), wi64 (by omega), shr1_nat]; omega
      clear hz
      subst hz49
      conv => whnf
      refine ⟨by decide, ?_⟩
      have hml : m < 256 := by rw [hm]; exact Nat.lt_of_le_of_lt (Nat.div_le_self _ _) hyl
      intro z4 hz
      have hz50 : z4 = ((m / 2 : Nat) : Int) := by rw [hz, Int.tdiv_eq_ediv_of_nonneg (by omega), wi64 (by omega)]; omega
      clear hz
      subst hz50
      conv => whnf
      have em : m / 2 = y.toNat / 2 ^ (k + 1) := by rw [hm, Nat.div_div_eq_div_mul, Nat.pow_succ]
      have en : crcB (~~~s) (bitsF (bs.take i) ++ (bits8 y).take (k + 1)) = stepB r2 (y.getLsbD k) := by
        rw [bits8_take y k hk8, ← List.append_assoc, crcB_snoc, ← hr2]
      have eb : y.getLsbD k = decide (m % 2 = 1) := by rw [bit8_nat, hm]
      refine vcCond_split lok rfl (fun h5 => ?_) (fun h5 => ?_)
      · have h5 := ne_true h5
        conv => whnf
        intro z hz
        replace hz := hz.trans (xor64 (r2 >>> 1) 3988292384#32)
        subst hz
        conv => whnf
        refine ⟨by omega, ?_⟩
        conv => whnf
        refine ⟨(k + 1, (r2 >>> 1) ^^^ 3988292384#32, m / 2), ⟨rfl, rfl, rfl, rfl, rfl, trivial⟩, ⟨by omega, ?_, em, rfl⟩, Nat.sub_succ_lt_self 8 k hk8⟩
        rw [en, eb]
        unfold stepB
        rw [low_nat]
        have : (decide (r2.toNat % 2 = 1) ^^ decide (m % 2 = 1)) = true := by
          rcases Nat.mod_two_eq_zero_or_one r2.toNat with h6 | h6 <;> rcases Nat.mod_two_eq_zero_or_one m with h7 | h7 <;> simp [h6, h7] <;> omega
        rw [if_pos this]
        rfl
      · have h5 := ne_false h5
        conv => whnf
        refine ⟨by omega, ?_⟩
        conv => whnf
        refine ⟨(k + 1, (r2 >>> 1), m / 2), ⟨rfl, rfl, rfl, rfl, rfl, trivial⟩, ⟨by omega, ?_, em, rfl⟩, Nat.sub_succ_lt_self 8 k hk8⟩
        rw [en, eb]
        unfold stepB
        rw [low_nat]
        have : (decide (r2.toNat % 2 = 1) ^^ decide (m % 2 = 1)) = false := by
          rcases Nat.mod_two_eq_zero_or_one r2.toNat with h6 | h6 <;> rcases Nat.mod_two_eq_zero_or_one m with h7 | h7 <;> simp [h6, h7] <;> omega
        rw [this]
        simp
    · have h4 := df h4
      conv => whnf
      obtain rfl : k = 8 := by omega
      refine ⟨by omega, ?_⟩
      conv => whnf
      refine ⟨(i + 1, r2), ⟨rfl, rfl, rfl, trivial⟩, ⟨by omega, ?_, rfl⟩, Nat.sub_succ_lt_self _ _ hlt⟩
      have e8 : (bits8 y).take 8 = bits8 y := List.take_of_length_le (by rw [bits8_len]; exact Nat.le_refl _)
      rw [hr2, ets, bitsF_append, e8]
      have e : bitsF [y] = bits8 y := List.append_nil _
      rw [e]
  · have h2 := df h2
    conv => whnf
    obtain rfl : i = bs.length := by omega
    rw [List.take_length] at hr
    have hrl := r.isLt
    refine ⟨by omega, ?_⟩
    rw [← not_nat]
    conv => whnf
    intro z hz
    have hz61 : z = (((~~~r).toNat : Nat) : Int) := by rw [hz, w32]
    clear hz
    subst hz61
    conv => whnf
    exact ⟨by rw [hr]; rfl, rfl⟩
end Go.Proofs.Ytgipackjnncabaa
