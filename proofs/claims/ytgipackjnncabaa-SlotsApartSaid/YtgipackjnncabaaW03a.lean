/- Walks of layer 3: sums. -/
import Derived.Test.YtgipackjnncabaaPl03
import Derived.Test.YtgipackjnncabaaPl02b
import Derived.Test.YtgipackjnncabaaBlk
import Derived.Test.YtgipackjnncabaaBv
set_option linter.unusedVariables false
namespace Go.Proofs.Ytgipackjnncabaa
open Go.Vc Go.RowKit

theorem and_one (x : BitVec 32) : x &&& 1#32 = if x.getLsbD 0 = true then 1#32 else 0#32 := by
  apply BitVec.eq_of_toNat_eq
  rw [BitVec.toNat_and, show (1#32).toNat = 1 from rfl, Nat.and_one_is_mod]
  have : x.getLsbD 0 = decide (x.toNat % 2 = 1) := by rw [BitVec.getLsbD, Nat.testBit_zero]
  rw [this]
  rcases Nat.mod_two_eq_zero_or_one x.toNat with h | h <;> simp [h]

theorem step_code (r : BitVec 32) (x : Bool) : (r >>> 1) ^^^ (3988292384#32 &&& -((r &&& 1#32) ^^^ (if x = true then 1#32 else 0#32))) = stepB r x := by
  rw [and_one]
  unfold stepB
  congr 1
  generalize r.getLsbD 0 = p
  cases p <;> cases x <;> decide

theorem shr_bit (c : BitVec 8) (k : Nat) : ((c.setWidth 32) >>> k) &&& 1#32 = if c.getLsbD k = true then 1#32 else 0#32 := by
  have e : ((c.setWidth 32) >>> k).getLsbD 0 = c.getLsbD k := by
    rw [BitVec.getLsbD_ushiftRight, BitVec.getLsbD_setWidth, Nat.add_zero]
    by_cases h : k < 32
    · simp [h]
    · rw [BitVec.getLsbD_of_ge c k (by omega)]
      simp
  rw [and_one, e]

theorem setW (c : BitVec 8) : (c.setWidth 32).toNat = c.toNat := by
  rw [BitVec.toNat_setWidth]
  have := c.isLt
  omega

theorem bits8_take (c : BitVec 8) (k : Nat) (hk : k < 8) : (bits8 c).take (k + 1) = (bits8 c).take k ++ [c.getLsbD k] := by
  rw [List.take_succ_eq_append_getElem (by rw [bits8_len]; exact hk)]
  simp [bits8]

/-- the inner function of crc.On: one bit taken in -/
theorem take_calls {w : World} {b : Nat} {r : BitVec 32} (x : Bool) (hb : Blk w b 42 [u32v r]) :
    Calls Try.prog 142 #[.int .u32 (if x = true then 1#32 else 0#32 : BitVec 32).toNat, .pointer (some ⟨b, 0, none⟩)] w (Ret fun v w' => v = .tuple #[] ∧ Blk w' b 42 [u32v (stepB r x)] ∧ Gr w w' (some b)) := by
  refine calls_of_vc lok Try.func142 ?_ rfl
  conv => whnf
  refine ⟨_, hb.cell0 rfl, ?_⟩
  conv => whnf
  intro z hz
  replace hz := hz.trans (and32 r 1#32)
  subst hz
  conv => whnf
  intro z hz
  replace hz := hz.trans (xor32 (r &&& 1#32) (if x = true then 1#32 else 0#32))
  subst hz
  conv => whnf
  refine ⟨_, hb.cell0 rfl, ?_⟩
  conv => whnf
  refine ⟨by omega, ?_⟩
  intro z hz
  replace hz := hz.trans (shr32b r 1 (by decide))
  subst hz
  conv => whnf
  refine ⟨(hb).can 0 (by simp) _ rfl, fun w1 hq7 => ?_⟩
  have hb1 : Blk w1 b 42 [u32v (r >>> 1)] := by rw [hq7]; exact (hb).set 0 _
  have gw1 := gr_of_set hq7
  clear hq7
  conv => whnf
  refine ⟨_, hb1.cell0 rfl, ?_⟩
  conv => whnf
  intro z hz
  replace hz := hz.trans (neg32 ((r &&& 1#32) ^^^ (if x = true then 1#32 else 0#32)))
  subst hz
  conv => whnf
  intro z hz
  replace hz := hz.trans (and32 3988292384#32 (-((r &&& 1#32) ^^^ (if x = true then 1#32 else 0#32))))
  subst hz
  conv => whnf
  intro z hz
  replace hz := hz.trans (xor32 (r >>> 1) (3988292384#32 &&& -((r &&& 1#32) ^^^ (if x = true then 1#32 else 0#32))))
  subst hz
  conv => whnf
  rw [step_code]
  refine ⟨(hb1).can 0 (by simp) _ rfl, fun w2 hq12 => ?_⟩
  have hb2 : Blk w2 b 42 [u32v (stepB r x)] := by rw [hq12]; exact (hb1).set 0 _
  have gw2 := gr_of_set hq12
  clear hq12
  conv => whnf
  exact ⟨rfl, hb2, gw1.step gw2 (.inl rfl)⟩

set_option maxHeartbeats 1000000 in
/-- crc.On -/
theorem on_calls {w : World} {a : Option Addr} {c : Nat} {bs : List (BitVec 8)} (s : BitVec 32) (h : Sl u8v w a bs) (hl : bs.length ≤ 2147483648) :
    Calls Try.prog 62 #[.int .u32 s.toNat, .slice a bs.length c] w (Ret fun v w' => v = .int .u32 (onF s bs).toNat ∧ Ext w w') := by
  refine calls_of_vc lok Try.func62 ?_ rfl
  conv => whnf
  intro z hz
  replace hz := hz.trans (not32 s)
  subst hz
  conv => whnf
  intro w1 hw1
  have hb1 : Blk w1 w.heap.size 42 [.int .u32 0] := by rw [hw1]; exact Blk.new w 42 _
  have x1 : Ext w w1 := by rw [hw1]; exact Ext.new _ _
  clear hw1
  conv => whnf
  refine ⟨(hb1).can 0 (by simp) _ rfl, fun w2 hq16 => ?_⟩
  have hb2 : Blk w2 w.heap.size 42 [u32v (~~~s)] := by rw [hq16]; exact (hb1).set 0 _
  have gw2 := gr_of_set hq16
  clear hq16
  conv => whnf
  have x2 : Ext w w2 := gw2.extOf x1 (fun g hg => by cases hg; exact Nat.le_refl _)
  refine vcLoop_inv lok (σ := Nat)
    (fun i => [(15, .int .i64 i), (14, .int .i64 bs.length), (13, .slice a bs.length c), (6, .func (.func 142) #[] #[.pointer (some ⟨w.heap.size, 0, none⟩)]), (5, .pointer (some ⟨w.heap.size, 0, none⟩))])
    (fun i w3 => i ≤ bs.length ∧ Blk w3 w.heap.size 42 [u32v (crcB (~~~s) (bitsF (bs.take i)))] ∧ Ext w w3) (fun i => bs.length - i)
    0 ⟨rfl, rfl, rfl, rfl, rfl, trivial⟩ ⟨Nat.zero_le _, hb2, x2⟩ ?_
  rintro i w3 ⟨hi, hb3, x3⟩
  conv => whnf
  refine vcCond_split lok rfl (fun h2 => ?_) (fun h2 => ?_)
  · have h2 := dt h2
    conv => whnf
    have hlt : i < bs.length := by omega
    have gx : bs.getD (i : Int).toNat default = bs[i] := by simp [List.getD, List.getElem?_eq_getElem hlt]
    have ets : bs.take (i + 1) = bs.take i ++ [bs[i]] := List.take_succ_eq_append_getElem hlt
    have g20 := (h.ext x3).at ((i : Int)) (by omega) (by omega)
    obtain ⟨p20, o20, ha20, hcell20⟩ := g20
    refine ⟨p20, o20, ha20, ⟨by omega, by omega⟩, ?_⟩
    conv => whnf
    refine ⟨_, hcell20, ?_⟩
    conv => whnf
    rw [gx]
    generalize bs[i] = y at *
    conv => whnf
    refine vcLoop_inv lok (σ := Nat)
      (fun k => [(19, .int .i64 k), (8, .int .u8 y.toNat), (15, .int .i64 i), (14, .int .i64 bs.length), (13, .slice a bs.length c), (6, .func (.func 142) #[] #[.pointer (some ⟨w.heap.size, 0, none⟩)]), (5, .pointer (some ⟨w.heap.size, 0, none⟩))])
      (fun k w4 => k ≤ 8 ∧ Blk w4 w.heap.size 42 [u32v (crcB (~~~s) (bitsF (bs.take i) ++ (bits8 y).take k))] ∧ Ext w w4) (fun k => 8 - k)
      0 ⟨rfl, rfl, rfl, rfl, rfl, rfl, rfl, trivial⟩ ⟨Nat.zero_le _, by rw [List.take_zero, List.append_nil]; exact hb3, x3⟩ ?_
    rintro k w4 ⟨hk, hb4, x4⟩
    conv => whnf
    refine vcCond_split lok rfl (fun h4 => ?_) (fun h4 => ?_)
    · have h4 := dt h4
      conv => whnf
      have hk8 : k < 8 := by omega
      intro z hz
      replace hz := hz.trans ((show _ = (((y.setWidth 32).toNat : Nat) : Int) by rw [wu32, setW]; have := y.isLt; omega))
      subst hz
      conv => whnf
      intro z hz
      have hz26 : z = (k : Int) := by rw [hz, wu64]; omega
      clear hz
      subst hz26
      conv => whnf
      refine ⟨by omega, ?_⟩
      intro z hz
      replace hz := hz.trans (shr32b (y.setWidth 32) k (by omega))
      subst hz
      conv => whnf
      intro z hz
      replace hz := hz.trans (and32 ((y.setWidth 32) >>> k) 1#32)
      subst hz
      conv => whnf
      rw [shr_bit]
      refine Calls.ret (take_calls (y.getLsbD k) hb4) ?_
      rintro _ w5 ⟨rfl, hb5, hg5⟩
      conv => whnf
      refine ⟨by omega, ?_⟩
      conv => whnf
      refine ⟨k + 1, ⟨rfl, rfl, rfl, rfl, rfl, rfl, rfl, trivial⟩, ⟨by omega, ?_, hg5.extOf x4 (fun g hg => by cases hg; exact Nat.le_refl _)⟩, by omega⟩
      rw [bits8_take y k hk8, ← List.append_assoc, crcB_snoc]
      exact hb5
    · have h4 := df h4
      conv => whnf
      obtain rfl : k = 8 := by omega
      refine ⟨by omega, ?_⟩
      conv => whnf
      refine ⟨i + 1, ⟨rfl, rfl, rfl, rfl, rfl, trivial⟩, ⟨by omega, ?_, x4⟩, by omega⟩
      rw [ets, bitsF_append]
      have e8 : (bits8 y).take 8 = bits8 y := List.take_of_length_le (by rw [bits8_len]; exact Nat.le_refl _)
      rw [e8] at hb4
      have e : bitsF [y] = bits8 y := List.append_nil _
      rw [e]
      exact hb4
  · have h2 := df h2
    conv => whnf
    obtain rfl : i = bs.length := by omega
    rw [List.take_length] at hb3
    refine ⟨_, hb3.cell0 rfl, ?_⟩
    conv => whnf
    intro z hz
    replace hz := hz.trans (not32 (crcB (~~~s) (bitsF bs)))
    subst hz
    conv => whnf
    exact ⟨rfl, x3⟩

theorem xor64 (x y : BitVec 32) : IntKind.i64.wrap (((BitVec.ofInt IntKind.i64.bits (x.toNat : Int) ^^^ BitVec.ofInt IntKind.i64.bits (y.toNat : Int)).toNat : Nat) : Int) = ((x ^^^ y).toNat : Int) := by
  show IntKind.i64.wrap (((BitVec.ofInt 64 (x.toNat : Int) ^^^ BitVec.ofInt 64 (y.toNat : Int)).toNat : Nat) : Int) = _
  have e : (BitVec.ofInt 64 (x.toNat : Int) ^^^ BitVec.ofInt 64 (y.toNat : Int)).toNat = (x ^^^ y).toNat := by
    rw [BitVec.ofInt_natCast, BitVec.ofInt_natCast, BitVec.toNat_xor, BitVec.toNat_xor, BitVec.toNat_ofNat, BitVec.toNat_ofNat]
    have := x.isLt
    have := y.isLt
    rw [Nat.mod_eq_of_lt (by omega), Nat.mod_eq_of_lt (by omega)]
  rw [e]
  have := (x ^^^ y).isLt
  exact wi64 (by omega)

theorem shr1_nat (r : BitVec 32) : (r >>> 1).toNat = r.toNat / 2 := by rw [BitVec.toNat_ushiftRight, Nat.shiftRight_eq_div_pow]
theorem not_nat (r : BitVec 32) : ((~~~r).toNat : Int) = 4294967295 - (r.toNat : Int) := by
  rw [BitVec.toNat_not]
  have := r.isLt
  omega
theorem low_nat (r : BitVec 32) : r.getLsbD 0 = decide (r.toNat % 2 = 1) := by rw [BitVec.getLsbD, Nat.testBit_zero]
theorem bit8_nat (c : BitVec 8) (k : Nat) : c.getLsbD k = decide (c.toNat / 2 ^ k % 2 = 1) := by rw [BitVec.getLsbD, Nat.testBit_eq_decide_div_mod_eq]

set_option maxHeartbeats 1000000 in
/-- its reference -/
theorem ron_calls {w : World} {a : Option Addr} {c : Nat} {bs : List (BitVec 8)} (s : BitVec 32) (h : Sl u8v w a bs) (hl : bs.length ≤ 2147483648) :
    Calls Try.prog 63 #[.int .u32 s.toNat, .slice a bs.length c] w (Ret fun v w' => v = .int .u32 (onF s bs).toNat ∧ w' = w) := by
  have hsl := s.isLt
  refine calls_of_vc lok Try.func63 ?_ rfl
  conv => whnf
  intro z hz
  have hz37 : z = (s.toNat : Int) := by rw [hz]; exact wi64 (by omega)
  clear hz
  subst hz37
  conv => whnf
  refine ⟨by omega, ?_⟩
  rw [← not_nat]
  conv => whnf
  refine vcLoop_inv lok (σ := Nat × BitVec 32)
    (fun ⟨i, r⟩ => [(6, .int .i64 i), (5, .int .i64 r.toNat), (1, .slice a bs.length c)])
    (fun ⟨i, r⟩ w3 => i ≤ bs.length ∧ r = crcB (~~~s) (bitsF (bs.take i)) ∧ w3 = w) (fun s => bs.length - s.1)
    (0, ~~~s) ⟨rfl, rfl, rfl, trivial⟩ ⟨Nat.zero_le _, rfl, rfl⟩ ?_
  rintro ⟨i, r⟩ w3 ⟨hi, hr, rfl⟩
  conv => whnf
  refine vcCond_split lok rfl (fun h2 => ?_) (fun h2 => ?_)
  · have h2 := dt h2
    conv => whnf
    have hlt : i < bs.length := by omega
    have gx : bs.getD (i : Int).toNat default = bs[i] := by simp [List.getD, List.getElem?_eq_getElem hlt]
    have ets : bs.take (i + 1) = bs.take i ++ [bs[i]] := List.take_succ_eq_append_getElem hlt
    have g42 := (h).at ((i : Int)) (by omega) (by omega)
    obtain ⟨p42, o42, ha42, hcell42⟩ := g42
    refine ⟨p42, o42, ha42, ⟨by omega, by omega⟩, ?_⟩
    conv => whnf
    refine ⟨_, hcell42, ?_⟩
    conv => whnf
    rw [gx]
    generalize bs[i] = y at *
    have hyl := y.isLt
    intro z hz
    have hz43 : z = (y.toNat : Int) := by rw [hz]; exact wi64 (by omega)
    clear hz
    subst hz43
    conv => whnf
    refine vcLoop_inv lok (σ := Nat × BitVec 32 × Nat)
      (fun ⟨k, r, m⟩ => [(8, .int .i64 k), (7, .int .i64 m), (6, .int .i64 i), (5, .int .i64 r.toNat), (1, .slice a bs.length c)])
      (fun ⟨k, r, m⟩ w4 => k ≤ 8 ∧ r = crcB (~~~s) (bitsF (bs.take i) ++ (bits8 y).take k) ∧ m = y.toNat / 2 ^ k ∧ w4 = w3) (fun s => 8 - s.1)
      (0, r, y.toNat) ⟨rfl, rfl, rfl, rfl, rfl, trivial⟩ ⟨Nat.zero_le _, by rw [List.take_zero, List.append_nil]; exact hr, by simp, rfl⟩ ?_
    rintro ⟨k, r2, m⟩ w4 ⟨hk, hr2, hm, rfl⟩
    have hrl := r2.isLt
    conv => whnf
    refine vcCond_split lok rfl (fun h4 => ?_) (fun h4 => ?_)
    · have h4 := dt h4
      conv => whnf
      have hk8 : k < 8 := by omega
      refine ⟨by decide, ?_⟩
      intro z1 hz
      have hz47 : z1 = ((r2.toNat % 2 : Nat) : Int) := by rw [hz, Int.tmod_eq_emod_of_nonneg (by omega)]; omega
      clear hz
      subst hz47
      conv => whnf
      refine ⟨by decide, ?_⟩
      intro z2 hz
      have hz48 : z2 = ((m % 2 : Nat) : Int) := by rw [hz, Int.tmod_eq_emod_of_nonneg (by omega)]; omega
      clear hz
      subst hz48
      conv => whnf
      refine ⟨by decide, ?_⟩
      intro z3 hz
      have hz49 : z3 = ((r2 >>> 1).toNat : Int) := by rw [hz, Int.tdiv_eq_ediv_of_nonneg (by omega), wi64 (by omega), shr1_nat]; omega
      clear hz
      subst hz49
      conv => whnf
      refine ⟨by decide, ?_⟩
      have hml : m < 256 := by rw [hm]; exact Nat.lt_of_le_of_lt (Nat.div_le_self _ _) hyl
      intro z4 hz
      have hz50 : z4 = ((m / 2 : Nat) : Int) := by rw [hz, Int.tdiv_eq_ediv_of_nonneg (by omega), wi64 (by omega)]; omega
      clear hz
      subst hz50
      conv => whnf
      have em : m / 2 = y.toNat / 2 ^ (k + 1) := by rw [hm, Nat.div_div_eq_div_mul, Nat.pow_succ]
      have en : crcB (~~~s) (bitsF (bs.take i) ++ (bits8 y).take (k + 1)) = stepB r2 (y.getLsbD k) := by
        rw [bits8_take y k hk8, ← List.append_assoc, crcB_snoc, ← hr2]
      have eb : y.getLsbD k = decide (m % 2 = 1) := by rw [bit8_nat, hm]
      refine vcCond_split lok rfl (fun h5 => ?_) (fun h5 => ?_)
      · have h5 := ne_true h5
        conv => whnf
        intro z hz
        replace hz := hz.trans (xor64 (r2 >>> 1) 3988292384#32)
        subst hz
        conv => whnf
        refine ⟨by omega, ?_⟩
        conv => whnf
        refine ⟨(k + 1, (r2 >>> 1) ^^^ 3988292384#32, m / 2), ⟨rfl, rfl, rfl, rfl, rfl, trivial⟩, ⟨by omega, ?_, em, rfl⟩, Nat.sub_succ_lt_self 8 k hk8⟩
        rw [en, eb]
        unfold stepB
        rw [low_nat]
        have : (decide (r2.toNat % 2 = 1) ^^ decide (m % 2 = 1)) = true := by
          rcases Nat.mod_two_eq_zero_or_one r2.toNat with h6 | h6 <;> rcases Nat.mod_two_eq_zero_or_one m with h7 | h7 <;> simp [h6, h7] <;> omega
        rw [if_pos this]
        rfl
      · have h5 := ne_false h5
        conv => whnf
        refine ⟨by omega, ?_⟩
        conv => whnf
        refine ⟨(k + 1, (r2 >>> 1), m / 2), ⟨rfl, rfl, rfl, rfl, rfl, trivial⟩, ⟨by omega, ?_, em, rfl⟩, Nat.sub_succ_lt_self 8 k hk8⟩
        rw [en, eb]
        unfold stepB
        rw [low_nat]
        have : (decide (r2.toNat % 2 = 1) ^^ decide (m % 2 = 1)) = false := by
          rcases Nat.mod_two_eq_zero_or_one r2.toNat with h6 | h6 <;> rcases Nat.mod_two_eq_zero_or_one m with h7 | h7 <;> simp [h6, h7] <;> omega
        rw [this]
        simp
    · have h4 := df h4
      conv => whnf
      obtain rfl : k = 8 := by omega
      refine ⟨by omega, ?_⟩
      conv => whnf
      refine ⟨(i + 1, r2), ⟨rfl, rfl, rfl, trivial⟩, ⟨by omega, ?_, rfl⟩, Nat.sub_succ_lt_self _ _ hlt⟩
      have e8 : (bits8 y).take 8 = bits8 y := List.take_of_length_le (by rw [bits8_len]; exact Nat.le_refl _)
      rw [hr2, ets, bitsF_append, e8]
      have e : bitsF [y] = bits8 y := List.append_nil _
      rw [e]
  · have h2 := df h2
    conv => whnf
    obtain rfl : i = bs.length := by omega
    rw [List.take_length] at hr
    have hrl := r.isLt
    refine ⟨by omega, ?_⟩
    rw [← not_nat]
    conv => whnf
    intro z hz
    have hz61 : z = (((~~~r).toNat : Nat) : Int) := by rw [hz, w32]
    clear hz
    subst hz61
    conv => whnf
    exact ⟨by rw [hr]; rfl, rfl⟩
end Go.Proofs.Ytgipackjnncabaa
