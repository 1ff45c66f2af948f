/- The laws OctetRuns and OctetBack, walked. -/
import Derived.Test.YtgipackjnncabaaL02a
set_option linter.unusedVariables false
namespace Go.Vc
open Go.RowKit
theorem run_build0 {α : Type} {P : Program} {t e : TypeId} (f : α → Value) (he : Elem P t e) (w : World) :
    ∃ w', (Instr.buildSlice t 0 #[]).run P w = .ok (.slice (some ⟨w.heap.size, 0, none⟩) 0 0) w' ∧ Own e f w.heap.size w' (some ⟨w.heap.size, 0, none⟩) 0 [] ∧ Ext w w' := by
  refine ⟨_, run_buildN he [] (by simp) (by simp) w, ?_, Ext.new _ _⟩
  refine ⟨rfl, .inr ⟨_, 0, #[], rfl, Nat.le_refl _, heap_alloc_new w _, Nat.le_refl _, Nat.zero_le _, rfl, rfl⟩⟩
end Go.Vc
namespace Go.Proofs.Ytgipackjnncabaa
open Go.Vc Go.RowKit

theorem putRun_len (bs xs : List (BitVec 8)) (h1 : bs.length ≤ 1048576) (h2 : xs.length ≤ 1048576) : (putRunF bs xs).1.length ≤ 2147483648 := by
  unfold putRunF
  split
  · simp
  · simp; omega

theorem getRun_len (bs : List (BitVec 8)) (at_ : Int) (h1 : bs.length ≤ 1048576) : (getRunF bs at_).1.length ≤ 2147483648 := by
  unfold getRunF
  split
  · simp
  · split
    · simp
    · split
      · simp
      · simp; omega

theorem octetRuns_walk {w : World} {a b : Option Addr} {c d : Nat} {bs xs : List (BitVec 8)} (h : Sl u8v w a bs) (hb : Sl u8v w b xs) (hc : bs.length ≤ c) (hd : xs.length ≤ d) (at_ : Int) (hat : -9223372036854775808 ≤ at_) :
    Calls Try.prog 8 #[.slice a bs.length c, .slice b xs.length d, .int .i64 at_] w (Law w) := by
  refine calls_of_vc lok Try.func8 ?_ rfl
  conv => whnf
  refine vcReg_meet lok (fun β : Bool => [(27, .bool β)]) (fun β w' => w' = w ∧ β = decide (1048576 < bs.length ∨ 1048576 < xs.length)) [27] (fun _ => rfl) rfl ?_ ?_
  · conv => whnf
    refine bcase (fun h1 => ?_) (fun h1 => ?_)
    · conv => whnf
      exact ⟨_, ⟨rfl, trivial⟩, rfl, by have := dt h1; simp; omega⟩
    · conv => whnf
      exact ⟨_, ⟨rfl, trivial⟩, rfl, by have := df h1; rw [decide_eq_decide]; omega⟩
  rintro β w' ⟨rfl, hβ⟩
  conv => whnf
  refine vcCond_split lok rfl (fun h1 => ?_) (fun h1 => ?_)
  · conv => whnf
    refine Calls.ret known02 ?_
    rintro _ w1 ⟨rfl, hx1⟩
    conv => whnf
    exact ⟨rfl, hx1⟩
  rw [hβ] at h1
  have hl := df h1
  conv => whnf
  refine Calls.ret (lent_calls h (by omega)) ?_
  rintro _ w1 ⟨a1, c1, rfl, ho1, hx1⟩
  have hs1 : Sl u8v w1 a1 bs := by simpa using ho1.sl.take bs.length
  have hc1 : bs.length + 1 ≤ c1 := by simpa using ho1.le.1
  conv => whnf
  refine Calls.ret (lent_calls (hb.ext hx1) (by omega)) ?_
  rintro _ w2 ⟨a2, c2, rfl, ho2, hx2⟩
  have hs2 : Sl u8v w2 a2 xs := by simpa using ho2.sl.take xs.length
  have hc2 : xs.length + 1 ≤ c2 := by simpa using ho2.le.1
  conv => whnf
  refine Calls.ret (putRun_calls (hs1.ext hx2) hs2 (by omega) (by omega)) ?_
  rintro _ w3 ⟨a3, c3, rfl, ho3, hx3⟩
  conv => whnf
  have e3 : Ext _ w3 := (hx1.trans hx2).trans hx3
  refine Calls.ret (rputRun_calls (h.ext e3) (hb.ext e3) (by omega) (by omega)) ?_
  rintro _ w4 ⟨a4, c4, rfl, ho4, hx4⟩
  conv => whnf
  refine Calls.ret (getRun_calls (((hs1.ext hx2).ext hx3).ext hx4) (by omega) (by omega) at_ hat) ?_
  rintro _ w5 ⟨a5, c5, rfl, ho5, hx5⟩
  conv => whnf
  refine Calls.ret (rgetRun_calls (h.ext ((e3.trans hx4).trans hx5)) (by omega) hc at_ hat) ?_
  rintro _ w6 ⟨a6, c6, rfl, ho6, hx6⟩
  conv => whnf
  have x36 : Ext w3 w6 := (hx4.trans hx5).trans hx6
  have ho3' := ho3.ext x36
  have ho5' := ho5.ext hx6
  refine vcReg_meet lok (fun β : Bool => [(19, .bool β)]) (fun β w' => w' = w6 ∧ β = true) [19] (fun _ => rfl) rfl ?_ ?_
  · conv => whnf
    refine ⟨_, run_toStr ho3'.sl, ?_⟩
    conv => whnf
    refine ⟨_, run_toStr (ho4.ext (hx5.trans hx6)).sl, ?_⟩
    conv => whnf
    intro β hβ
    obtain rfl : β = true := by rw [str_eq hβ rfl rfl]; simp
    conv => whnf
    refine bcase (fun h5 => ?_) (fun h5 => absurd rfl (df h5))
    conv => whnf
    refine ⟨_, run_toStr ho5'.sl, ?_⟩
    conv => whnf
    refine ⟨_, run_toStr ho6.sl, ?_⟩
    conv => whnf
    intro β hβ
    obtain rfl : β = true := by rw [str_eq hβ rfl rfl]; simp
    conv => whnf
    refine bcase (fun h5 => ?_) (fun h5 => absurd rfl (df h5))
    conv => whnf
    exact ⟨_, ⟨rfl, trivial⟩, rfl, by simp⟩
  rintro _ _ ⟨rfl, rfl⟩
  conv => whnf
  have z1 := hx1.size
  have z2 := hx2.size
  have z3 := hx3.size
  have z4 := hx4.size
  have z5 := hx5.size
  have z6 := hx6.size
  refine Calls.ret (spoil_calls ho3' (by omega) (putRun_len bs xs (by omega) (by omega))) ?_
  rintro _ w7 ⟨rfl, hg7⟩
  have x27 : Ext w2 w7 := hg7.extOf (hx3.trans x36) (fun g hg => (ho3'.ge g hg).1)
  have z7 := x27.size
  conv => whnf
  have ho5'' : Own 5 u8v w4.heap.size w7 a5 c5 (getRunF bs at_).1 := hg7.keepOwn ho5' (fun g hg h3 => by
    have h6 := (ho3.ge g h3).2
    have h7 := (ho5.ge g hg).1
    omega)
  refine Calls.ret (spoil_calls ho5'' (by have := hg7.size; omega) (getRun_len bs at_ (by omega))) ?_
  rintro _ w8 ⟨rfl, hg8⟩
  have x28 : Ext w2 w8 := hg8.extOf x27 (fun g hg => by have := (ho5'.ge g hg).1; omega)
  conv => whnf
  refine vcReg_go lok ?_
  conv => whnf
  refine Calls.ret (kept_calls (ho1.ext (hx2.trans x28)).sl (h.ext ((hx1.trans hx2).trans x28)) hc1 (by omega)) ?_
  rintro _ _ ⟨rfl, rfl⟩
  conv => whnf
  refine Calls.ret (kept_calls (ho2.ext x28).sl (hb.ext ((hx1.trans hx2).trans x28)) hc2 (by omega)) ?_
  rintro _ _ ⟨rfl, rfl⟩
  conv => whnf
  refine Calls.ret known02 ?_
  rintro _ w9 ⟨rfl, hx9⟩
  conv => whnf
  exact ⟨rfl, ((hx1.trans hx2).trans x28).trans hx9⟩

theorem decN_enc : ∀ (k n : Nat), decN (enc k n) = n % 256 ^ k
  | 0, n => by simp [enc, decN, Nat.mod_one]
  | k + 1, n => by
    rw [enc_succ, decN_append, decN_single, enc_len, decN_enc k n, BitVec.toNat_ofNat, show (2 : Nat) ^ 8 = 256 from rfl]
    exact (Nat.mod_pow_succ).symm

theorem shl_pow (k : Nat) (hk : k < 8) : IntKind.u64.wrap ((1 : Int) * 2 ^ (min ((8 * (k : Int))).toNat IntKind.u64.bits)) = ((256 ^ k : Nat) : Int) := by
  have e1 : min (8 * (k : Int)).toNat IntKind.u64.bits = 8 * k := by
    show min (8 * (k : Int)).toNat 64 = 8 * k
    omega
  rw [e1, wu64, Int.one_mul, Int.pow_mul, show (2 : Int) ^ 8 = ((256 : Nat) : Int) from by decide, ← Int.natCast_pow]
  have : 256 ^ k ≤ 256 ^ 7 := Nat.pow_le_pow_right (by decide) (by omega)
  have h7 : (256 : Nat) ^ 7 = 72057594037927936 := by decide
  rw [h7] at this
  generalize 256 ^ k = m at this ⊢
  omega

theorem get_back (bs ts : List (BitVec 8)) (k v : Nat) (h1 : 1 ≤ k) (h2 : k ≤ 8) (hv : v < 256 ^ k) : getF (bs ++ enc k v ++ ts) bs.length k = (v, 0) := by
  unfold getF
  rw [if_neg (by simp; omega), if_neg (by simp [enc_len]; omega)]
  have : ((bs ++ enc k v ++ ts).drop (bs.length : Int).toNat).take (k : Int).toNat = enc k v := by
    rw [Int.toNat_natCast, Int.toNat_natCast, List.append_assoc, List.drop_left, List.take_append_of_le_length (by rw [enc_len]; exact Nat.le_refl _), List.take_of_length_le (by rw [enc_len]; exact Nat.le_refl _)]
  rw [this, decN_enc, Nat.mod_eq_of_lt hv]

/-- the number as it is cut to k bytes -/
def cutN (n k : Nat) : Nat := if k < 8 then n % 256 ^ k else n

theorem cutN_lt (n k : Nat) (hn : n < 2 ^ 64) (hk : k ≤ 8) : cutN n k < 256 ^ k := by
  unfold cutN
  split
  · exact Nat.mod_lt _ (Nat.pow_pos (by decide))
  · have : k = 8 := by omega
    subst this; exact hn

theorem octetBack_walk {w : World} {a b : Option Addr} {c d : Nat} {bs xs : List (BitVec 8)} (h : Sl u8v w a bs) (hb : Sl u8v w b xs) (hc : bs.length ≤ c) (n : Nat) (hn : n < 2 ^ 64) :
    Calls Try.prog 5 #[.slice a bs.length c, .int .u64 n, .slice b xs.length d] w (Law w) := by
  refine calls_of_vc lok Try.func5 ?_ rfl
  conv => whnf
  refine vcReg_meet lok (fun β : Bool => [(21, .bool β)]) (fun β w' => w' = w ∧ β = decide (65536 < bs.length ∨ 65536 < xs.length)) [21] (fun _ => rfl) rfl ?_ ?_
  · conv => whnf
    refine bcase (fun h1 => ?_) (fun h1 => ?_)
    · conv => whnf
      exact ⟨_, ⟨rfl, trivial⟩, rfl, by have := dt h1; simp; omega⟩
    · conv => whnf
      exact ⟨_, ⟨rfl, trivial⟩, rfl, by have := df h1; rw [decide_eq_decide]; omega⟩
  rintro β w' ⟨hw, hβ⟩
  subst hw
  conv => whnf
  refine vcCond_split lok rfl (fun h1 => ?_) (fun h1 => ?_)
  · conv => whnf
    refine Calls.ret known02 ?_
    rintro _ w1 ⟨rfl, hx1⟩
    conv => whnf
    exact ⟨rfl, hx1⟩
  rw [hβ] at h1
  have hl := df h1
  conv => whnf
  refine vcLoop_inv lok (σ := Nat)
    (fun k => [(7, .int .i64 k), (0, .slice a bs.length c), (1, .int .u64 n), (2, .slice b xs.length d), (6, .bool false)])
    (fun k w1 => 1 ≤ k ∧ k ≤ 9 ∧ Ext w' w1) (fun k => 9 - k)
    1 ⟨rfl, rfl, rfl, rfl, rfl, trivial⟩ ⟨by omega, by omega, Ext.refl _⟩ ?_
  rintro k w1 ⟨hk1, hk9, hx1⟩
  conv => whnf
  refine vcCond_split lok rfl (fun h2 => ?_) (fun h2 => ?_)
  rotate_left
  · conv => whnf
    refine Calls.ret known02 ?_
    rintro _ w2 ⟨rfl, hx2⟩
    conv => whnf
    exact ⟨rfl, hx1.trans hx2⟩
  have hk8 : k ≤ 8 := by have := dt h2; omega
  conv => whnf
  refine vcCond_meet (fun v : Nat => [(8, .int .u64 v), (7, .int .i64 k), (0, .slice a bs.length c), (1, .int .u64 n), (2, .slice b xs.length d), (6, .bool false)]) (fun v w2 => w2 = w1 ∧ v = cutN n k) ?_ ?_
  · refine vcCond_split lok rfl (fun h3 => ?_) (fun h3 => ?_)
    · have h3 := dt h3
      conv => whnf
      refine ⟨by omega, ?_⟩
      conv => whnf
      intro z hz
      obtain rfl : z = 8 * (k : Int) := by rw [hz, wu64]; omega
      conv => whnf
      refine ⟨by omega, ?_⟩
      intro z2 hz2
      rw [shl_pow k (by omega)] at hz2
      subst hz2
      conv => whnf
      refine ⟨by have : 0 < 256 ^ k := Nat.pow_pos (by decide); omega, ?_⟩
      intro z3 hz3
      rw [Int.tmod_eq_emod_of_nonneg (by omega), ← Int.natCast_emod] at hz3
      subst hz3
      conv => whnf
      exact ⟨n % 256 ^ k, ⟨rfl, rfl, rfl, rfl, rfl, rfl, trivial⟩, rfl, by unfold cutN; rw [if_pos (by omega)]⟩
    · have h3 := df h3
      conv => whnf
      exact ⟨n, ⟨rfl, rfl, rfl, rfl, rfl, rfl, trivial⟩, rfl, by unfold cutN; rw [if_neg (by omega)]⟩
  rintro v w2 ⟨hw2, hv⟩
  subst hw2
  have hv2 : v < 256 ^ k := by rw [hv]; exact cutN_lt n k hn hk8
  have hv3 : v < 2 ^ 64 := Nat.lt_of_lt_of_le hv2 (Nat.pow_le_pow_right (n := 256) (by decide) hk8)
  conv => whnf
  refine Calls.ret (put_calls (h.ext hx1) (by omega) k v hv3) ?_
  have ep : putF bs k v = (bs ++ enc k v, 0) := by
    unfold putF
    rw [if_neg (by omega), if_neg (by rw [Int.toNat_natCast]; omega), Int.toNat_natCast]
  rw [ep]
  rintro _ w3 ⟨a3, c3, rfl, ho3, hx3⟩
  have hl3 : (bs ++ enc k v).length = bs.length + k := by simp [enc_len]
  have hle3 := ho3.le
  conv => whnf
  refine vcDraw_go lok mixed (fun w1 => w1 = w3.drew) [] [0, 1, 2, 3, 4, 5, 6, 7, 8, 9, 10, 11, 12, 13, 14, 15, 16, 17, 18, 19, 20] (by kernel_rfl) fun w4 hw4 => ⟨hw4, ?_⟩
  have x4 : Ext w3 w4 := hw4 ▸ Ext.drew w3
  conv => whnf
  refine ⟨by omega, ?_⟩
  conv => whnf
  refine bcase (fun h5 => absurd (show ((bs ++ enc k v).length : Int) = bs.length + k by rw [hl3]; omega) (ne_true h5)) (fun h5 => ?_)
  conv => whnf
  refine ⟨⟨by omega, by rw [hl3] at hle3; omega⟩, ?_⟩
  conv => whnf
  have ho4 := ho3.ext x4
  have hs4 : Sl u8v w4 a3 bs := by
    have := ho4.sl.take bs.length
    rwa [List.take_left] at this
  refine ⟨_, fun w5 hw5 => by rw [hw5, ← hw4]; exact run_toStr hs4, ?_⟩
  conv => whnf
  refine ⟨_, fun w5 hw5 => by rw [hw5, ← hw4]; exact run_toStr ((h.ext hx1).ext (hx3.trans x4)), ?_⟩
  conv => whnf
  intro γ hγ
  obtain rfl : γ = true := by rw [str_eq hγ rfl rfl]; simp
  conv => whnf
  refine vcCond_false lok rfl ?_
  conv => whnf
  obtain ⟨w5, hr5, ho5, hx5⟩ := run_build0 (f := u8v) e8.toElem w4
  refine ⟨_, _, hr5, ?_⟩
  conv => whnf
  obtain ⟨a6, c6, w6, hr6, ho6, hg6, _⟩ := ho5.append (ty := 22) (d := c3) e8.toElem (fun _ => rfl) (ho4.sl.ext hx5) (by simp [enc_len]; omega) hx5.size
  refine ⟨_, _, hr6, ?_⟩
  have hx6 : Ext w4 w6 := hg6.extOf hx5 (fun g hg => (ho5.ge g hg).1)
  conv => whnf
  obtain ⟨a7, c7, w7, hr7, ho7, hg7, _⟩ := ho6.append (ty := 22) (d := d) e8.toElem (fun _ => rfl) (hb.ext (((hx1.trans hx3).trans x4).trans hx6)) (by simp [enc_len]; omega) hx6.size
  refine ⟨_, _, hr7, ?_⟩
  have hx7 : Ext w4 w7 := hg7.extOf hx6 (fun g hg => (ho6.ge g hg).1)
  conv => whnf
  have hs7 : Sl u8v w7 a7 (bs ++ enc k v ++ xs) := by simpa using ho7.sl
  have hl7 : ([] ++ (bs ++ enc k v, 0).1 ++ xs).length = (bs ++ enc k v ++ xs).length := by simp
  rw [hl7]
  refine Calls.ret (get_calls hs7 (by simp [enc_len]; omega) bs.length k (by omega)) ?_
  rw [get_back bs xs k v hk1 hk8 hv2]
  rintro _ w8 ⟨rfl, rfl⟩
  conv => whnf
  refine vcReg_go lok ?_
  conv => whnf
  refine vcCond_split lok rfl (fun h8 => absurd rfl (ne_true h8)) (fun h8 => ?_)
  conv => whnf
  refine ⟨by omega, ?_⟩
  conv => whnf
  refine ⟨k + 1, ⟨rfl, rfl, rfl, rfl, rfl, trivial⟩, ⟨by omega, by omega, ((hx1.trans hx3).trans x4).trans hx7⟩, ?_⟩
  omega

end Go.Proofs.Ytgipackjnncabaa
