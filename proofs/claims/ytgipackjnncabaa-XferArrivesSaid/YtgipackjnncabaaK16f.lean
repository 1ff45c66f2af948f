/- Own texts of this claim, joined: L03b, W23e, W23f, W23g, W23h. -/
import Derived.Test.YtgipackjnncabaaK16e

/- The laws CrcLinear and CrcTurned, walked. -/
set_option linter.unusedVariables false
namespace Go.Proofs.Ytgipackjnncabaa
open Go.Vc Go.RowKit

/-- Count -/
theorem count_calls {w : World} (n most : Int) (hn : -9223372036854775808 ≤ n ∧ n ≤ 9223372036854775807) (h1 : 1 ≤ most) (h2 : most ≤ 4294967296) :
    Calls Try.prog 84 #[.int .i64 n, .int .i64 most] w (Ret fun v w' => v = .int .i64 (n % most) ∧ w' = w) := by
  have e0 := Int.emod_nonneg n (show most ≠ 0 by omega)
  have e1 := Int.emod_lt_of_pos n (show 0 < most by omega)
  have e2 : n.tmod most = n % most ∨ (n.tmod most < 0 ∧ n.tmod most + most = n % most) := by
    rw [Int.tmod_eq_emod]
    split
    · exact .inl (by omega)
    · rename_i h
      have e3 : (most.natAbs : Int) = most := by omega
      rw [e3]
      by_cases h0 : n % most = 0
      · exfalso
        exact h (.inr (Int.dvd_of_emod_eq_zero h0))
      · right; omega
  refine calls_of_vc lok Try.func84 ?_ rfl
  conv => whnf
  refine ⟨by omega, ?_⟩
  intro z hz
  rw [← hz] at e2
  clear hz
  conv => whnf
  refine vcCond_split lok rfl (fun h3 => ?_) (fun h3 => ?_)
  · have h3 := dt h3
    conv => whnf
    refine ⟨by omega, ?_⟩
    conv => whnf
    have e : z + most = n % most := by omega
    rw [e]
    exact ⟨rfl, rfl⟩
  · have h3 := df h3
    conv => whnf
    have e : z = n % most := by omega
    rw [e]
    exact ⟨rfl, rfl⟩

/-- the first i elements of a list, others behind -/
def preF {α : Type} (d : α) (xs : List α) (i : Nat) : List α := xs.take i ++ List.replicate (xs.length - i) d
theorem preF_len {α : Type} (d : α) (xs : List α) (i : Nat) (hi : i ≤ xs.length) : (preF d xs i).length = xs.length := by
  unfold preF
  rw [List.length_append, List.length_take, List.length_replicate]; omega
theorem preF_succ {α : Type} (d : α) (xs : List α) (i : Nat) (hi : i < xs.length) : (preF d xs i).set i xs[i] = preF d xs (i + 1) := by
  unfold preF
  have hl : (xs.take i).length = i := by rw [List.length_take]; omega
  rw [List.set_append_right _ _ (by omega), hl, Nat.sub_self, show xs.length - i = (xs.length - (i + 1)) + 1 by omega, List.replicate_succ, List.set_cons_zero, List.take_succ_eq_append_getElem hi, List.append_assoc]
  rfl
theorem preF_all {α : Type} (d : α) (xs : List α) : preF d xs xs.length = xs := by
  unfold preF
  rw [List.take_length, Nat.sub_self]
  simp

set_option maxHeartbeats 2000000 in
theorem crcLinear_walk {w : World} {a b e : Option Addr} {c d f : Nat} {xs ys zs : List (BitVec 8)} (h : Sl u8v w a xs) (hb : Sl u8v w b ys) (he : Sl u8v w e zs) (hc : xs.length ≤ c) (hd : ys.length ≤ d) (hf : zs.length ≤ f) :
    Calls Try.prog 15 #[.slice a xs.length c, .slice b ys.length d, .slice e zs.length f] w (Law w) := by
  refine calls_of_vc lok Try.func15 ?_ rfl
  conv => whnf
  refine vcReg_meet lok (fun β : Bool => [(22, .bool β)]) (fun β w' => w' = w ∧ β = decide (65536 < xs.length ∨ 65536 < ys.length ∨ 65536 < zs.length)) [22] (fun _ => rfl) rfl ?_ ?_
  · conv => whnf
    refine bcase (fun h1 => ?_) (fun h1 => ?_)
    · conv => whnf
      exact ⟨_, ⟨rfl, trivial⟩, rfl, by have := dt h1; simp; omega⟩
    · conv => whnf
      refine bcase (fun h2 => ?_) (fun h2 => ?_)
      · conv => whnf
        exact ⟨_, ⟨rfl, trivial⟩, rfl, by have := dt h2; simp; omega⟩
      · conv => whnf
        exact ⟨_, ⟨rfl, trivial⟩, rfl, by have := df h1; have := df h2; rw [decide_eq_decide]; omega⟩
  rintro β w' ⟨rfl, hβ⟩
  conv => whnf
  refine vcCond_split lok rfl (fun h1 => ?_) (fun h1 => ?_)
  · conv => whnf
    refine Calls.ret (known03) ?_
    rintro _ w1 ⟨rfl, hx1⟩
    conv => whnf
    exact ⟨rfl, hx1⟩
  rw [hβ] at h1
  have hl := df h1
  conv => whnf
  have hn : ∃ n : Nat, (if (zs.length : Int) < (if (ys.length : Int) < (xs.length : Int) then (ys.length : Int) else (xs.length : Int)) then (zs.length : Int) else (if (ys.length : Int) < (xs.length : Int) then (ys.length : Int) else (xs.length : Int))) = (n : Int) ∧ n ≤ xs.length ∧ n ≤ ys.length ∧ n ≤ zs.length := by
    refine ⟨min (min xs.length ys.length) zs.length, ?_, by omega, by omega, by omega⟩
    split <;> split <;> omega
  obtain ⟨n, en, hnx, hny, hnz⟩ := hn
  rw [en]
  clear en
  have g1 := run_makeOwn e8 w'.heap.size w' (Nat.le_refl _) n n (Nat.le_refl _) (by omega)
  obtain ⟨w1, hr1, ho1, hx1⟩ := g1
  refine ⟨_, _, hr1, ?_⟩
  rw [List.length_replicate]
  have exl : (xs.take n).length = n := by rw [List.length_take]; omega
  have eyl : (ys.take n).length = n := by rw [List.length_take]; omega
  have ezl : (zs.take n).length = n := by rw [List.length_take]; omega
  have elin := sum_linear (xs.take n) (ys.take n) (zs.take n) (by omega) (by omega)
  have eget : ∀ i, ∀ hi : i < (xorB (xorB (xs.take n) (ys.take n)) (zs.take n)).length, ∀ h1 : i < xs.length, ∀ h2 : i < ys.length, ∀ h3 : i < zs.length, (xorB (xorB (xs.take n) (ys.take n)) (zs.take n))[i] = xs[i] ^^^ ys[i] ^^^ zs[i] := by
    intro i hi h1 h2 h3
    simp [xorB]
  have eXl : (xorB (xorB (xs.take n) (ys.take n)) (zs.take n)).length = n := by simp [xorB]; omega
  generalize xorB (xorB (xs.take n) (ys.take n)) (zs.take n) = X at *
  conv => whnf
  refine vcLoop_inv lok (σ := Nat)
    (fun i => [(9, .int .i64 i), (8, .slice (some ⟨w'.heap.size, 0, none⟩) n n), (7, .int .i64 n), (0, .slice a xs.length c), (1, .slice b ys.length d), (2, .slice e zs.length f)])
    (fun i w2 => i ≤ n ∧ Own 5 u8v w'.heap.size w2 (some ⟨w'.heap.size, 0, none⟩) n (preF 0#8 X i) ∧ Ext w' w2) (fun i => n - i)
    0 ⟨rfl, rfl, rfl, rfl, rfl, rfl, trivial⟩ ⟨Nat.zero_le _, by unfold preF; rw [List.take_zero, List.nil_append, eXl]; exact ho1, hx1⟩ ?_
  rintro i w2 ⟨hi, ho2, hx2⟩
  conv => whnf
  refine vcCond_split lok rfl (fun h2 => ?_) (fun h2 => ?_)
  · have h2 := dt h2
    conv => whnf
    have hin : i < n := by omega
    refine vcDraw_go lok mixed (fun w1 => w1 = w2.drew) [] [0, 1, 2, 3, 4, 5, 6, 7, 8, 9, 10, 11, 12, 13, 14, 15, 16, 17] (by kernel_rfl) fun w3 hw3 => ⟨hw3, ?_⟩
    have x3 : Ext w2 w3 := hw3 ▸ Ext.drew w2
    have x03 := hx2.trans x3
    have gx : xs.getD (i : Int).toNat default = xs[i] := by simp [List.getD, List.getElem?_eq_getElem (show i < xs.length by omega)]
    have gy : ys.getD (i : Int).toNat default = ys[i] := by simp [List.getD, List.getElem?_eq_getElem (show i < ys.length by omega)]
    have gz : zs.getD (i : Int).toNat default = zs[i] := by simp [List.getD, List.getElem?_eq_getElem (show i < zs.length by omega)]
    have g1 := (h.ext x03).at (i : Int) (by omega) (by omega)
    have g2 := (hb.ext x03).at (i : Int) (by omega) (by omega)
    have g3 := (he.ext x03).at (i : Int) (by omega) (by omega)
    rw [gx] at g1
    rw [gy] at g2
    rw [gz] at g3
    have egi := eget i (by omega) (by omega) (by omega) (by omega)
    have eset := preF_succ 0#8 X i (by omega)
    rw [egi] at eset
    obtain ⟨p1, o1, ha1, hc1⟩ := g1
    obtain ⟨p2, o2, ha2, hc2⟩ := g2
    obtain ⟨p3, o3, ha3, hc3⟩ := g3
    generalize xs[i] = x at *
    generalize ys[i] = y at *
    generalize zs[i] = q at *
    conv => whnf
    refine ⟨p1, o1, ha1, ⟨by omega, by omega⟩, ?_⟩
    conv => whnf
    refine ⟨_, fun w5 hw5 => by rw [hw5, ← hw3]; exact hc1, ?_⟩
    conv => whnf
    refine ⟨p2, o2, ha2, ⟨by omega, by omega⟩, ?_⟩
    conv => whnf
    refine ⟨_, fun w5 hw5 => by rw [hw5, ← hw3]; exact hc2, ?_⟩
    conv => whnf
    intro z hz
    replace hz := hz.trans (xor8 x y)
    subst hz
    conv => whnf
    refine ⟨p3, o3, ha3, ⟨by omega, by omega⟩, ?_⟩
    conv => whnf
    refine ⟨_, fun w5 hw5 => by rw [hw5, ← hw3]; exact hc3, ?_⟩
    conv => whnf
    intro z hz
    replace hz := hz.trans (xor8 (x ^^^ y) q)
    subst hz
    conv => whnf
    have hpl := preF_len 0#8 X i (by omega)
    have g5 := (ho2.ext x3).store (i : Int) (by omega) (by omega)
    obtain ⟨g, hg, hk1, hk2, hBg, hgw, hst⟩ := g5
    have g6 := hst (x ^^^ y ^^^ q)
    obtain ⟨ho5, hg5⟩ := g6
    rw [show (i : Int).toNat = i from rfl, eset] at ho5
    rw [show (i : Int).toNat = i from rfl] at hg5
    refine ⟨g, 0, hg, ⟨by omega, by omega⟩, ?_⟩
    conv => whnf
    refine ⟨⟨rfl, hk1, hk2⟩, fun w5 hw5 => ?_⟩
    have hw6 : w5 = w3.setCell ⟨g, 0 + i, none⟩ (u8v (x ^^^ y ^^^ q)) := hw5
    rw [← hw6] at ho5 hg5
    clear hw5 hw6
    conv => whnf
    refine ⟨by omega, ?_⟩
    conv => whnf
    exact ⟨i + 1, ⟨rfl, rfl, rfl, rfl, rfl, rfl, trivial⟩, ⟨by omega, ho5, hg5.extOf x03 (fun g' hg' => by cases hg'; exact hBg)⟩, by omega⟩
  · have h2 := df h2
    conv => whnf
    have hin : i = n := by omega
    subst hin
    have eall : preF 0#8 X i = X := by rw [← eXl]; exact preF_all 0#8 X
    rw [eall] at ho2
    refine vcDraw_meet lok mixed (Ext w2) [] [0, 2, 3, 4, 6, 7, 8, 11, 12, 13, 1, 5, 9, 10, 14, 15, 16, 17, 18, 19, 20]
      (fun _ : Unit => [(6, .bool true)]) (fun _ w3 => Ext w2 w3) [6] (fun _ => rfl) rfl (by kernel_rfl) (fun w3 hw3 => ⟨hw3 ▸ Ext.drew w2, ?_⟩) ?_
    · have x3 : Ext w2 w3 := hw3 ▸ Ext.drew w2
      have x03 := hx2.trans x3
      conv => whnf
      refine ⟨by omega, ?_⟩
      conv => whnf
      refine ⟨by omega, ?_⟩
      conv => whnf
      refine ⟨by omega, ?_⟩
      conv => whnf
      have gX := sum_calls (c := i) (ho2.ext x3).sl (by omega)
      rw [eXl] at gX
      refine Calls.ret (gX) ?_
      rintro _ w4 ⟨rfl, hx4⟩
      conv => whnf
      have ga := sum_calls (c := c) ((h.ext (x03.trans hx4)).take i) (by omega)
      rw [exl] at ga
      refine Calls.ret (ga) ?_
      rintro _ w5 ⟨rfl, hx5⟩
      conv => whnf
      have gb := sum_calls (c := d) ((hb.ext ((x03.trans hx4).trans hx5)).take i) (by omega)
      rw [eyl] at gb
      refine Calls.ret (gb) ?_
      rintro _ w6 ⟨rfl, hx6⟩
      conv => whnf
      intro z hz
      replace hz := hz.trans (xor32 (sumF (xs.take i)) (sumF (ys.take i)))
      subst hz
      conv => whnf
      have gc := sum_calls (c := f) ((he.ext (((x03.trans hx4).trans hx5).trans hx6)).take i) (by omega)
      rw [ezl] at gc
      refine Calls.ret (gc) ?_
      rintro _ w7 ⟨rfl, hx7⟩
      conv => whnf
      intro z hz
      replace hz := hz.trans (xor32 (sumF (xs.take i) ^^^ sumF (ys.take i)) (sumF (zs.take i)))
      subst hz
      conv => whnf
      rw [← elin]
      refine bcase (fun h5 => ?_) (fun h5 => absurd rfl (df h5))
      conv => whnf
      refine Calls.ret (known03) ?_
      rintro _ w8 ⟨rfl, hx8⟩
      conv => whnf
      exact ⟨(), ⟨rfl, trivial⟩, ((((x3.trans hx4).trans hx5).trans hx6).trans hx7).trans hx8⟩
    rintro _ w3 x3
    conv => whnf
    exact ⟨rfl, hx2.trans x3⟩

theorem shr_bit32 (x : BitVec 32) (k : Nat) : (x >>> k) &&& 1#32 = if x.getLsbD k = true then 1#32 else 0#32 := by
  rw [and_one, BitVec.getLsbD_ushiftRight, Nat.add_zero]

theorem bits_ext {s t : List (BitVec 8)} (hl : s.length = t.length) (h : ∀ j, j < 8 * s.length → bitAt s j = bitAt t j) : s = t := by
  apply List.ext_getElem hl
  intro p hp hq
  apply BitVec.eq_of_getLsbD_eq
  intro q hq8
  have := h (8 * p + q) (by omega)
  unfold bitAt at this
  rw [show (8 * p + q) / 8 = p by omega, show (8 * p + q) % 8 = q by omega] at this
  simpa [List.getD, List.getElem?_eq_getElem hp, List.getElem?_eq_getElem hq] using this

/-- what is turned is opened just where nothing was turned -/
theorem open_turned (bs ss : List (BitVec 8)) (k i : Nat) (x : BitVec 32) (hi : i ≤ 32) (hk : k + i ≤ 8 * (bs.length + 4)) (hl : ss.length = bs.length + 4)
    (hb : ∀ j, j < 8 * (bs.length + 4) → bitAt ss j = (bitAt (sealF bs) j ^^ burstE k i x j)) :
    openF ss = if (∃ j, j < i ∧ x.getLsbD j = true) then ([], 5) else (bs, 0) := by
  have h4 : ¬ ss.length < 4 := by omega
  have e1 : ss.length - 4 = bs.length := by omega
  have ht : (enc 4 (sumF bs).toNat).length = 4 := enc_len _ _
  have ht' : (ss.drop bs.length).length = 4 := by rw [List.length_drop]; omega
  have hs : sumF bs = BitVec.ofNat 32 (decN (enc 4 (sumF bs).toNat)) := by
    rw [decN_enc]
    apply BitVec.eq_of_toNat_eq
    have := (sumF bs).isLt
    rw [BitVec.toNat_ofNat, show (256 : Nat) ^ 4 = 2 ^ 32 from rfl, Nat.mod_mod, Nat.mod_eq_of_lt this]
  have key := turned_sealed bs (enc 4 (sumF bs).toNat) (ss.take bs.length) (ss.drop bs.length) k i x ht ht' (by rw [List.length_take]; omega) hi hk hs (by
    rw [List.take_append_drop]; exact hb)
  by_cases hx : ∃ j, j < i ∧ x.getLsbD j = true
  · rw [if_pos hx]
    unfold openF
    rw [if_neg h4, e1, if_neg]
    intro h
    obtain ⟨j, hj, hxj⟩ := hx
    rw [key.1 h j hj] at hxj
    cases hxj
  · rw [if_neg hx]
    have e2 : ss = sealF bs := by
      apply bits_ext (by rw [hl, sealF_len])
      intro j hj
      rw [hb j (by omega)]
      have : burstE k i x j = false := by
        unfold burstE
        by_cases h1 : k ≤ j
        · by_cases h2 : j < k + i
          · cases h3 : x.getLsbD (j - k) with
            | false => simp
            | true => exact absurd ⟨j - k, by omega, h3⟩ hx
          · simp [h2]
        · simp [h1]
      rw [this, Bool.xor_false]
    rw [e2, open_seal]

set_option maxHeartbeats 4000000 in
theorem crcTurned_walk {w : World} {a : Option Addr} {c : Nat} {bs : List (BitVec 8)} (h : Sl u8v w a bs) (at_ : Int) (hat : -9223372036854775808 ≤ at_ ∧ at_ ≤ 9223372036854775807) (x : BitVec 32) :
    Calls Try.prog 14 #[.slice a bs.length c, .int .i64 at_, .int .u32 x.toNat] w (Law w) := by
  refine calls_of_vc lok Try.func14 ?_ rfl
  conv => whnf
  refine vcCond_split lok rfl (fun h1 => ?_) (fun h1 => ?_)
  · conv => whnf
    refine Calls.ret (known03) ?_
    rintro _ w1 ⟨rfl, hx1⟩
    conv => whnf
    exact ⟨rfl, hx1⟩
  have h1 := df h1
  conv => whnf
  refine Calls.ret (seal_calls h (by omega)) ?_
  rintro _ w1 ⟨a1, c1, rfl, ho1, hx1⟩
  conv => whnf
  have hsl := sealF_len bs
  refine ⟨by omega, ?_⟩
  conv => whnf
  refine vcCond_split lok rfl (fun h2 => absurd (show ((sealF bs).length : Int) = (bs.length : Int) + 4 by omega) (ne_true h2)) (fun _ => ?_)
  conv => whnf
  refine ⟨by omega, ?_⟩
  conv => whnf
  refine Calls.ret (count_calls at_ (8 * ((sealF bs).length : Int)) hat (by omega) (by omega)) ?_
  rintro _ w2 ⟨rfl, hw2⟩
  conv => whnf
  subst hw2
  have hk : ∃ k : Nat, at_ % (8 * ((sealF bs).length : Int)) = (k : Int) ∧ k < 8 * (bs.length + 4) := by
    have e0 := Int.emod_nonneg at_ (show (8 * ((sealF bs).length : Int)) ≠ 0 by omega)
    have e1 := Int.emod_lt_of_pos at_ (show 0 < (8 * ((sealF bs).length : Int)) by omega)
    exact ⟨(at_ % (8 * ((sealF bs).length : Int))).toNat, by omega, by omega⟩
  obtain ⟨k, ek, hkl⟩ := hk
  rw [ek]
  conv => whnf
  refine vcLoop_inv lok (σ := Nat × Bool × List (BitVec 8))
    (fun ⟨i, t, ss⟩ => [(11, .int .i64 i), (10, .bool t), (9, .int .i64 k), (8, .int .i64 (8 * ((sealF bs).length : Int))), (7, .slice a1 (sealF bs).length c1), (2, .int .u32 x.toNat), (0, .slice a bs.length c)])
    (fun ⟨i, t, ss⟩ w3 => i ≤ 32 ∧ k + i ≤ 8 * (bs.length + 4) ∧ (t = true ↔ ∃ j, j < i ∧ x.getLsbD j = true) ∧ ss.length = bs.length + 4 ∧
      (∀ j, j < 8 * (bs.length + 4) → bitAt ss j = (bitAt (sealF bs) j ^^ burstE k i x j)) ∧ Own 5 u8v w.heap.size w3 a1 c1 ss ∧ Ext w w3) (fun s => 32 - s.1)
    (0, false, sealF bs) ⟨rfl, rfl, rfl, rfl, rfl, rfl, rfl, trivial⟩ ⟨Nat.zero_le _, by omega, ⟨fun h => (by cases h), fun ⟨j, h, _⟩ => (by omega)⟩, hsl, fun j _ => by rw [burstE_zero, Bool.xor_false], ho1, hx1⟩ ?_
  rintro ⟨i, t, ss⟩ w3 ⟨hi, hki, ht, hssl, hbit, ho3, hx3⟩
  conv => whnf
  refine vcReg_meet lok (fun β : Bool => [(40, .bool β)]) (fun β w' => w' = w3 ∧ β = decide (i < 32 ∧ k + i < 8 * (bs.length + 4))) [40] (fun _ => rfl) rfl ?_ ?_
  · conv => whnf
    refine bcase (fun h2 => ?_) (fun h2 => ?_)
    · conv => whnf
      refine ⟨by omega, ?_⟩
      conv => whnf
      exact ⟨_, ⟨rfl, trivial⟩, rfl, by have := dt h2; rw [decide_eq_decide]; omega⟩
    · conv => whnf
      exact ⟨_, ⟨rfl, trivial⟩, rfl, by have := df h2; rw [eq_comm, decide_eq_false_iff_not]; omega⟩
  rintro β w' ⟨hw', hβ⟩
  subst hw'
  conv => whnf
  refine vcCond_split lok rfl (fun h2 => ?_) (fun h2 => ?_)
  · rw [h2] at hβ
    have hlt := dt hβ.symm
    conv => whnf
    intro z hz
    have hz67 : z = (i : Int) := by rw [hz, wu64]; omega
    clear hz
    subst hz67
    conv => whnf
    refine ⟨by omega, ?_⟩
    intro z hz
    replace hz := hz.trans (shr32b x i (by omega))
    subst hz
    conv => whnf
    intro z hz
    replace hz := hz.trans (and32 (x >>> i) 1#32)
    subst hz
    conv => whnf
    rw [shr_bit32]
    have hbs : ∀ j, burstE k (i + 1) x j = (burstE k i x j ^^ (x.getLsbD i && decide (j = k + i))) := burstE_succ k i x
    cases hb : x.getLsbD i with
    | true =>
      refine vcCond_true lok (rfl) ?_
      conv => whnf
      refine ⟨by omega, ?_⟩
      conv => whnf
      refine ⟨by decide, ?_⟩
      intro z1 hz
      have hz72 : z1 = (((k + i) / 8 : Nat) : Int) := by rw [hz, Int.tdiv_eq_ediv_of_nonneg (by omega), wi64 (by omega)]; omega
      clear hz
      subst hz72
      conv => whnf
      refine ⟨by omega, ?_⟩
      conv => whnf
      refine ⟨by decide, ?_⟩
      intro z2 hz
      have hz74 : z2 = (((k + i) / 8 : Nat) : Int) := by rw [hz, Int.tdiv_eq_ediv_of_nonneg (by omega), wi64 (by omega)]; omega
      clear hz
      subst hz74
      conv => whnf
      have g1 := ho3.sl.at (((k + i) / 8 : Nat) : Int) (by omega) (by omega)
      obtain ⟨p, o, ha, hcell⟩ := g1
      rw [Int.toNat_natCast] at hcell
      refine ⟨p, o, ha, ⟨by omega, by omega⟩, ?_⟩
      conv => whnf
      refine ⟨_, hcell, ?_⟩
      conv => whnf
      refine ⟨by omega, ?_⟩
      conv => whnf
      refine ⟨by decide, ?_⟩
      intro z3 hz
      have hz78 : z3 = (((k + i) % 8 : Nat) : Int) := by rw [hz, Int.tmod_eq_emod_of_nonneg (by omega)]; omega
      clear hz
      subst hz78
      conv => whnf
      intro z4 hz
      have hz79 : z4 = (((k + i) % 8 : Nat) : Int) := by rw [hz, wu64]; omega
      clear hz
      subst hz79
      conv => whnf
      refine ⟨by omega, ?_⟩
      intro z hz
      replace hz := hz.trans (shl8b 1#8 ((k + i) % 8) (by omega))
      subst hz
      conv => whnf
      intro z hz
      replace hz := hz.trans (xor8 (ss.getD ((k + i) / 8) default) (1#8 <<< ((k + i) % 8)))
      subst hz
      conv => whnf
      have g5 := ho3.store (((k + i) / 8 : Nat) : Int) (by omega) (by omega)
      obtain ⟨g, hg, hk1, hk2, hBg, hgw, hst⟩ := g5
      have g6 := hst (ss.getD ((k + i) / 8) default ^^^ 1#8 <<< ((k + i) % 8))
      obtain ⟨ho5, hg5⟩ := g6
      rw [Int.toNat_natCast] at ho5 hg5 hk1 hk2
      refine ⟨g, 0, hg, ⟨by omega, by omega⟩, ?_⟩
      conv => whnf
      refine ⟨⟨rfl, hk1, hk2⟩, fun w5 hw5 => ?_⟩
      have hw6 : w5 = w'.setCell ⟨g, 0 + (k + i) / 8, none⟩ (u8v (ss.getD ((k + i) / 8) default ^^^ 1#8 <<< ((k + i) % 8))) := hw5
      rw [← hw6] at ho5 hg5
      clear hw5 hw6
      conv => whnf
      refine ⟨by omega, ?_⟩
      conv => whnf
      refine ⟨(i + 1, true, ss.set ((k + i) / 8) (ss.getD ((k + i) / 8) default ^^^ 1#8 <<< ((k + i) % 8))), ⟨rfl, rfl, rfl, rfl, rfl, rfl, rfl, trivial⟩, ⟨by omega, by omega, ⟨fun _ => ⟨i, by omega, hb⟩, fun _ => rfl⟩, by rw [List.length_set, hssl], ?_, ho5, hg5.extOf hx3 (fun g' hg' => by cases hg'; exact hBg)⟩, by omega⟩
      intro j hj
      have e := bitAt_turn ss (k + i) j (by omega)
      rw [hbs j, hb, Bool.true_and, ← Bool.xor_assoc, ← hbit j hj]
      exact e
    | false =>
      refine vcCond_false lok (rfl) ?_
      conv => whnf
      refine ⟨by omega, ?_⟩
      conv => whnf
      refine ⟨(i + 1, t, ss), ⟨rfl, rfl, rfl, rfl, rfl, rfl, rfl, trivial⟩, ⟨by omega, by omega, ht.trans ⟨fun ⟨j, h1, h2⟩ => ⟨j, by omega, h2⟩, fun ⟨j, h1, h2⟩ => ⟨j, ?_, h2⟩⟩, hssl, ?_, ho3, hx3⟩, by omega⟩
      · rcases Nat.lt_or_ge j i with h3 | h3
        · exact h3
        · have : j = i := by omega
          rw [this, hb] at h2; cases h2
      · intro j hj
        rw [hbs j, hb, Bool.false_and, Bool.xor_false]
        exact hbit j hj
  · rw [h2] at hβ
    have hnl := df hβ.symm
    conv => whnf
    have eo := open_turned bs ss k i x hi hki hssl hbit
    have hol := open_len ss
    have go := open_calls (c := c1) ho3.sl (by omega) (by have := ho3.le.1; omega)
    rw [hssl, ← hsl] at go
    refine Calls.ret (go) ?_
    rintro _ w4 ⟨a4, c4, rfl, ho4, hx4⟩
    conv => whnf
    have x4 := hx3.trans hx4
    cases ht2 : t with
    | false =>
      subst ht2
      rw [if_neg (fun h => by have := ht.2 h; cases this)] at eo
      rw [eo] at ho4 ⊢
      conv => whnf
      refine vcCond_true lok (rfl) ?_
      conv => whnf
      refine vcReg_go lok ?_
      conv => whnf
      refine ⟨_, run_toStr ho4.sl, ?_⟩
      conv => whnf
      refine ⟨_, run_toStr (h.ext x4), ?_⟩
      conv => whnf
      intro γ hγ
      have hγ2 : γ = true := by rw [str_eq hγ rfl rfl]; simp
      clear hγ
      subst hγ2
      conv => whnf
      refine Calls.ret (known03) ?_
      rintro _ w5 ⟨rfl, hx5⟩
      conv => whnf
      exact ⟨rfl, x4.trans hx5⟩
    | true =>
      subst ht2
      rw [if_pos (ht.1 rfl)] at eo
      rw [eo]
      conv => whnf
      refine vcCond_false lok (rfl) ?_
      conv => whnf
      refine vcReg_go lok ?_
      conv => whnf
      refine Calls.ret (known03) ?_
      rintro _ w5 ⟨rfl, hx5⟩
      conv => whnf
      exact ⟨rfl, x4.trans hx5⟩
end Go.Proofs.Ytgipackjnncabaa

/- Walks of layer 23, fifth part: a sender; the fixed calls. -/
set_option linter.unusedVariables false
namespace Go.Proofs.Ytgipackjnncabaa
open Go.Vc Go.RowKit

structure SS where
  ver : BitVec 32
  data : List (BitVec 8)
  hav : BitVec 32
  wanted : Bool
  done : Bool
  wait : Int

def SS.cells (s : SS) (a : Option Addr) (c : Nat) : List Value := [u32v s.ver, .slice a s.data.length c, u32v s.hav, .bool s.wanted, .bool s.done, .int .i64 s.wait]

/-- the first chunk that is missing, from k on -/
def missF (len : Nat) (hav : BitVec 32) : Nat → Nat → Option Nat
  | 0, _ => none
  | fuel + 1, k => if 64 * k < len then (if hav.getLsbD k = true then missF len hav fuel (k + 1) else some k) else none

def chunkS (data : List (BitVec 8)) (k : Nat) : List (BitVec 8) := (data.drop (64 * k)).take (min data.length (64 * (k + 1)) - 64 * k)

def nextF (s : SS) : Pk × Bool :=
  if s.wanted = true then (match missF s.data.length s.hav 40 0 with
    | some k => (⟨2, s.ver, 0, k, 0, 0#32, chunkS s.data k⟩, true)
    | none => (⟨2, s.ver, 0, 0, 0, 0#32, []⟩, false))
  else (⟨1, s.ver, s.data.length, 0, 0, 0#32, []⟩, true)

/-- what is sent -/
def outF (s : SS) : List (BitVec 8) := if (nextF s).2 = true then (packF (nextF s).1).1 else []
def sendF (s : SS) : SS := { s with wait := 4 }
def tickF (s : SS) : SS × List (BitVec 8) := if s.done = true ∨ s.ver = 0#32 then (s, []) else if 0 < s.wait then ({ s with wait := s.wait - 1 }, []) else (sendF s, outF s)

/-- a sender's memory -/
structure SnAt (T B : Nat) (w : World) (b : Nat) (a : Option Addr) (c : Nat) (s : SS) : Prop where
  blk : Blk w b T (s.cells a c)
  own : Own 5 u8v B w a c s.data
  lo : B ≤ b
  ne : blockOf a ≠ some b

section
variable {T B : Nat} {w w' : World} {b c : Nat} {a : Option Addr} {s : SS}
theorem SnAt.ext (h : SnAt T B w b a c s) (hk : Ext w w') : SnAt T B w' b a c s := ⟨h.blk.ext hk, h.own.ext hk, h.lo, h.ne⟩
theorem SnAt.base (h : SnAt T B w b a c s) {B' : Nat} (hB : B' ≤ B) : SnAt T B' w b a c s := ⟨h.blk, h.own.base hB, Nat.le_trans hB h.lo, h.ne⟩
theorem SnAt.setField (h : SnAt T B w b a c s) (i : Nat) (v : Value) (t : SS) (hl : t.data = s.data) (hc : t.cells a c = (s.cells a c).set i v) (hw : w' = w.setCell ⟨b, 0 + i, none⟩ v) : SnAt T B w' b a c t ∧ Gr w w' (some b) := by
  have hg : Gr w w' (some b) := by rw [hw]; exact gr_setCell _ _ _ _
  refine ⟨⟨?_, ?_, h.lo, h.ne⟩, hg⟩
  · rw [hc, hw]; exact h.blk.set i v
  · rw [hl]; exact hg.keepOwn h.own fun g' hg' e => h.ne (by rw [hg', ← e])
end

theorem built190 (v : Int) (a : Option Addr) (n c : Nat) : Try.prog.built 190 [(0, .int .u32 v), (1, .slice a n c)] = some #[.int .u32 v, .slice a n c, .int .u32 0, .bool false, .bool false, .int .i64 0] := by kernel_rfl

/-- NewSender -/
theorem newSender_calls {w : World} {a : Option Addr} {c : Nat} (ver : BitVec 32) {bs : List (BitVec 8)} (h : Sl u8v w a bs) (hl : bs.length ≤ 16777216) :
    Calls Try.prog 85 #[.int .u32 ver.toNat, .slice a bs.length c] w (Ret fun v w' => ((ver = 0#32 ∨ bs.length = 0 ∨ 2048 < bs.length) ∧ v = .tuple #[.pointer none, .int .i64 1] ∧ w' = w) ∨
      (¬ (ver = 0#32 ∨ bs.length = 0 ∨ 2048 < bs.length) ∧ ∃ b a' c', v = .tuple #[.pointer (some ⟨b, 0, none⟩), .int .i64 0] ∧ SnAt 190 w.heap.size w' b a' c' ⟨ver, bs, 0#32, false, false, 0⟩ ∧ Ext w w')) := by
  have h0 : ((ver.toNat : Int) = 0) ↔ ver = 0#32 := int_eq (x := ver) (y := 0#32)
  refine calls_of_vc lok Try.func85 ?_ rfl
  conv => whnf
  refine vcReg_meet lok (fun β : Bool => [(17, .bool β)]) (fun β w' => w' = w ∧ β = decide (ver = 0#32 ∨ bs.length = 0 ∨ 2048 < bs.length)) [17] (fun _ => rfl) rfl ?_ ?_
  · conv => whnf
    refine bcase (fun h1 => ?_) (fun h1 => ?_)
    · have h1 := h0.1 (dt h1)
      conv => whnf
      exact ⟨_, ⟨rfl, trivial⟩, rfl, by rw [eq_comm, decide_eq_true_iff]; exact .inl h1⟩
    · have h1 : ¬ ver = 0#32 := fun e => df h1 (h0.2 e)
      conv => whnf
      refine bcase (fun h2 => ?_) (fun h2 => ?_)
      · have h2 := dt h2
        conv => whnf
        exact ⟨_, ⟨rfl, trivial⟩, rfl, by rw [eq_comm, decide_eq_true_iff]; exact .inr (.inl (by omega))⟩
      · have h2 := df h2
        conv => whnf
        refine ⟨_, ⟨rfl, trivial⟩, rfl, ?_⟩
        rw [decide_eq_decide]
        constructor
        · intro h3; exact .inr (.inr (by omega))
        · rintro (h3 | h3 | h3)
          · exact absurd h3 h1
          · omega
          · omega
  rintro β w1 ⟨hw1, hβ⟩
  subst hw1
  conv => whnf
  refine vcCond_split lok rfl (fun h1 => ?_) (fun h1 => ?_)
  · rw [h1] at hβ
    conv => whnf
    exact .inl ⟨dt hβ.symm, rfl, rfl⟩
  rw [h1] at hβ
  have hb := df hβ.symm
  conv => whnf
  have g3 := (Own.nil 5 u8v w1.heap.size w1).append (ty := 22) (d := c) e8.toElem (fun _ => rfl) h (by simp; omega) (Nat.le_refl _)
  rw [List.nil_append] at g3
  obtain ⟨a3, c3, w3, hr3, ho3, hg3, _⟩ := g3
  refine ⟨_, _, hr3, ?_⟩
  have x3 : Ext w1 w3 := hg3.extOf (Ext.refl _) (fun g hg => by cases hg)
  conv => whnf
  refine ⟨_, fun w => run_build w 190 _ _ (built190 _ _ _ _), ?_⟩
  conv => whnf
  intro w4 hw4
  have hb4 : Blk w4 w3.heap.size 190 ((⟨ver, bs, 0#32, false, false, 0⟩ : SS).cells a3 c3) := by rw [hw4]; exact Blk.new w3 190 _
  have x4 : Ext w3 w4 := by rw [hw4]; exact Ext.new _ _
  clear hw4
  conv => whnf
  exact .inr ⟨hb, _, _, _, rfl, ⟨hb4, ho3.ext x4, x3.size, fun e => by have := (ho3.ge _ e).2; omega⟩, x3.trans x4⟩

theorem missF_step {len : Nat} {hav : BitVec 32} (hl : len ≤ 2048) : ∀ (f k : Nat), 33 ≤ f + k → missF len hav f k = if 64 * k < len then (if hav.getLsbD k = true then missF len hav (f - 1) (k + 1) else some k) else none
  | 0, k, h => by
    rw [if_neg (by omega)]
    rfl
  | f + 1, k, h => rfl

theorem built112v (v : Int) : Try.prog.built 112 [(1, .int .u32 v)] = some #[.int .i64 0, .int .u32 v, .int .i64 0, .int .i64 0, .int .i64 0, .int .u32 0, .slice none 0 0] := by kernel_rfl

set_option maxHeartbeats 2000000 in
/-- next -/
theorem next_calls {B : Nat} {w : World} {b c : Nat} {a : Option Addr} {s : SS} (h : SnAt 190 B w b a c s) (hl : s.data.length ≤ 2048) :
    Calls Try.prog 183 #[.pointer (some ⟨b, 0, none⟩)] w (Ret fun v w' => ∃ a' c', v = .tuple #[.agg ((nextF s).1.cells a' c').toArray, .bool (nextF s).2] ∧ Sl u8v w' a' (nextF s).1.data ∧ Ext w w') := by
  have hlc := h.own.le.1
  refine calls_of_vc lok Try.func183 ?_ rfl
  conv => whnf
  intro w1 hw1
  have hb1 : Blk w1 w.heap.size 112 (Pk.zero.cells none 0) := by rw [hw1]; exact Blk.new w 112 _
  have x1 : Ext w w1 := by rw [hw1]; exact Ext.new _ _
  clear hw1
  have h1 := h.ext x1
  conv => whnf
  refine ⟨_, h1.blk.cell0 rfl, ?_⟩
  conv => whnf
  refine ⟨_, fun w => run_build w 112 _ _ (built112v _), ?_⟩
  conv => whnf
  intro w2 hw2
  have hb2 : Blk w2 w1.heap.size 112 (Pk.zero.cells none 0) := by rw [hw2]; exact Blk.new w1 112 _
  have x2 : Ext w1 w2 := by rw [hw2]; exact Ext.new _ _
  clear hw2
  conv => whnf
  have k3 := Blk.storeAgg lok hb2 (t := 112) (us := (⟨0, s.ver, 0, 0, 0, 0#32, []⟩ : Pk).cells none 0) rfl 0 (Nat.le_refl 7) (Pk.one _ _ _)
  obtain ⟨w3, hr3, hb3, g3⟩ := k3
  have hb3 : Blk w3 w1.heap.size 112 ((⟨0, s.ver, 0, 0, 0, 0#32, []⟩ : Pk).cells none 0) := hb3
  have x3 : Ext w1 w3 := g3.extOf x2 (fun g hg => by cases hg; exact Nat.le_refl _)
  refine ⟨w3, hr3, ?_⟩
  have h3 := h1.ext x3
  have hb13 := hb1.ext x3
  have x03 := x1.trans x3
  have q1 := hb1.lt
  have q2 := h.blk.lt
  have z1 := x1.size
  have qa : ∀ g, blockOf a = some g → g < w.heap.size := fun g hg => (h.own.ge g hg).2
  clear hr3 g3 hb2 x2
  generalize hbp : w1.heap.size = bp at *
  generalize hbr : w.heap.size = br at *
  conv => whnf
  refine ⟨_, h3.blk.cell (i := 3) rfl, ?_⟩
  conv => whnf
  cases hwa : s.wanted with
  | false =>
    have e : nextF s = (⟨1, s.ver, s.data.length, 0, 0, 0#32, []⟩, true) := if_neg (by rw [hwa]; decide)
    rw [e]
    refine vcCond_true lok (rfl) ?_
    conv => whnf
    refine vcDraw_meet lok mixed (fun w' => SnAt 190 B w' b a c s) [6] [0, 1, 2, 3, 4, 5, 6, 7, 8]
      (fun _ : Unit => []) (fun _ w' => Blk w' bp 112 ((⟨1, s.ver, s.data.length, 0, 0, 0#32, []⟩ : Pk).cells none 0) ∧ Blk w' br 112 (Pk.zero.cells none 0) ∧ Ext w w') [] (fun _ => rfl) rfl (by kernel_rfl) (fun w4 hw4 => ⟨h3.ext (hw4 ▸ Ext.drew w3), ?_⟩) ?_
    · have x4 : Ext w3 w4 := hw4 ▸ Ext.drew w3
      have h4 := h3.ext x4
      have hb4 := hb3.ext x4
      have hb14 := hb13.ext x4
      conv => whnf
      refine ⟨_, fun w' hw' => hw'.blk.cell (i := 1) rfl, ?_⟩
      conv => whnf
      refine ⟨hb4.can 0 (by simp [Pk.cells]) _ rfl, fun w5 hw5 => ?_⟩
      have hb5 : Blk w5 bp 112 ((⟨1, s.ver, 0, 0, 0, 0#32, []⟩ : Pk).cells none 0) := by rw [hw5]; exact hb4.set 0 _
      have g5 := gr_of_set hw5
      have h5 : SnAt 190 B w5 b a c s := ⟨h4.blk.keep (g5.block _ h4.blk.lt (fun q => by have q' := Option.some.inj q; omega)), g5.keepOwn h4.own (fun g hg q => by have q' := Option.some.inj q; have := qa g hg; omega), h4.lo, h4.ne⟩
      have hb15 := hb14.keep (g5.block _ hb14.lt (fun q => by have q' := Option.some.inj q; omega))
      have x5 : Ext w w5 := g5.extOf (x03.trans x4) (fun g hg => by cases hg; omega)
      refine ⟨_, fun _ h => h, h5, ?_⟩
      clear hw5
      conv => whnf
      refine ⟨hb5.can 2 (by simp [Pk.cells]) _ rfl, fun w6 hw6 => ?_⟩
      have hb6 : Blk w6 bp 112 ((⟨1, s.ver, s.data.length, 0, 0, 0#32, []⟩ : Pk).cells none 0) := by rw [hw6]; exact hb5.set 2 _
      have g6 := gr_of_set hw6
      exact ⟨(), trivial, hb6, hb15.keep (g6.block _ hb15.lt (fun q => by have q' := Option.some.inj q; omega)), g6.extOf x5 (fun g hg => by cases hg; omega)⟩
    rintro _ w4 ⟨hb4, hb14, x4⟩
    conv => whnf
    refine ⟨_, rfl, hb4.cells, ?_⟩
    conv => whnf
    have k5 := Blk.storeAgg lok hb14 (t := 112) (us := (⟨1, s.ver, s.data.length, 0, 0, 0#32, []⟩ : Pk).cells none 0) rfl 0 (Nat.le_refl 7) (Pk.one _ _ _)
    obtain ⟨w5, hr5, hb5, g5⟩ := k5
    have hb5 : Blk w5 br 112 ((⟨1, s.ver, s.data.length, 0, 0, 0#32, []⟩ : Pk).cells none 0) := hb5
    refine ⟨w5, hr5, ?_⟩
    conv => whnf
    refine ⟨_, rfl, hb5.cells, ?_⟩
    conv => whnf
    exact ⟨none, 0, rfl, .inl rfl, g5.extOf x4 (fun g hg => by cases hg; omega)⟩
  | true =>
    refine vcCond_false lok (rfl) ?_
    conv => whnf
    refine ⟨hb3.can 0 (by simp [Pk.cells]) _ rfl, fun w5 hw5 => ?_⟩
    have hb5 : Blk w5 bp 112 ((⟨2, s.ver, 0, 0, 0, 0#32, []⟩ : Pk).cells none 0) := by rw [hw5]; exact hb3.set 0 _
    have g5 := gr_of_set hw5
    have h5 : SnAt 190 B w5 b a c s := ⟨h3.blk.keep (g5.block _ h3.blk.lt (fun q => by have q' := Option.some.inj q; omega)), g5.keepOwn h3.own (fun g hg q => by have q' := Option.some.inj q; have := qa g hg; omega), h3.lo, h3.ne⟩
    have hb15 := hb13.keep (g5.block _ hb13.lt (fun q => by have q' := Option.some.inj q; omega))
    have x5 : Ext w w5 := g5.extOf x03 (fun g hg => by cases hg; omega)
    clear hw5
    conv => whnf
    refine vcLoop_inv lok (σ := Nat)
      (fun k => [(5, .int .i64 k), (0, .pointer (some ⟨b, 0, none⟩)), (2, .pointer (some ⟨br, 0, none⟩)), (4, .pointer (some ⟨bp, 0, none⟩))])
      (fun k w6 => k ≤ 32 ∧ missF s.data.length s.hav 40 0 = missF s.data.length s.hav (40 - k) k ∧ w6 = w5) (fun k => 33 - k)
      0 ⟨rfl, rfl, rfl, rfl, trivial⟩ ⟨Nat.zero_le _, rfl, rfl⟩ ?_
    rintro k w6 ⟨hk, hmi, hw6⟩
    subst hw6
    have hst := missF_step (hav := s.hav) hl (40 - k) k (by omega)
    rw [hst] at hmi
    conv => whnf
    refine ⟨by omega, ?_⟩
    conv => whnf
    refine ⟨_, h5.blk.cell (i := 1) rfl, ?_⟩
    conv => whnf
    refine vcCond_split lok rfl (fun k2 => ?_) (fun k2 => ?_)
    · have k2 := dt k2
      have hkl : 64 * k < s.data.length := by omega
      have hk32 : k < 32 := by omega
      rw [if_pos hkl] at hmi
      conv => whnf
      refine ⟨_, h5.blk.cell (i := 2) rfl, ?_⟩
      conv => whnf
      intro z hz
      have hz37 : z = (k : Int) := by rw [hz, wu64]; omega
      clear hz
      subst hz37
      conv => whnf
      refine ⟨by omega, ?_⟩
      intro z hz
      replace hz := hz.trans (shr32b s.hav k (by omega))
      subst hz
      conv => whnf
      intro z hz
      replace hz := hz.trans (and32 (s.hav >>> k) 1#32)
      subst hz
      conv => whnf
      rw [shr_bit32]
      cases hbit : s.hav.getLsbD k with
      | true =>
        rw [hbit, if_pos rfl] at hmi
        refine vcCond_false lok (rfl) ?_
        conv => whnf
        refine ⟨by omega, ?_⟩
        conv => whnf
        exact ⟨k + 1, ⟨rfl, rfl, rfl, rfl, trivial⟩, ⟨by omega, by rw [hmi]; congr 1, rfl⟩, by omega⟩
      | false =>
        rw [hbit, if_neg (by decide)] at hmi
        have e : nextF s = (⟨2, s.ver, 0, k, 0, 0#32, chunkS s.data k⟩, true) := by unfold nextF; rw [if_pos hwa, hmi]
        have ecl : (chunkS s.data k).length = min s.data.length (64 * (k + 1)) - 64 * k := by unfold chunkS; rw [List.length_take, List.length_drop]; omega
        rw [e]
        refine vcCond_true lok (rfl) ?_
        conv => whnf
        refine vcDraw_meet lok mixed (fun w' => SnAt 190 B w' b a c s) [18] [0, 1, 2, 3, 4, 5, 6, 7, 8, 9, 10, 11, 12, 13, 14, 15, 16, 17, 18, 19, 20]
          (fun _ : Unit => []) (fun _ w' => ∃ a' c', Blk w' bp 112 ((⟨2, s.ver, 0, k, 0, 0#32, chunkS s.data k⟩ : Pk).cells a' c') ∧ Sl u8v w' a' (chunkS s.data k) ∧ (chunkS s.data k ≠ [] → ∀ g, blockOf a' = some g → g < br) ∧ Blk w' br 112 (Pk.zero.cells none 0) ∧ Ext w w') [] (fun _ => rfl) rfl (by kernel_rfl) (fun w7 hw7 => ⟨h5.ext (hw7 ▸ Ext.drew w6), ?_⟩) ?_
        · have x7 : Ext w6 w7 := hw7 ▸ Ext.drew w6
          have h7 := h5.ext x7
          have hb7 := hb5.ext x7
          have hb17 := hb15.ext x7
          conv => whnf
          refine ⟨_, fun w' hw' => hw'.blk.cell (i := 1) rfl, ?_⟩
          conv => whnf
          refine ⟨by omega, ?_⟩
          conv => whnf
          refine ⟨_, fun w' hw' => hw'.blk.cell (i := 1) rfl, ?_⟩
          conv => whnf
          refine ⟨by omega, ?_⟩
          conv => whnf
          refine ⟨by omega, ?_⟩
          conv => whnf
          have emin : (if ((k : Int) + 1) * 64 < (s.data.length : Int) then ((k : Int) + 1) * 64 else (s.data.length : Int)) = ((min s.data.length (64 * (k + 1)) : Nat) : Int) := by split <;> omega
          rw [emin]
          have ek : (k : Int) * 64 = ((64 * k : Nat) : Int) := by omega
          rw [ek]
          refine ⟨⟨by omega, by omega, by omega⟩, ?_⟩
          intro aa haa
          rw [Int.toNat_natCast] at haa
          have hsl : Sl u8v w7 aa (chunkS s.data k) := by rw [haa]; exact Sl.mid h7.own.sl (64 * k) (min s.data.length (64 * (k + 1))) c (by omega) (by omega) hlc
          have hab : ∀ g, blockOf aa = some g → g < br := by
            intro g hg
            rw [haa] at hg
            refine qa g ?_
            split at hg
            · exact hg
            · cases ha : a with
              | none => rw [ha] at hg; cases hg
              | some p => rw [ha] at hg; have : (p.add (64 * k * 1)).block = g := Option.some.inj hg; rw [← this]; unfold Addr.add; split <;> rfl
          clear haa
          conv => whnf
          refine ⟨hb7.can 3 (by simp [Pk.cells]) _ rfl, fun w8 hw8 => ?_⟩
          have hb8 : Blk w8 bp 112 ((⟨2, s.ver, 0, k, 0, 0#32, []⟩ : Pk).cells none 0) := by rw [hw8]; exact hb7.set 3 _
          have g8 := gr_of_set hw8
          have h8 : SnAt 190 B w8 b a c s := ⟨h7.blk.keep (g8.block _ h7.blk.lt (fun q => by have q' := Option.some.inj q; omega)), g8.keepOwn h7.own (fun g hg q => by have q' := Option.some.inj q; have := qa g hg; omega), h7.lo, h7.ne⟩
          have hb18 := hb17.keep (g8.block _ hb17.lt (fun q => by have q' := Option.some.inj q; omega))
          have hsl8 := g8.keepSl hsl (fun _ g hg q => by have q' := Option.some.inj q; have := hab g hg; omega)
          have x8 : Ext w w8 := g8.extOf (x5.trans x7) (fun g hg => by cases hg; omega)
          refine ⟨_, fun _ h => h, h8, ?_⟩
          clear hw8
          conv => whnf
          refine ⟨hb8.can 6 (by simp [Pk.cells]) _ rfl, fun w9 hw9 => ?_⟩
          have hb9 : Blk w9 bp 112 ((⟨2, s.ver, 0, k, 0, 0#32, chunkS s.data k⟩ : Pk).cells aa (c - 64 * k)) := by
            rw [hw9, Int.toNat_natCast, Int.toNat_natCast, ← ecl]
            exact hb8.set 6 _
          have g9 := gr_of_set hw9
          exact ⟨(), trivial, aa, _, hb9, g9.keepSl hsl8 (fun _ g hg q => by have q' := Option.some.inj q; have := hab g hg; omega), fun _ => hab, hb18.keep (g9.block _ hb18.lt (fun q => by have q' := Option.some.inj q; omega)), g9.extOf x8 (fun g hg => by cases hg; omega)⟩
        rintro _ w7 ⟨a', c', hb7, hsl7, hab7, hb17, x7⟩
        conv => whnf
        refine ⟨_, rfl, hb7.cells, ?_⟩
        conv => whnf
        have k8 := Blk.storeAgg lok hb17 (t := 112) (us := (⟨2, s.ver, 0, k, 0, 0#32, chunkS s.data k⟩ : Pk).cells a' c') rfl 0 (Nat.le_refl 7) (Pk.one _ _ _)
        obtain ⟨w8, hr8, hb8, g8⟩ := k8
        have hb8 : Blk w8 br 112 ((⟨2, s.ver, 0, k, 0, 0#32, chunkS s.data k⟩ : Pk).cells a' c') := hb8
        refine ⟨w8, hr8, ?_⟩
        conv => whnf
        refine ⟨_, rfl, hb8.cells, ?_⟩
        conv => whnf
        exact ⟨a', c', rfl, g8.keepSl hsl7 (fun hx g hg q => by have q' := Option.some.inj q; have := hab7 hx g hg; omega), g8.extOf x7 (fun g hg => by cases hg; omega)⟩
    · have k2 := df k2
      rw [if_neg (by omega)] at hmi
      have e : nextF s = (⟨2, s.ver, 0, 0, 0, 0#32, []⟩, false) := by unfold nextF; rw [if_pos hwa, hmi]
      rw [e]
      conv => whnf
      refine ⟨_, rfl, hb5.cells, ?_⟩
      conv => whnf
      have k8 := Blk.storeAgg lok hb15 (t := 112) (us := (⟨2, s.ver, 0, 0, 0, 0#32, []⟩ : Pk).cells none 0) rfl 0 (Nat.le_refl 7) (Pk.one _ _ _)
      obtain ⟨w8, hr8, hb8, g8⟩ := k8
      have hb8 : Blk w8 br 112 ((⟨2, s.ver, 0, 0, 0, 0#32, []⟩ : Pk).cells none 0) := hb8
      refine ⟨w8, hr8, ?_⟩
      conv => whnf
      refine ⟨_, rfl, hb8.cells, ?_⟩
      conv => whnf
      exact ⟨none, 0, rfl, .inl rfl, g8.extOf x5 (fun g hg => by cases hg; omega)⟩
end Go.Proofs.Ytgipackjnncabaa

/- Walks of layer 23, sixth part: what a sender sends; the fixed calls. -/
set_option linter.unusedVariables false
namespace Go.Proofs.Ytgipackjnncabaa
open Go.Vc Go.RowKit

/-- send -/
theorem send_calls {B : Nat} {w : World} {b c : Nat} {a : Option Addr} {s : SS} (h : SnAt 190 B w b a c s) (hl : s.data.length ≤ 2048) :
    Calls Try.prog 149 #[.pointer (some ⟨b, 0, none⟩)] w (Ret fun v w' => ∃ a' c', v = .slice a' (outF s).length c' ∧ Own 5 u8v w.heap.size w' a' c' (outF s) ∧ SnAt 190 B w' b a c (sendF s) ∧ Gr w w' (some b)) := by
  refine calls_of_vc lok Try.func149 ?_ rfl
  conv => whnf
  refine ⟨h.blk.can 5 (by simp [SS.cells]) _ rfl, fun w1 hw1 => ?_⟩
  have k1 := h.setField 5 (.int .i64 4) (sendF s) rfl rfl hw1
  obtain ⟨h1, g1⟩ := k1
  clear hw1
  have z1 := g1.size
  conv => whnf
  have gn := next_calls h1 hl
  have en : nextF (sendF s) = nextF s := rfl
  rw [en] at gn
  refine Calls.ret (gn) ?_
  rintro _ w2 ⟨a2, c2, rfl, hs2, x2⟩
  conv => whnf
  have h2 := h1.ext x2
  have g2 : Gr w w2 (some b) := g1.step (Gr.ofExt x2 none) (.inr (fun g hg => by cases hg))
  have eo : outF s = if (nextF s).2 = true then (packF (nextF s).1).1 else [] := rfl
  generalize nextF s = np at *
  obtain ⟨p, ok⟩ := np
  have hs2 : Sl u8v w2 a2 p.data := hs2
  conv => whnf
  intro w3 hw3
  have hb3 : Blk w3 w2.heap.size 112 (Pk.zero.cells none 0) := by rw [hw3]; exact Blk.new w2 112 _
  have x3 : Ext w2 w3 := by rw [hw3]; exact Ext.new _ _
  clear hw3
  conv => whnf
  have k4 := Blk.storeAgg lok hb3 (t := 112) (us := p.cells a2 c2) rfl 0 (Nat.le_refl 7) (Pk.one _ _ _)
  obtain ⟨w4, hr4, hb4, g4⟩ := k4
  have hb4 : Blk w4 w2.heap.size 112 (p.cells a2 c2) := hb4
  have x4 : Ext w2 w4 := g4.extOf x3 (fun g hg => by cases hg; exact Nat.le_refl _)
  refine ⟨w4, hr4, ?_⟩
  have g04 : Gr w w4 (some b) := g2.step (Gr.ofExt x4 none) (.inr (fun g hg => by cases hg))
  have h4 := h2.ext x4
  conv => whnf
  cases ok with
  | false =>
    rw [if_neg Bool.false_ne_true] at eo
    rw [eo]
    refine vcCond_true lok (rfl) ?_
    conv => whnf
    exact ⟨none, 0, rfl, Own.nil _ _ _ _, h4, g04⟩
  | true =>
    rw [if_pos rfl] at eo
    rw [eo]
    refine vcCond_false lok (rfl) ?_
    conv => whnf
    refine ⟨p.cells a2 c2, rfl, hb4.cells, ?_⟩
    conv => whnf
    refine Calls.ret (pack_calls p (hs2.ext x4)) ?_
    rintro _ w5 ⟨a5, c5, rfl, ho5, x5⟩
    conv => whnf
    exact ⟨a5, c5, rfl, ho5.base g04.size, h4.ext x5, g04.step (Gr.ofExt x5 none) (.inr (fun g hg => by cases hg))⟩

/-- Tick -/
theorem tick_calls {B : Nat} {w : World} {b c : Nat} {a : Option Addr} {s : SS} (h : SnAt 190 B w b a c s) (hl : s.data.length ≤ 2048) (hw : s.wait ≤ 9223372036854775807) :
    Calls Try.prog 87 #[.pointer (some ⟨b, 0, none⟩)] w (Ret fun v w' => ∃ a' c', v = .slice a' (tickF s).2.length c' ∧ Own 5 u8v w.heap.size w' a' c' (tickF s).2 ∧ SnAt 190 B w' b a c (tickF s).1 ∧ Gr w w' (some b)) := by
  have h0 : ((s.ver.toNat : Int) = 0) ↔ s.ver = 0#32 := int_eq (x := s.ver) (y := 0#32)
  refine calls_of_vc lok Try.func87 ?_ rfl
  conv => whnf
  refine vcReg_meet lok (fun β : Bool => [(3, .bool β)]) (fun β w' => w' = w ∧ β = decide (s.done = true ∨ s.ver = 0#32)) [3] (fun _ => rfl) rfl ?_ ?_
  · conv => whnf
    refine ⟨_, h.blk.cell (i := 4) rfl, ?_⟩
    conv => whnf
    refine bcase (fun h1 => ?_) (fun h1 => ?_)
    · conv => whnf
      exact ⟨_, ⟨rfl, trivial⟩, rfl, by rw [eq_comm, decide_eq_true_iff]; exact .inl h1⟩
    · conv => whnf
      refine ⟨_, h.blk.cell0 rfl, ?_⟩
      conv => whnf
      refine ⟨_, ⟨rfl, trivial⟩, rfl, ?_⟩
      rw [decide_eq_decide, h0]
      constructor
      · intro e; exact .inr e
      · rintro (e | e)
        · rw [h1] at e; cases e
        · exact e
  rintro β w1 ⟨hw1, hβ⟩
  subst hw1
  conv => whnf
  refine vcCond_split lok rfl (fun h1 => ?_) (fun h1 => ?_)
  · rw [h1] at hβ
    have e : tickF s = (s, []) := if_pos (dt hβ.symm)
    rw [e]
    conv => whnf
    exact ⟨none, 0, rfl, Own.nil _ _ _ _, h, Gr.refl _ _⟩
  rw [h1] at hβ
  have hn := df hβ.symm
  conv => whnf
  refine ⟨_, h.blk.cell (i := 5) rfl, ?_⟩
  conv => whnf
  refine vcCond_split lok rfl (fun h2 => ?_) (fun h2 => ?_)
  · have h2 := dt h2
    conv => whnf
    have e : tickF s = ({ s with wait := s.wait - 1 }, []) := by unfold tickF; rw [if_neg hn, if_pos h2]
    rw [e]
    refine ⟨_, h.blk.cell (i := 5) rfl, ?_⟩
    conv => whnf
    refine ⟨by omega, ?_⟩
    conv => whnf
    refine ⟨h.blk.can 5 (by simp [SS.cells]) _ rfl, fun w2 hw2 => ?_⟩
    have k2 := h.setField 5 (.int .i64 (s.wait - 1)) { s with wait := s.wait - 1 } rfl rfl hw2
    exact ⟨none, 0, rfl, Own.nil _ _ _ _, k2.1, k2.2⟩
  · have h2 := df h2
    conv => whnf
    have e : tickF s = (sendF s, outF s) := by unfold tickF; rw [if_neg hn, if_neg h2]
    rw [e]
    refine Calls.ret (send_calls h hl) ?_
    rintro _ w2 ⟨a2, c2, rfl, ho2, h2', g2⟩
    conv => whnf
    exact ⟨a2, c2, rfl, ho2, h2', g2⟩

/-- Done -/
theorem done_calls {B : Nat} {w : World} {b c : Nat} {a : Option Addr} {s : SS} (h : SnAt 190 B w b a c s) :
    Calls Try.prog 86 #[.pointer (some ⟨b, 0, none⟩)] w (Ret fun v w' => v = .bool s.done ∧ w' = w) := by
  refine calls_of_vc lok Try.func86 ?_ rfl
  conv => whnf
  refine vcReg_go lok ?_
  conv => whnf
  refine ⟨_, h.blk.cell (i := 4) rfl, ?_⟩
  conv => whnf
  exact ⟨rfl, rfl⟩

def kP : Pk := ⟨1, 7#32, 70, 0, 0, 0#32, []⟩
theorem kP_can : canP kP = true := by decide
def kSS : SS := ⟨7#32, List.replicate 70 0#8, 0#32, false, false, 0⟩

set_option maxHeartbeats 2000000 in
/-- the fixed calls -/
theorem known23 {w : World} : Calls Try.prog 83 #[] w (Ret fun v w' => v = .bool true ∧ Ext w w') := by
  refine calls_of_vc (args := []) lok Try.func83 ?_ rfl
  conv => whnf
  have b112 : Try.prog.built 112 [(0, .int .i64 1), (1, .int .u32 7), (2, .int .i64 70)] = some (kP.cells none 0).toArray := by kernel_rfl
  refine ⟨_, fun w => run_build w 112 _ _ b112, ?_⟩
  have ep : packF kP = (sealF (bodyF kP), 0) := if_pos kP_can
  have eu : unpackF (sealF (bodyF kP)) = (kP, 0) := unpack_pack kP_can
  have el : (sealF (bodyF kP)).length = 11 := by rw [sealF_len]; rfl
  have eo : outF kSS = sealF (bodyF kP) := by
    have e1 : nextF kSS = (kP, true) := rfl
    unfold outF
    rw [e1, if_pos rfl, ep]
  generalize hB : sealF (bodyF kP) = pb at *
  conv => whnf
  have gp := pack_calls (w := w) kP (a := none) (c := 0) (.inl rfl)
  rw [ep] at gp
  refine Calls.ret (gp) ?_
  rintro _ w1 ⟨a1, c1, rfl, ho1, x1⟩
  conv => whnf
  have ho1 : Own 5 u8v w.heap.size w1 a1 c1 pb := ho1
  have gu := unpack_calls ho1.sl (by omega) ho1.le.1
  rw [eu] at gu
  refine Calls.ret (gu) ?_
  rintro _ w2 ⟨a2, c2, rfl, ho2, x2⟩
  conv => whnf
  conv => whnf
  intro w3 hw3
  have hb3 : Blk w3 w2.heap.size 112 (Pk.zero.cells none 0) := by rw [hw3]; exact Blk.new w2 112 _
  have x3 : Ext w2 w3 := by rw [hw3]; exact Ext.new _ _
  clear hw3
  conv => whnf
  have k4 := Blk.storeAgg lok hb3 (t := 112) (us := kP.cells a2 c2) rfl 0 (Nat.le_refl 7) (Pk.one _ _ _)
  obtain ⟨w4, hr4, hb4, g4⟩ := k4
  have hb4 : Blk w4 w2.heap.size 112 (kP.cells a2 c2) := hb4
  have x4 : Ext w2 w4 := g4.extOf x3 (fun g hg => by cases hg; exact Nat.le_refl _)
  refine ⟨w4, hr4, ?_⟩
  conv => whnf
  have k5 := run_makeOwn e8 w4.heap.size w4 (Nat.le_refl _) 70 70 (Nat.le_refl _) (by decide)
  obtain ⟨w5, hr5, ho5, x5⟩ := k5
  refine ⟨_, _, hr5, ?_⟩
  conv => whnf
  have gs := newSender_calls (c := 70) 7#32 ho5.sl (by decide)
  refine Calls.ret (gs) ?_
  rintro _ w6 hp
  conv => whnf
  have x06 : Ext w w5 := ((x1.trans x2).trans x4).trans x5
  rcases hp with ⟨hno, _, _⟩ | ⟨_, b, a6, c6, rfl, hs6, x6⟩
  · exact absurd hno (by decide)
  have hs6 : SnAt 190 w5.heap.size w6 b a6 c6 kSS := hs6
  conv => whnf
  refine vcReg_meet lok (fun β : Bool => [(40, .bool β)]) (fun β w' => w' = w6 ∧ β = false) [40] (fun _ => rfl) rfl ?_ ?_
  · conv => whnf
    refine ⟨_, ⟨rfl, trivial⟩, rfl, ?_⟩
    show (!decide (((pb.length : Nat) : Int) = 11)) = false
    rw [el]
    rfl
  rintro β w7 ⟨hw7, hβ⟩
  subst hw7 hβ
  conv => whnf
  refine vcCond_false lok (rfl) ?_
  conv => whnf
  have hb7 := (hb4.ext x5).ext x6
  have ho7 := (((ho1.ext x2).ext x4).ext x5).ext x6
  have x07 := x06.trans x6
  have q1 := hb4.lt
  have q2 := hs6.lo
  have q3 : ∀ g, blockOf a1 = some g → g < w1.heap.size := fun g hg => (ho1.ge g hg).2
  have q4 := x2.size
  have q5 := x4.size
  have q6 := x5.size
  have q7 := x06.size
  refine vcDraw_meet lok mixed (fun w' => Blk w' w2.heap.size 112 (kP.cells a2 c2) ∧ Own 5 u8v w.heap.size w' a1 c1 pb) [5] [0, 1, 2, 3, 4, 7, 8, 5, 6, 9, 10, 11, 12, 13, 14, 15, 16, 17, 18, 19, 20, 21, 22]
    (fun _ : Unit => [(0, .bool true)]) (fun _ w' => Ext w w') [0] (fun _ => rfl) rfl (by kernel_rfl) (fun w8 hw8 => ⟨⟨hb7.ext (hw8 ▸ Ext.drew w7), ho7.ext (hw8 ▸ Ext.drew w7)⟩, ?_⟩) ?_
  · have x8 : Ext w7 w8 := hw8 ▸ Ext.drew w7
    have hs8 := hs6.ext x8
    conv => whnf
    refine ⟨_, fun w' hw' => hw'.1.cell (i := 2) rfl, ?_⟩
    conv => whnf
    refine ⟨_, fun w' hw' => run_toStr hw'.2.sl, ?_⟩
    conv => whnf
    have gt := tick_calls hs8 (by decide) (by decide)
    have et : tickF kSS = (sendF kSS, pb) := by
      have e1 : tickF kSS = (sendF kSS, outF kSS) := rfl
      rw [e1, eo]
    rw [et] at gt
    refine Calls.ret (gt) ?_
    rintro _ w9 ⟨a9, c9, rfl, ho9, hs9, g9⟩
    conv => whnf
    have ho9 : Own 5 u8v w8.heap.size w9 a9 c9 pb := ho9
    have hs9 : SnAt 190 w5.heap.size w9 b a6 c6 (sendF kSS) := hs9
    have hb9 : Blk w9 w2.heap.size 112 (kP.cells a2 c2) := (hb7.ext x8).keep (g9.block _ (hb7.ext x8).lt (fun q => by have q' := Option.some.inj q; omega))
    have ho19 := g9.keepOwn (ho7.ext x8) (fun g hg q => by have q' := Option.some.inj q; have := q3 g hg; omega)
    refine ⟨fun w' => (Blk w' w2.heap.size 112 (kP.cells a2 c2) ∧ Own 5 u8v w.heap.size w' a1 c1 pb) ∧ Sl u8v w' a9 pb, fun _ h => h.1, ⟨⟨hb9, ho19⟩, ho9.sl⟩, ?_⟩
    conv => whnf
    refine ⟨_, fun w' hw' => run_toStr hw'.2, ?_⟩
    conv => whnf
    intro γ hγ
    have hγ2 : γ = true := by rw [str_eq hγ rfl rfl]; simp
    clear hγ
    subst hγ2
    conv => whnf
    have gt2 := tick_calls hs9 (by decide) (by decide)
    have et2 : tickF (sendF kSS) = ({ sendF kSS with wait := 3 }, []) := rfl
    rw [et2] at gt2
    refine Calls.ret (gt2) ?_
    rintro _ w10 ⟨a10, c10, rfl, ho10, hs10, g10⟩
    conv => whnf
    refine Calls.ret (done_calls hs10) ?_
    rintro _ w11 ⟨rfl, hw11⟩
    conv => whnf
    subst hw11
    exact ⟨(), ⟨rfl, trivial⟩, g10.extOf (g9.extOf (x07.trans x8) (fun g hg => by cases hg; omega)) (fun g hg => by cases hg; omega)⟩
  rintro _ w8 x8
  conv => whnf
  exact ⟨rfl, x8⟩
end Go.Proofs.Ytgipackjnncabaa

/- Walks of layer 23, seventh part: the reference's sender. -/
set_option linter.unusedVariables false
namespace Go.Proofs.Ytgipackjnncabaa
open Go.Vc Go.RowKit

/-- how long a chunk is -/
def longF (size chunk : Nat) : Nat := if 31 < chunk ∨ size ≤ 64 * chunk then 0 else if size - 64 * chunk < 64 then size - 64 * chunk else 64

theorem long_calls {w : World} (size chunk : Nat) (hs : size ≤ 1048576) (hc : chunk ≤ 1048576) : Calls Try.prog 176 #[.int .i64 size, .int .i64 chunk] w (Ret fun v w' => v = .int .i64 (longF size chunk) ∧ w' = w) := by
  refine calls_of_vc lok Try.func176 ?_ rfl
  conv => whnf
  refine vcReg_meet lok (fun β : Bool => [(16, .bool β)]) (fun β w' => w' = w ∧ β = decide (31 < chunk ∨ size ≤ 64 * chunk)) [16] (fun _ => rfl) rfl ?_ ?_
  · conv => whnf
    refine bcase (fun h2 => ?_) (fun h2 => ?_)
    · have h2 := dt h2
      conv => whnf
      exact ⟨_, ⟨rfl, trivial⟩, rfl, by rw [eq_comm, decide_eq_true_iff]; omega⟩
    · have h2 := df h2
      conv => whnf
      refine ⟨by omega, ?_⟩
      conv => whnf
      exact ⟨_, ⟨rfl, trivial⟩, rfl, by rw [decide_eq_decide]; omega⟩
  rintro β w1 ⟨hw1, hβ⟩
  subst hw1
  conv => whnf
  refine vcCond_split lok rfl (fun h1 => ?_) (fun h1 => ?_)
  · rw [h1] at hβ
    have e : longF size chunk = 0 := if_pos (dt hβ.symm)
    rw [e]
    conv => whnf
    exact ⟨rfl, rfl⟩
  rw [h1] at hβ
  have hn := df hβ.symm
  conv => whnf
  refine ⟨by omega, ?_⟩
  conv => whnf
  refine ⟨by omega, ?_⟩
  conv => whnf
  refine vcCond_split lok rfl (fun h2 => ?_) (fun h2 => ?_)
  · have h2 := dt h2
    conv => whnf
    have e : longF size chunk = size - 64 * chunk := by unfold longF; rw [if_neg hn, if_pos (by omega)]
    refine ⟨by omega, ?_⟩
    conv => whnf
    refine ⟨by omega, ?_⟩
    conv => whnf
    refine ⟨?_, rfl⟩
    rw [e]
    congr 1
    omega
  · have h2 := df h2
    conv => whnf
    have e : longF size chunk = 64 := by unfold longF; rw [if_neg hn, if_neg (by omega)]
    rw [e]
    exact ⟨rfl, rfl⟩

/-- missing -/
theorem missing_calls {B : Nat} {w : World} {b c : Nat} {a : Option Addr} {s : SS} (h : SnAt 136 B w b a c s) (hl : s.data.length ≤ 2048) :
    Calls Try.prog 184 #[.pointer (some ⟨b, 0, none⟩)] w (Ret fun v w' => v = .int .i64 (match missF s.data.length s.hav 40 0 with | some k => (k : Int) | none => -1) ∧ w' = w) := by
  refine calls_of_vc lok Try.func184 ?_ rfl
  conv => whnf
  refine ⟨_, h.blk.cell (i := 2) rfl, ?_⟩
  conv => whnf
  have hhl := s.hav.isLt
  refine vcLoop_inv lok (σ := Nat × Nat)
    (fun ⟨k, n⟩ => [(4, .int .i64 k), (3, .int .u32 n), (0, .pointer (some ⟨b, 0, none⟩))])
    (fun ⟨k, n⟩ w1 => k ≤ 32 ∧ n = s.hav.toNat / 2 ^ k ∧ missF s.data.length s.hav 40 0 = missF s.data.length s.hav (40 - k) k ∧ w1 = w) (fun t => 33 - t.1)
    (0, s.hav.toNat) ⟨rfl, rfl, rfl, trivial⟩ ⟨Nat.zero_le _, by simp, rfl, rfl⟩ ?_
  rintro ⟨k, n⟩ w1 ⟨hk, hn, hmi, hw1⟩
  subst hw1
  have hnl : n ≤ s.hav.toNat := by rw [hn]; exact Nat.div_le_self _ _
  have hst := missF_step (hav := s.hav) hl (40 - k) k (by omega)
  rw [hst] at hmi
  conv => whnf
  refine ⟨_, h.blk.cell (i := 1) rfl, ?_⟩
  conv => whnf
  refine Calls.ret (long_calls s.data.length k (by omega) (by omega)) ?_
  rintro _ w2 ⟨rfl, hw2⟩
  conv => whnf
  subst hw2
  conv => whnf
  refine vcCond_split lok rfl (fun h2 => ?_) (fun h2 => ?_)
  · have h2 := dt h2
    conv => whnf
    have hkl : k ≤ 31 ∧ 64 * k < s.data.length := by
      unfold longF at h2
      split at h2
      · exact absurd h2 (by decide)
      · omega
    rw [if_pos hkl.2] at hmi
    refine ⟨by decide, ?_⟩
    intro z hz
    have hz25 : z = ((n % 2 : Nat) : Int) := by rw [hz, Int.tmod_eq_emod_of_nonneg (by omega)]; omega
    clear hz
    subst hz25
    conv => whnf
    have hb : s.hav.getLsbD k = decide (n % 2 = 1) := by rw [bit_nat, hn]
    refine vcCond_split lok rfl (fun h3 => ?_) (fun h3 => ?_)
    · have h3 := dt h3
      conv => whnf
      rw [hb, decide_eq_false (by omega), if_neg (by decide)] at hmi
      rw [hmi]
      exact ⟨rfl, rfl⟩
    · have h3 := df h3
      conv => whnf
      rw [hb, decide_eq_true (by omega), if_pos rfl] at hmi
      refine ⟨by decide, ?_⟩
      intro z hz
      have hz29 : z = ((n / 2 : Nat) : Int) := by rw [hz, Int.tdiv_eq_ediv_of_nonneg (by omega), wu32]; omega
      clear hz
      subst hz29
      conv => whnf
      refine ⟨by omega, ?_⟩
      conv => whnf
      exact ⟨(k + 1, n / 2), ⟨rfl, rfl, rfl, trivial⟩, ⟨by omega, by rw [hn, Nat.div_div_eq_div_mul, Nat.pow_succ], by rw [hmi]; congr 1, rfl⟩, by omega⟩
  · have h2 := df h2
    conv => whnf
    have hkl : ¬ 64 * k < s.data.length := by
      intro h3
      apply h2
      unfold longF
      rw [if_neg (by omega)]
      split <;> omega
    rw [if_neg hkl] at hmi
    rw [hmi]
    exact ⟨rfl, rfl⟩

theorem built70q (v n : Int) : Try.prog.built 70 [(0, .int .i64 1), (1, .int .u32 v), (2, .int .i64 n)] = some #[.int .i64 1, .int .u32 v, .int .i64 n, .int .i64 0, .int .i64 0, .int .u32 0, .slice none 0 0] := by kernel_rfl
theorem built70d (v k : Int) (a : Option Addr) (n c : Nat) : Try.prog.built 70 [(0, .int .i64 2), (1, .int .u32 v), (3, .int .i64 k), (6, .slice a n c)] = some #[.int .i64 2, .int .u32 v, .int .i64 0, .int .i64 k, .int .i64 0, .int .u32 0, .slice a n c] := by kernel_rfl

theorem missF_lt {len : Nat} {hav : BitVec 32} : ∀ (f k j : Nat), missF len hav f k = some j → 64 * j < len
  | 0, k, j, h => by cases h
  | f + 1, k, j, h => by
    unfold missF at h
    split at h
    · split at h
      · exact missF_lt f (k + 1) j h
      · cases h; assumption
    · cases h

set_option maxHeartbeats 2000000 in
/-- send -/
theorem rsend_calls {B : Nat} {w : World} {b c : Nat} {a : Option Addr} {s : SS} (h : SnAt 136 B w b a c s) (hl : s.data.length ≤ 2048) :
    Calls Try.prog 167 #[.pointer (some ⟨b, 0, none⟩)] w (Ret fun v w' => ∃ a' c', v = .slice a' (outF s).length c' ∧ Own 5 u8v w.heap.size w' a' c' (outF s) ∧ SnAt 136 B w' b a c (sendF s) ∧ Gr w w' (some b)) := by
  have hlc := h.own.le.1
  refine calls_of_vc lok Try.func167 ?_ rfl
  conv => whnf
  refine ⟨h.blk.can 5 (by simp [SS.cells]) _ rfl, fun w1 hw1 => ?_⟩
  have k1 := h.setField 5 (.int .i64 4) (sendF s) rfl rfl hw1
  obtain ⟨h1, g1⟩ := k1
  clear hw1
  have z1 := g1.size
  have qb := h1.blk.lt
  conv => whnf
  refine vcDraw_meet lok mixed (fun w' => SnAt 136 B w' b a c (sendF s)) [10] [0, 1, 2, 3, 4, 5, 6, 7, 8, 9, 10, 11]
    (fun t : Nat => [(3, .pointer (some ⟨t, 0, none⟩))]) (fun t w' => w1.heap.size ≤ t ∧ Blk w' t 70 ((⟨1, s.ver, s.data.length, 0, 0, 0#32, []⟩ : Pk).cells none 0) ∧ Ext w1 w') [3] (fun _ => rfl) rfl (by kernel_rfl) (fun w2 hw2 => ⟨h1.ext (hw2 ▸ Ext.drew w1), ?_⟩) ?_
  · have x2 : Ext w1 w2 := hw2 ▸ Ext.drew w1
    have h2 := h1.ext x2
    conv => whnf
    refine ⟨_, fun w' hw' => hw'.blk.cell0 rfl, ?_⟩
    conv => whnf
    refine ⟨_, fun w' hw' => hw'.blk.cell (i := 1) rfl, ?_⟩
    conv => whnf
    refine ⟨_, fun w => run_build w 70 _ _ (built70q _ _), ?_⟩
    conv => whnf
    intro w3 hw3
    have hb3 : Blk w3 w2.heap.size 70 (Pk.zero.cells none 0) := by rw [hw3]; exact Blk.new w2 70 _
    have x3 : Ext w2 w3 := by rw [hw3]; exact Ext.new _ _
    clear hw3
    refine ⟨_, fun _ h => h, h2.ext x3, ?_⟩
    conv => whnf
    have k4 := Blk.storeAgg lok hb3 (t := 70) (us := (⟨1, s.ver, s.data.length, 0, 0, 0#32, []⟩ : Pk).cells none 0) rfl 0 (Nat.le_refl 7) (Pk.one _ _ _)
    obtain ⟨w4, hr4, hb4, g4⟩ := k4
    have hb4 : Blk w4 w2.heap.size 70 ((⟨1, s.ver, s.data.length, 0, 0, 0#32, []⟩ : Pk).cells none 0) := hb4
    have x4 : Ext w2 w4 := g4.extOf x3 (fun g hg => by cases hg; exact Nat.le_refl _)
    refine ⟨w4, hr4, ?_⟩
    conv => whnf
    exact ⟨w2.heap.size, ⟨rfl, trivial⟩, x2.size, hb4, x2.trans x4⟩
  rintro bp w2 ⟨hbp, hb2, x2⟩
  have h2 := h1.ext x2
  have g2 : Gr w w2 (some b) := g1.step (Gr.ofExt x2 none) (.inr (fun g hg => by cases hg))
  have qa : ∀ g, blockOf a = some g → g < bp := fun g hg => by have := (h1.own.ge g hg).2; omega
  conv => whnf
  refine ⟨_, h2.blk.cell (i := 3) rfl, ?_⟩
  conv => whnf
  have eo : outF s = if (nextF s).2 = true then (packF (nextF s).1).1 else [] := rfl
  refine vcCond_meet (fun t : Option Addr × Nat => [(3, .pointer (some ⟨bp, 0, none⟩)), (0, .pointer (some ⟨b, 0, none⟩))])
    (fun t w' => (nextF s).2 = true ∧ Blk w' bp 70 ((nextF s).1.cells t.1 t.2) ∧ Sl u8v w' t.1 (nextF s).1.data ∧ SnAt 136 B w' b a c (sendF s) ∧ Gr w w' (some b)) ?_ ?_
  · cases hwa : s.wanted with
    | false =>
      have e : nextF s = (⟨1, s.ver, s.data.length, 0, 0, 0#32, []⟩, true) := if_neg (by rw [hwa]; exact Bool.false_ne_true)
      rw [e]
      refine vcCond_false lok (by rw [show (sendF s).wanted = false from hwa]; rfl) ?_
      conv => whnf
      exact ⟨(none, 0), ⟨rfl, rfl, trivial⟩, rfl, hb2, .inl rfl, h2, g2⟩
    | true =>
      refine vcCond_true lok (by rw [show (sendF s).wanted = true from hwa]; rfl) ?_
      conv => whnf
      have gm := missing_calls h2 hl
      have em : missF (sendF s).data.length (sendF s).hav 40 0 = missF s.data.length s.hav 40 0 := rfl
      rw [em] at gm
      cases hmi : missF s.data.length s.hav 40 0 with
      | none =>
        rw [hmi] at gm
        have gm : Calls Try.prog 184 #[.pointer (some ⟨b, 0, none⟩)] w2 (Ret fun v w' => v = .int .i64 (-1) ∧ w' = w2) := gm
        refine Calls.ret (gm) ?_
        rintro _ w3 ⟨rfl, hw3⟩
        conv => whnf
        subst hw3
        have e : nextF s = (⟨2, s.ver, 0, 0, 0, 0#32, []⟩, false) := by unfold nextF; rw [if_pos hwa, hmi]
        rw [e, if_neg Bool.false_ne_true] at eo
        rw [eo]
        conv => whnf
        refine vcCond_true lok (rfl) ?_
        conv => whnf
        exact ⟨none, 0, rfl, Own.nil _ _ _ _, h2, g2⟩
      | some k =>
        have e : nextF s = (⟨2, s.ver, 0, k, 0, 0#32, chunkS s.data k⟩, true) := by unfold nextF; rw [if_pos hwa, hmi]
        have hkl := missF_lt 40 0 k hmi
        have ecl : (chunkS s.data k).length = min s.data.length (64 * (k + 1)) - 64 * k := by unfold chunkS; rw [List.length_take, List.length_drop]; omega
        have elo : longF s.data.length k = min s.data.length (64 * (k + 1)) - 64 * k := by
          unfold longF
          rw [if_neg (by omega)]
          split <;> omega
        rw [e]
        rw [hmi] at gm
        have gm : Calls Try.prog 184 #[.pointer (some ⟨b, 0, none⟩)] w2 (Ret fun v w' => v = .int .i64 (k : Int) ∧ w' = w2) := gm
        refine Calls.ret (gm) ?_
        rintro _ w3 ⟨rfl, hw3⟩
        conv => whnf
        subst hw3
        conv => whnf
        refine vcCond_split lok rfl (fun h5 => absurd (dt h5) (by show ¬ (k : Int) < 0; omega)) (fun _ => ?_)
        conv => whnf
        refine vcDraw_meet lok mixed (fun w' => SnAt 136 B w' b a c (sendF s)) [19] [0, 1, 2, 3, 4, 5, 6, 7, 8, 9, 10, 11, 12, 13, 14, 15, 16, 17, 18, 19, 20, 21, 22, 23]
          (fun _ : Unit => []) (fun _ w' => ∃ a' c', Blk w' bp 70 ((⟨2, s.ver, 0, k, 0, 0#32, chunkS s.data k⟩ : Pk).cells a' c') ∧ Sl u8v w' a' (chunkS s.data k) ∧ SnAt 136 B w' b a c (sendF s) ∧ Gr w w' (some b)) [] (fun _ => rfl) rfl (by kernel_rfl) (fun w4 hw4 => ⟨h2.ext (hw4 ▸ Ext.drew w3), ?_⟩) ?_
        · have x4 : Ext w3 w4 := hw4 ▸ Ext.drew w3
          have h4 := h2.ext x4
          have hb4 := hb2.ext x4
          conv => whnf
          refine ⟨_, fun w' hw' => hw'.blk.cell0 rfl, ?_⟩
          conv => whnf
          refine ⟨_, fun w' hw' => hw'.blk.cell (i := 1) rfl, ?_⟩
          conv => whnf
          refine ⟨by omega, ?_⟩
          conv => whnf
          refine ⟨by omega, ?_⟩
          conv => whnf
          refine ⟨_, fun w' hw' => hw'.blk.cell (i := 1) rfl, ?_⟩
          conv => whnf
          refine Calls.ret (long_calls s.data.length k (by omega) (by omega)) ?_
          rintro _ w5 ⟨rfl, hw5⟩
          conv => whnf
          subst hw5
          refine ⟨_, fun _ h => h, h4, ?_⟩
          rw [elo]
          conv => whnf
          refine ⟨by omega, ?_⟩
          conv => whnf
          have e1 : 64 * (k : Int) = ((64 * k : Nat) : Int) := by omega
          have e2 : ((64 * k : Nat) : Int) + ((min s.data.length (64 * (k + 1)) - 64 * k : Nat) : Int) = ((min s.data.length (64 * (k + 1)) : Nat) : Int) := by omega
          rw [e1, e2]
          refine ⟨⟨by omega, by omega, by omega⟩, ?_⟩
          intro aa haa
          rw [Int.toNat_natCast] at haa
          have hsl : Sl u8v w5 aa (chunkS s.data k) := by rw [haa]; exact Sl.mid (xs := s.data) h4.own.sl (64 * k) (min s.data.length (64 * (k + 1))) c (by omega) (by omega) hlc
          have hab : ∀ g, blockOf aa = some g → g < bp := by
            intro g hg
            rw [haa] at hg
            refine qa g ?_
            split at hg
            · exact hg
            · cases ha : a with
              | none => rw [ha] at hg; cases hg
              | some p => rw [ha] at hg; have : (p.add (64 * k * 1)).block = g := Option.some.inj hg; rw [← this]; unfold Addr.add; split <;> rfl
          clear haa
          rw [Int.toNat_natCast, Int.toNat_natCast, ← ecl]
          conv => whnf
          refine ⟨_, fun w => run_build w 70 _ _ (built70d _ _ _ _ _), ?_⟩
          conv => whnf
          have k6 := Blk.storeAgg lok hb4 (t := 70) (us := (⟨2, s.ver, 0, k, 0, 0#32, chunkS s.data k⟩ : Pk).cells aa (c - 64 * k)) rfl 0 (Nat.le_refl 7) (Pk.one _ _ _)
          obtain ⟨w6, hr6, hb6, g6⟩ := k6
          have hb6 : Blk w6 bp 70 ((⟨2, s.ver, 0, k, 0, 0#32, chunkS s.data k⟩ : Pk).cells aa (c - 64 * k)) := hb6
          refine ⟨w6, hr6, ?_⟩
          conv => whnf
          exact ⟨(), trivial, aa, _, hb6, g6.keepSl hsl (fun _ g hg q => by have q' := Option.some.inj q; have := hab g hg; omega),
            ⟨h4.blk.keep (g6.block _ h4.blk.lt (fun q => by have q' := Option.some.inj q; omega)), g6.keepOwn h4.own (fun g hg q => by have q' := Option.some.inj q; have := qa g hg; omega), h4.lo, h4.ne⟩,
            (g2.step (Gr.ofExt x4 none) (.inr (fun g hg => by cases hg))).step g6 (.inr (fun g hg => by cases hg; omega))⟩
        rintro _ w4 ⟨a', c', hb4, hs4, h4, g4⟩
        conv => whnf
        exact ⟨(a', c'), ⟨rfl, rfl, trivial⟩, rfl, hb4, hs4, h4, g4⟩
  rintro ⟨a3, c3⟩ w3 ⟨hok, hb3, hs3, h3, g3⟩
  rw [if_pos hok] at eo
  rw [eo]
  generalize (nextF s).1 = p at *
  have hb3 : Blk w3 bp 70 (p.cells a3 c3) := hb3
  conv => whnf
  refine ⟨p.cells a3 c3, rfl, hb3.cells, ?_⟩
  conv => whnf
  refine Calls.ret (rpack_calls p hs3) ?_
  rintro _ w4 ⟨a4, c4, rfl, ho4, x4⟩
  conv => whnf
  exact ⟨a4, c4, rfl, ho4.base g3.size, h3.ext x4, g3.step (Gr.ofExt x4 none) (.inr (fun g hg => by cases hg))⟩

/-- Tick -/
theorem rtick_calls {B : Nat} {w : World} {b c : Nat} {a : Option Addr} {s : SS} (h : SnAt 136 B w b a c s) (hl : s.data.length ≤ 2048) (hw : s.wait ≤ 9223372036854775807) (hv : s.ver ≠ 0#32) :
    Calls Try.prog 116 #[.pointer (some ⟨b, 0, none⟩)] w (Ret fun v w' => ∃ a' c', v = .slice a' (tickF s).2.length c' ∧ Own 5 u8v w.heap.size w' a' c' (tickF s).2 ∧ SnAt 136 B w' b a c (tickF s).1 ∧ Gr w w' (some b)) := by
  refine calls_of_vc lok Try.func116 ?_ rfl
  conv => whnf
  refine ⟨_, h.blk.cell (i := 4) rfl, ?_⟩
  conv => whnf
  cases hd : s.done with
  | true =>
    have e : tickF s = (s, []) := if_pos (.inl hd)
    rw [e]
    refine vcCond_true lok (rfl) ?_
    conv => whnf
    exact ⟨none, 0, rfl, Own.nil _ _ _ _, h, Gr.refl _ _⟩
  | false =>
    have hn : ¬ (s.done = true ∨ s.ver = 0#32) := by rintro (q | q); rw [hd] at q; cases q; exact hv q
    refine vcCond_false lok (rfl) ?_
    conv => whnf
    refine ⟨_, h.blk.cell (i := 5) rfl, ?_⟩
    conv => whnf
    refine vcCond_split lok rfl (fun h2 => ?_) (fun h2 => ?_)
    · have h2 := dt h2
      conv => whnf
      have e : tickF s = ({ s with wait := s.wait - 1 }, []) := by unfold tickF; rw [if_neg hn, if_pos h2]
      rw [e]
      refine ⟨_, h.blk.cell (i := 5) rfl, ?_⟩
      conv => whnf
      refine ⟨by omega, ?_⟩
      conv => whnf
      refine ⟨h.blk.can 5 (by simp [SS.cells]) _ rfl, fun w2 hw2 => ?_⟩
      have k2 := h.setField 5 (.int .i64 (s.wait - 1)) { s with wait := s.wait - 1 } rfl rfl hw2
      exact ⟨none, 0, rfl, Own.nil _ _ _ _, k2.1, k2.2⟩
    · have h2 := df h2
      conv => whnf
      have e : tickF s = (sendF s, outF s) := by unfold tickF; rw [if_neg hn, if_neg h2]
      rw [e]
      refine Calls.ret (rsend_calls h hl) ?_
      rintro _ w2 ⟨a2, c2, rfl, ho2, h2', g2⟩
      conv => whnf
      exact ⟨a2, c2, rfl, ho2, h2', g2⟩
end Go.Proofs.Ytgipackjnncabaa

/- Walks of layer 23, eighth part: what comes to a sender. -/
set_option linter.unusedVariables false
namespace Go.Proofs.Ytgipackjnncabaa
open Go.Vc Go.RowKit

/-- what a sender is behind some bytes, and what it sends -/
def takeF (s : SS) (p : Pk) : SS := if p.state = 2 then { s with wanted := false, hav := 0#32, done := true } else if p.state = 1 then { s with wanted := true, hav := p.hav } else { s with wanted := false, hav := 0#32 }
def recvF (s : SS) (b : List (BitVec 8)) : SS × List (BitVec 8) :=
  if s.done = true ∨ (unpackF b).2 ≠ 0 ∨ (unpackF b).1.kind ≠ 3 ∨ (unpackF b).1.ver ≠ s.ver then (s, [])
  else if (unpackF b).1.state = 1 then (sendF (takeF s (unpackF b).1), outF (takeF s (unpackF b).1)) else (takeF s (unpackF b).1, [])

theorem unpack_can {b : List (BitVec 8)} (h : (unpackF b).2 = 0) : canP (unpackF b).1 = true := by
  have hp := pack_unpack h
  unfold packF at hp
  by_cases hc : canP (unpackF b).1 = true
  · exact hc
  · rw [if_neg hc] at hp
    have : (1 : Int) = 0 := congrArg Prod.snd hp
    omega

theorem ver_ne {x y : BitVec 32} : (x.toNat : Int) = (y.toNat : Int) ↔ x = y := int_eq

set_option maxHeartbeats 2000000 in
/-- Receive -/
theorem recv_calls {B : Nat} {w : World} {b c d : Nat} {a e : Option Addr} {s : SS} {bs : List (BitVec 8)} (h : SnAt 190 B w b a c s) (hl : s.data.length ≤ 2048) (hv : s.ver ≠ 0#32) (hs : Sl u8v w e bs) (hbl : bs.length ≤ 16777216) (hbd : bs.length ≤ d) :
    Calls Try.prog 88 #[.pointer (some ⟨b, 0, none⟩), .slice e bs.length d] w (Ret fun v w' => ∃ a' c', v = .slice a' (recvF s bs).2.length c' ∧ Own 5 u8v w.heap.size w' a' c' (recvF s bs).2 ∧ SnAt 190 B w' b a c (recvF s bs).1 ∧ Gr w w' (some b)) := by
  refine calls_of_vc lok Try.func88 ?_ rfl
  conv => whnf
  refine vcReg_meet lok (fun β : Bool => [(21, .bool β)]) (fun β w' => w' = w ∧ β = s.done) [21] (fun _ => rfl) rfl ?_ ?_
  · conv => whnf
    refine ⟨_, h.blk.cell (i := 4) rfl, ?_⟩
    conv => whnf
    refine bcase (fun h1 => ?_) (fun h1 => ?_)
    · conv => whnf
      exact ⟨_, ⟨rfl, trivial⟩, rfl, h1.symm⟩
    · conv => whnf
      refine ⟨_, h.blk.cell0 rfl, ?_⟩
      conv => whnf
      refine ⟨_, ⟨rfl, trivial⟩, rfl, ?_⟩
      rw [h1, decide_eq_false]
      intro q
      exact hv ((ver_ne (x := s.ver) (y := 0#32)).1 q)
  rintro β w1 ⟨hw1, hβ⟩
  subst hw1
  conv => whnf
  refine vcCond_split lok rfl (fun h1 => ?_) (fun h1 => ?_)
  · rw [h1] at hβ
    have er : recvF s bs = (s, []) := if_pos (.inl hβ.symm)
    rw [er]
    conv => whnf
    exact ⟨none, 0, rfl, Own.nil _ _ _ _, h, Gr.refl _ _⟩
  rw [h1] at hβ
  conv => whnf
  refine Calls.ret (unpack_calls hs hbl hbd) ?_
  rintro _ w2 ⟨a2, c2, rfl, ho2, x2⟩
  conv => whnf
  have er : recvF s bs = if s.done = true ∨ (unpackF bs).2 ≠ 0 ∨ (unpackF bs).1.kind ≠ 3 ∨ (unpackF bs).1.ver ≠ s.ver then (s, [])
    else if (unpackF bs).1.state = 1 then (sendF (takeF s (unpackF bs).1), outF (takeF s (unpackF bs).1)) else (takeF s (unpackF bs).1, []) := rfl
  have hcan := unpack_can (b := bs)
  generalize unpackF bs = up at *
  obtain ⟨p, pe⟩ := up
  simp only at er hcan
  have h2 := h.ext x2
  have qb := h.blk.lt
  have z2 := x2.size
  have qa : ∀ g, blockOf a = some g → g < w1.heap.size := fun g hg => (h.own.ge g hg).2
  conv => whnf
  intro w3 hw3
  have hb3 : Blk w3 w2.heap.size 112 (Pk.zero.cells none 0) := by rw [hw3]; exact Blk.new w2 112 _
  have x3 : Ext w2 w3 := by rw [hw3]; exact Ext.new _ _
  clear hw3
  conv => whnf
  have k4 := Blk.storeAgg lok hb3 (t := 112) (us := p.cells a2 c2) rfl 0 (Nat.le_refl 7) (Pk.one _ _ _)
  obtain ⟨w4, hr4, hb4, g4⟩ := k4
  have hb4 : Blk w4 w2.heap.size 112 (p.cells a2 c2) := hb4
  have x4 : Ext w2 w4 := g4.extOf x3 (fun g hg => by cases hg; exact Nat.le_refl _)
  refine ⟨w4, hr4, ?_⟩
  have h4 := h2.ext x4
  have x04 := x2.trans x4
  clear hr4 g4 hb3 x3
  generalize hbp : w2.heap.size = bp at *
  conv => whnf
  refine vcDraw_meet lok mixed (fun w' => w' = w4.drew) [] [0, 1, 2, 3, 4, 5, 6, 7, 8, 9, 10, 11, 12, 13, 14, 15]
    (fun β : Bool => [(42, .bool β)]) (fun β w' => Ext w4 w' ∧ β = decide (pe ≠ 0 ∨ p.kind ≠ 3 ∨ p.ver ≠ s.ver)) [42] (fun _ => rfl) rfl (by kernel_rfl) (fun w5 hw5 => ⟨hw5, ?_⟩) ?_
  · have x5 : Ext w4 w5 := hw5 ▸ Ext.drew w4
    have hb5 := hb4.ext x5
    have h5 := h4.ext x5
    conv => whnf
    refine bcase (fun k1 => ?_) (fun k1 => ?_)
    · have k1 := ne_true k1
      conv => whnf
      exact ⟨_, ⟨rfl, trivial⟩, x5, by rw [eq_comm, decide_eq_true_iff]; exact .inl k1⟩
    · have k1 := ne_false k1
      conv => whnf
      refine ⟨_, fun w' hw' => by rw [hw', ← hw5]; exact hb5.cell0 rfl, ?_⟩
      conv => whnf
      refine bcase (fun k2 => ?_) (fun k2 => ?_)
      · have k2 := ne_true k2
        conv => whnf
        exact ⟨_, ⟨rfl, trivial⟩, x5, by rw [eq_comm, decide_eq_true_iff]; exact .inr (.inl k2)⟩
      · have k2 := ne_false k2
        conv => whnf
        refine ⟨_, fun w' hw' => by rw [hw', ← hw5]; exact hb5.cell (i := 1) rfl, ?_⟩
        conv => whnf
        refine ⟨_, fun w' hw' => by rw [hw', ← hw5]; exact h5.blk.cell0 rfl, ?_⟩
        conv => whnf
        refine ⟨_, ⟨rfl, trivial⟩, x5, ?_⟩
        by_cases k3 : p.ver = s.ver
        · rw [decide_eq_true (ver_ne.2 k3), decide_eq_false]
          · rfl
          · rintro (q | q | q)
            · exact q k1
            · exact q k2
            · exact q k3
        · rw [decide_eq_false (fun q => k3 (ver_ne.1 q)), decide_eq_true (.inr (.inr k3))]
          rfl
  rintro β w5 ⟨x5, hβ5⟩
  have h5 := h4.ext x5
  have hb5 := hb4.ext x5
  have x05 := x04.trans x5
  conv => whnf
  refine vcCond_split lok rfl (fun k5 => ?_) (fun k5 => ?_)
  · rw [k5] at hβ5
    rw [if_pos (.inr (dt hβ5.symm))] at er
    rw [er]
    conv => whnf
    exact ⟨none, 0, rfl, Own.nil _ _ _ _, h5, Gr.ofExt x05 _⟩
  rw [k5] at hβ5
  have hno := df hβ5.symm
  rw [if_neg (fun q => by rcases q with q | q; rw [← hβ] at q; cases q; exact hno q)] at er
  rw [er]
  conv => whnf
  refine ⟨h5.blk.can 3 (by simp [SS.cells]) _ rfl, fun w6 hw6 => ?_⟩
  have k6 := h5.setField 3 (.bool false) { s with wanted := false } rfl rfl hw6
  obtain ⟨h6, g6⟩ := k6
  clear hw6
  have hb6 := hb5.keep (g6.block _ hb5.lt (fun q => by have q' := Option.some.inj q; omega))
  conv => whnf
  refine ⟨h6.blk.can 2 (by simp [SS.cells]) _ rfl, fun w7 hw7 => ?_⟩
  have k7 := h6.setField 2 (u32v 0#32) { s with wanted := false, hav := 0#32 } rfl rfl hw7
  obtain ⟨h7, g7⟩ := k7
  clear hw7
  have hb7 := hb6.keep (g7.block _ hb6.lt (fun q => by have q' := Option.some.inj q; omega))
  have g07 : Gr w1 w7 (some b) := ((Gr.ofExt x05 _).step g6 (.inl rfl)).step g7 (.inl rfl)
  have z7 := g07.size
  conv => whnf
  refine ⟨_, hb7.cell (i := 4) rfl, ?_⟩
  conv => whnf
  refine vcCond_split lok rfl (fun k8 => ?_) (fun k8 => ?_)
  · have k8 : p.state = 2 := dt k8
    rw [if_neg (by omega)]
    have et : takeF s p = { s with wanted := false, hav := 0#32, done := true } := if_pos k8
    rw [et]
    conv => whnf
    refine ⟨h7.blk.can 4 (by simp [SS.cells]) _ rfl, fun w8 hw8 => ?_⟩
    have k8 := h7.setField 4 (.bool true) { s with wanted := false, hav := 0#32, done := true } rfl rfl hw8
    exact ⟨none, 0, rfl, Own.nil _ _ _ _, k8.1, g07.step k8.2 (.inl rfl)⟩
  · have k8 : ¬ p.state = 2 := df k8
    conv => whnf
    refine vcCond_split lok rfl (fun k9 => ?_) (fun k9 => ?_)
    · have k9 : p.state = 1 := dt k9
      rw [if_pos k9]
      have et : takeF s p = { s with wanted := true, hav := p.hav } := by unfold takeF; rw [if_neg k8, if_pos k9]
      rw [et]
      conv => whnf
      refine vcDraw_meet lok mixed (fun w' => Blk w' bp 112 (p.cells a2 c2)) [6] [0, 1, 2, 3, 4, 5, 6, 7, 8, 9]
        (fun _ : Unit => []) (fun _ w' => SnAt 190 B w' b a c { s with wanted := true, hav := p.hav } ∧ Gr w1 w' (some b)) [] (fun _ => rfl) rfl (by kernel_rfl) (fun w8 hw8 => ⟨hb7.ext (hw8 ▸ Ext.drew w7), ?_⟩) ?_
      · have x8 : Ext w7 w8 := hw8 ▸ Ext.drew w7
        have h8 := h7.ext x8
        have hb8 := hb7.ext x8
        conv => whnf
        refine ⟨_, fun w' hw' => hw'.cell (i := 5) rfl, ?_⟩
        conv => whnf
        refine ⟨h8.blk.can 3 (by simp [SS.cells]) _ rfl, fun w9 hw9 => ?_⟩
        have k9' := h8.setField 3 (.bool true) { s with wanted := true, hav := 0#32 } rfl rfl hw9
        obtain ⟨h9, g9⟩ := k9'
        clear hw9
        refine ⟨_, fun _ h => h, hb8.keep (g9.block _ hb8.lt (fun q => by have q' := Option.some.inj q; omega)), ?_⟩
        conv => whnf
        refine ⟨h9.blk.can 2 (by simp [SS.cells]) _ rfl, fun w10 hw10 => ?_⟩
        have k10 := h9.setField 2 (u32v p.hav) { s with wanted := true, hav := p.hav } rfl rfl hw10
        exact ⟨(), trivial, k10.1, ((g07.step (Gr.ofExt x8 _) (.inl rfl)).step g9 (.inl rfl)).step k10.2 (.inl rfl)⟩
      rintro _ w8 ⟨h8, g8⟩
      conv => whnf
      refine Calls.ret (send_calls h8 hl) ?_
      rintro _ w9 ⟨a9, c9, rfl, ho9, h9, g9⟩
      conv => whnf
      exact ⟨a9, c9, rfl, ho9.base g8.size, h9, g8.step g9 (.inl rfl)⟩
    · have k9 : ¬ p.state = 1 := df k9
      rw [if_neg k9]
      have et : takeF s p = { s with wanted := false, hav := 0#32 } := by unfold takeF; rw [if_neg k8, if_neg k9]
      rw [et]
      exact ⟨none, 0, rfl, Own.nil _ _ _ _, h7, g07⟩

set_option maxHeartbeats 2000000 in
/-- its reference -/
theorem rrecv_calls {B : Nat} {w : World} {b c d : Nat} {a e : Option Addr} {s : SS} {bs : List (BitVec 8)} (h : SnAt 136 B w b a c s) (hl : s.data.length ≤ 2048) (hs : Sl u8v w e bs) (hbl : bs.length ≤ 16777216) (hbd : bs.length ≤ d) :
    Calls Try.prog 117 #[.pointer (some ⟨b, 0, none⟩), .slice e bs.length d] w (Ret fun v w' => ∃ a' c', v = .slice a' (recvF s bs).2.length c' ∧ Own 5 u8v w.heap.size w' a' c' (recvF s bs).2 ∧ SnAt 136 B w' b a c (recvF s bs).1 ∧ Gr w w' (some b)) := by
  refine calls_of_vc lok Try.func117 ?_ rfl
  conv => whnf
  refine Calls.ret (runpack_calls hs hbl hbd) ?_
  rintro _ w2 ⟨a2, c2, rfl, ho2, x2⟩
  conv => whnf
  have er : recvF s bs = if s.done = true ∨ (unpackF bs).2 ≠ 0 ∨ (unpackF bs).1.kind ≠ 3 ∨ (unpackF bs).1.ver ≠ s.ver then (s, [])
    else if (unpackF bs).1.state = 1 then (sendF (takeF s (unpackF bs).1), outF (takeF s (unpackF bs).1)) else (takeF s (unpackF bs).1, []) := rfl
  have hcan := unpack_can (b := bs)
  generalize unpackF bs = up at *
  obtain ⟨p, pe⟩ := up
  simp only at er hcan
  have h2 := h.ext x2
  have qb := h.blk.lt
  have z2 := x2.size
  have qa : ∀ g, blockOf a = some g → g < w.heap.size := fun g hg => (h.own.ge g hg).2
  conv => whnf
  intro w3 hw3
  have hb3 : Blk w3 w2.heap.size 70 (Pk.zero.cells none 0) := by rw [hw3]; exact Blk.new w2 70 _
  have x3 : Ext w2 w3 := by rw [hw3]; exact Ext.new _ _
  clear hw3
  conv => whnf
  have k4 := Blk.storeAgg lok hb3 (t := 70) (us := p.cells a2 c2) rfl 0 (Nat.le_refl 7) (Pk.one _ _ _)
  obtain ⟨w4, hr4, hb4, g4⟩ := k4
  have hb4 : Blk w4 w2.heap.size 70 (p.cells a2 c2) := hb4
  have x4 : Ext w2 w4 := g4.extOf x3 (fun g hg => by cases hg; exact Nat.le_refl _)
  refine ⟨w4, hr4, ?_⟩
  have h4 := h2.ext x4
  have x04 := x2.trans x4
  clear hr4 g4 hb3 x3
  generalize hbp : w2.heap.size = bp at *
  conv => whnf
  refine vcDraw_meet lok mixed (fun w' => w' = w4.drew) [] [0, 1, 2, 3, 4, 5, 6, 7, 8, 9, 10, 11, 12, 13, 14, 15, 16, 17, 18, 19, 20, 21]
    (fun β : Bool => [(33, .bool β)]) (fun β w' => Ext w4 w' ∧ β = decide (s.done = true ∨ pe ≠ 0 ∨ p.kind ≠ 3 ∨ p.ver ≠ s.ver)) [33] (fun _ => rfl) rfl (by kernel_rfl) (fun w5 hw5 => ⟨hw5, ?_⟩) ?_
  · have x5 : Ext w4 w5 := hw5 ▸ Ext.drew w4
    have hb5 := hb4.ext x5
    have h5 := h4.ext x5
    conv => whnf
    refine ⟨_, fun w' hw' => by rw [hw', ← hw5]; exact h5.blk.cell (i := 4) rfl, ?_⟩
    conv => whnf
    refine bcase (fun k0 => ?_) (fun k0 => ?_)
    · conv => whnf
      exact ⟨_, ⟨rfl, trivial⟩, x5, by rw [eq_comm, decide_eq_true_iff]; exact .inl k0⟩
    conv => whnf
    refine bcase (fun k1 => ?_) (fun k1 => ?_)
    · have k1 := ne_true k1
      conv => whnf
      exact ⟨_, ⟨rfl, trivial⟩, x5, by rw [eq_comm, decide_eq_true_iff]; exact .inr (.inl k1)⟩
    · have k1 := ne_false k1
      conv => whnf
      refine ⟨_, fun w' hw' => by rw [hw', ← hw5]; exact hb5.cell0 rfl, ?_⟩
      conv => whnf
      refine bcase (fun k2 => ?_) (fun k2 => ?_)
      · have k2 := ne_true k2
        conv => whnf
        exact ⟨_, ⟨rfl, trivial⟩, x5, by rw [eq_comm, decide_eq_true_iff]; exact .inr (.inr (.inl k2))⟩
      · have k2 := ne_false k2
        conv => whnf
        refine ⟨_, fun w' hw' => by rw [hw', ← hw5]; exact hb5.cell (i := 1) rfl, ?_⟩
        conv => whnf
        refine ⟨_, fun w' hw' => by rw [hw', ← hw5]; exact h5.blk.cell0 rfl, ?_⟩
        conv => whnf
        refine ⟨_, ⟨rfl, trivial⟩, x5, ?_⟩
        by_cases k3 : p.ver = s.ver
        · rw [decide_eq_true (ver_ne.2 k3), decide_eq_false]
          · rfl
          · rintro (q | q | q | q)
            · rw [k0] at q; cases q
            · exact q k1
            · exact q k2
            · exact q k3
        · rw [decide_eq_false (fun q => k3 (ver_ne.1 q)), decide_eq_true (.inr (.inr (.inr k3)))]
          rfl
  rintro β w5 ⟨x5, hβ5⟩
  have h5 := h4.ext x5
  have hb5 := hb4.ext x5
  have x05 := x04.trans x5
  conv => whnf
  refine vcCond_split lok rfl (fun k5 => ?_) (fun k5 => ?_)
  · rw [k5] at hβ5
    rw [if_pos (dt hβ5.symm)] at er
    rw [er]
    conv => whnf
    exact ⟨none, 0, rfl, Own.nil _ _ _ _, h5, Gr.ofExt x05 _⟩
  rw [k5] at hβ5
  have hno := df hβ5.symm
  rw [if_neg hno] at er
  rw [er]
  have hpe : pe = 0 := by
    by_cases q : pe = 0
    · exact q
    · exact absurd (.inr (.inl q)) hno
  have hk3 : p.kind = 3 := by
    by_cases q : p.kind = 3
    · exact q
    · exact absurd (.inr (.inr (.inl q))) hno
  have hst : 0 ≤ p.state ∧ p.state ≤ 2 := by
    have hc := of_decide_eq_true (hcan hpe)
    omega
  conv => whnf
  refine ⟨_, hb5.cell (i := 4) rfl, ?_⟩
  conv => whnf
  refine ⟨h5.blk.can 3 (by simp [SS.cells]) _ rfl, fun w6 hw6 => ?_⟩
  have k6 := h5.setField 3 (.bool (decide (p.state = 1))) { s with wanted := decide (p.state = 1) } rfl rfl hw6
  obtain ⟨h6, g6⟩ := k6
  clear hw6
  have hb6 := hb5.keep (g6.block _ hb5.lt (fun q => by have q' := Option.some.inj q; omega))
  conv => whnf
  refine ⟨h6.blk.can 2 (by simp [SS.cells]) _ rfl, fun w7 hw7 => ?_⟩
  have k7 := h6.setField 2 (u32v 0#32) { s with wanted := decide (p.state = 1), hav := 0#32 } rfl rfl hw7
  obtain ⟨h7, g7⟩ := k7
  clear hw7
  have hb7 := hb6.keep (g7.block _ hb6.lt (fun q => by have q' := Option.some.inj q; omega))
  have g07 : Gr w w7 (some b) := ((Gr.ofExt x05 _).step g6 (.inl rfl)).step g7 (.inl rfl)
  conv => whnf
  refine ⟨_, hb7.cell (i := 4) rfl, ?_⟩
  conv => whnf
  refine vcCond_split lok rfl (fun k8 => ?_) (fun k8 => ?_)
  · have k8 : p.state = 2 := dt k8
    rw [if_neg (by omega)]
    have et : takeF s p = { s with wanted := false, hav := 0#32, done := true } := if_pos k8
    rw [et]
    rw [decide_eq_false (show ¬ p.state = 1 by omega)] at h7
    conv => whnf
    refine ⟨h7.blk.can 4 (by simp [SS.cells]) _ rfl, fun w8 hw8 => ?_⟩
    have k8 := h7.setField 4 (.bool true) { s with wanted := false, hav := 0#32, done := true } rfl rfl hw8
    exact ⟨none, 0, rfl, Own.nil _ _ _ _, k8.1, g07.step k8.2 (.inl rfl)⟩
  · have k8 : ¬ p.state = 2 := df k8
    conv => whnf
    refine ⟨_, hb7.cell (i := 4) rfl, ?_⟩
    conv => whnf
    refine vcCond_split lok rfl (fun k9 => ?_) (fun k9 => ?_)
    · have k9 : p.state = 0 := dt k9
      rw [if_neg (by omega)]
      have et : takeF s p = { s with wanted := false, hav := 0#32 } := by unfold takeF; rw [if_neg k8, if_neg (by omega)]
      rw [et]
      rw [decide_eq_false (show ¬ p.state = 1 by omega)] at h7
      conv => whnf
      exact ⟨none, 0, rfl, Own.nil _ _ _ _, h7, g07⟩
    · have k9 : ¬ p.state = 0 := df k9
      have k1 : p.state = 1 := by omega
      rw [if_pos k1]
      have et : takeF s p = { s with wanted := true, hav := p.hav } := by unfold takeF; rw [if_neg k8, if_pos k1]
      rw [et]
      rw [decide_eq_true k1] at h7
      conv => whnf
      refine ⟨_, hb7.cell (i := 5) rfl, ?_⟩
      conv => whnf
      refine ⟨h7.blk.can 2 (by simp [SS.cells]) _ rfl, fun w8 hw8 => ?_⟩
      have k8' := h7.setField 2 (u32v p.hav) { s with wanted := true, hav := p.hav } rfl rfl hw8
      obtain ⟨h8, g8⟩ := k8'
      clear hw8
      have g08 := g07.step g8 (.inl rfl)
      conv => whnf
      refine Calls.ret (rsend_calls h8 hl) ?_
      rintro _ w9 ⟨a9, c9, rfl, ho9, h9, g9⟩
      conv => whnf
      exact ⟨a9, c9, rfl, ho9.base g08.size, h9, g08.step g9 (.inl rfl)⟩

theorem built136 (v : Int) : Try.prog.built 136 [(0, .int .u32 v)] = some #[.int .u32 v, .slice none 0 0, .int .u32 0, .bool false, .bool false, .int .i64 0] := by kernel_rfl

/-- the reference's NewSender -/
theorem rnewSender_calls {w : World} {a : Option Addr} {c : Nat} (ver : BitVec 32) {bs : List (BitVec 8)} (h : Sl u8v w a bs) (hl : bs.length ≤ 16777216) :
    Calls Try.prog 115 #[.int .u32 ver.toNat, .slice a bs.length c] w (Ret fun v w' => ∃ b a' c', v = .tuple #[.pointer (some ⟨b, 0, none⟩), .int .i64 (if ver = 0#32 ∨ bs.length = 0 ∨ 2048 < bs.length then 1 else 0)] ∧ SnAt 136 w.heap.size w' b a' c' ⟨ver, bs, 0#32, false, false, 0⟩ ∧ Ext w w') := by
  have h0 : ((ver.toNat : Int) = 0) ↔ ver = 0#32 := int_eq (x := ver) (y := 0#32)
  refine calls_of_vc lok Try.func115 ?_ rfl
  conv => whnf
  refine ⟨_, fun w => run_build w 136 _ _ (built136 _), ?_⟩
  conv => whnf
  intro w1 hw1
  have hb1 : Blk w1 w.heap.size 136 ((⟨ver, [], 0#32, false, false, 0⟩ : SS).cells none 0) := by rw [hw1]; exact Blk.new w 136 _
  have x1 : Ext w w1 := by rw [hw1]; exact Ext.new _ _
  clear hw1
  have q1 := hb1.lt
  conv => whnf
  refine ⟨_, hb1.cell (i := 1) rfl, ?_⟩
  conv => whnf
  have g3 := (Own.nil 5 u8v (w.heap.size + 1) w1).append (ty := 22) (d := c) e8.toElem (fun _ => rfl) (h.ext x1) (by simp; omega) q1
  rw [List.nil_append] at g3
  obtain ⟨a3, c3, w3, hr3, ho3, hg3, _⟩ := g3
  refine ⟨_, _, hr3, ?_⟩
  have x3 : Ext w1 w3 := hg3.extOf (Ext.refl _) (fun g hg => by cases hg)
  have hb3 := hb1.ext x3
  conv => whnf
  refine ⟨hb3.can 1 (by simp [SS.cells]) _ rfl, fun w4 hw4 => ?_⟩
  have hb4 : Blk w4 w.heap.size 136 ((⟨ver, bs, 0#32, false, false, 0⟩ : SS).cells a3 c3) := by rw [hw4]; exact hb3.set 1 _
  have g4 := gr_of_set hw4
  clear hw4
  have hsn : SnAt 136 w.heap.size w4 w.heap.size a3 c3 ⟨ver, bs, 0#32, false, false, 0⟩ := ⟨hb4, (g4.keepOwn ho3 (fun g hg q => by have q' := Option.some.inj q; have := (ho3.ge g hg).1; omega)).base (Nat.le_succ _), Nat.le_refl _, fun q => by have := (ho3.ge _ q).1; omega⟩
  have x4 : Ext w w4 := g4.extOf (x1.trans x3) (fun g hg => by cases hg; exact Nat.le_refl _)
  conv => whnf
  refine vcReg_meet lok (fun β : Bool => [(30, .bool β)]) (fun β w' => w' = w4 ∧ β = decide (ver = 0#32 ∨ bs.length = 0 ∨ 2048 < bs.length)) [30] (fun _ => rfl) rfl ?_ ?_
  · conv => whnf
    refine bcase (fun h1 => ?_) (fun h1 => ?_)
    · have h1 := h0.1 (dt h1)
      conv => whnf
      exact ⟨_, ⟨rfl, trivial⟩, rfl, by rw [eq_comm, decide_eq_true_iff]; exact .inl h1⟩
    · have h1 : ¬ ver = 0#32 := fun e => df h1 (h0.2 e)
      conv => whnf
      refine bcase (fun h2 => ?_) (fun h2 => ?_)
      · have h2 := dt h2
        conv => whnf
        exact ⟨_, ⟨rfl, trivial⟩, rfl, by rw [eq_comm, decide_eq_true_iff]; exact .inr (.inl (by omega))⟩
      · have h2 := df h2
        conv => whnf
        refine ⟨_, ⟨rfl, trivial⟩, rfl, ?_⟩
        rw [decide_eq_decide]
        constructor
        · intro h3; exact .inr (.inr (by omega))
        · rintro (h3 | h3 | h3)
          · exact absurd h3 h1
          · omega
          · omega
  rintro β w5 ⟨hw5, hβ⟩
  subst hw5
  conv => whnf
  refine vcCond_split lok rfl (fun h1 => ?_) (fun h1 => ?_)
  · rw [h1] at hβ
    rw [if_pos (dt hβ.symm)]
    conv => whnf
    exact ⟨_, _, _, rfl, hsn, x4⟩
  · rw [h1] at hβ
    rw [if_neg (df hβ.symm)]
    conv => whnf
    exact ⟨_, _, _, rfl, hsn, x4⟩
end Go.Proofs.Ytgipackjnncabaa
