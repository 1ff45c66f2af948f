/- The laws CrcLinear and CrcTurned, walked. -/
import Derived.Test.YtgipackjnncabaaL03a
set_option linter.unusedVariables false
namespace Go.Proofs.Ytgipackjnncabaa
open Go.Vc Go.RowKit

/-- Count -/
theorem count_calls {w : World} (n most : Int) (hn : -9223372036854775808 ≤ n ∧ n ≤ 9223372036854775807) (h1 : 1 ≤ most) (h2 : most ≤ 4294967296) :
    Calls Try.prog 84 #[.int .i64 n, .int .i64 most] w (Ret fun v w' => v = .int .i64 (n % most) ∧ w' = w) := by
  have e0 := Int.emod_nonneg n (show most ≠ 0 by omega)
  have e1 := Int.emod_lt_of_pos n (show 0 < most by omega)
  have e2 : n.tmod most = n % most ∨ (n.tmod most < 0 ∧ n.tmod most + most = n % most) := by
    rw [Int.tmod_eq_emod]
    split
    · exact .inl (by omega)
    · rename_i h
      have e3 : (most.natAbs : Int) = most := by omega
      rw [e3]
      by_cases h0 : n % most = 0
      · exfalso
        exact h (.inr (Int.dvd_of_emod_eq_zero h0))
      · right; omega
  refine calls_of_vc lok Try.func84 ?_ rfl
  conv => whnf
  refine ⟨by omega, ?_⟩
  intro z hz
  rw [← hz] at e2
  clear hz
  conv => whnf
  refine vcCond_split lok rfl (fun h3 => ?_) (fun h3 => ?_)
  · have h3 := dt h3
    conv => whnf
    refine ⟨by omega, ?_⟩
    conv => whnf
    have e : z + most = n % most := by omega
    rw [e]
    exact ⟨rfl, rfl⟩
  · have h3 := df h3
    conv => whnf
    have e : z = n % most := by omega
    rw [e]
    exact ⟨rfl, rfl⟩

/-- the first i elements of a list, others behind -/
def preF {α : Type} (d : α) (xs : List α) (i : Nat) : List α := xs.take i ++ List.replicate (xs.length - i) d
theorem preF_len {α : Type} (d : α) (xs : List α) (i : Nat) (hi : i ≤ xs.length) : (preF d xs i).length = xs.length := by
  unfold preF
  rw [List.length_append, List.length_take, List.length_replicate]; omega
theorem preF_succ {α : Type} (d : α) (xs : List α) (i : Nat) (hi : i < xs.length) : (preF d xs i).set i xs[i] = preF d xs (i + 1) := by
  unfold preF
  have hl : (xs.take i).length = i := by rw [List.length_take]; omega
  rw [List.set_append_right _ _ (by omega), hl, Nat.sub_self, show xs.length - i = (xs.length - (i + 1)) + 1 by omega, List.replicate_succ, List.set_cons_zero, List.take_succ_eq_append_getElem hi, List.append_assoc]
  rfl
theorem preF_all {α : Type} (d : α) (xs : List α) : preF d xs xs.length = xs := by
  unfold preF
  rw [List.take_length, Nat.sub_self]
  simp

set_option maxHeartbeats 2000000 in
theorem crcLinear_walk {w : World} {a b e : Option Addr} {c d f : Nat} {xs ys zs : List (BitVec 8)} (h : Sl u8v w a xs) (hb : Sl u8v w b ys) (he : Sl u8v w e zs) (hc : xs.length ≤ c) (hd : ys.length ≤ d) (hf : zs.length ≤ f) :
    Calls Try.prog 15 #[.slice a xs.length c, .slice b ys.length d, .slice e zs.length f] w (Law w) := by
  refine calls_of_vc lok Try.func15 ?_ rfl
  conv => whnf
  refine vcReg_meet lok (fun β : Bool => [(22, .bool β)]) (fun β w' => w' = w ∧ β = decide (65536 < xs.length ∨ 65536 < ys.length ∨ 65536 < zs.length)) [22] (fun _ => rfl) rfl ?_ ?_
  · conv => whnf
    refine bcase (fun h1 => ?_) (fun h1 => ?_)
    · conv => whnf
      exact ⟨_, ⟨rfl, trivial⟩, rfl, by have := dt h1; simp; omega⟩
    · conv => whnf
      refine bcase (fun h2 => ?_) (fun h2 => ?_)
      · conv => whnf
        exact ⟨_, ⟨rfl, trivial⟩, rfl, by have := dt h2; simp; omega⟩
      · conv => whnf
        exact ⟨_, ⟨rfl, trivial⟩, rfl, by have := df h1; have := df h2; rw [decide_eq_decide]; omega⟩
  rintro β w' ⟨rfl, hβ⟩
  conv => whnf
  refine vcCond_split lok rfl (fun h1 => ?_) (fun h1 => ?_)
  · conv => whnf
    refine Calls.ret (known03) ?_
    rintro _ w1 ⟨rfl, hx1⟩
    conv => whnf
    exact ⟨rfl, hx1⟩
  rw [hβ] at h1
  have hl := df h1
  conv => whnf
  have hn : ∃ n : Nat, (if (zs.length : Int) < (if (ys.length : Int) < (xs.length : Int) then (ys.length : Int) else (xs.length : Int)) then (zs.length : Int) else (if (ys.length : Int) < (xs.length : Int) then (ys.length : Int) else (xs.length : Int))) = (n : Int) ∧ n ≤ xs.length ∧ n ≤ ys.length ∧ n ≤ zs.length := by
    refine ⟨min (min xs.length ys.length) zs.length, ?_, by omega, by omega, by omega⟩
    split <;> split <;> omega
  obtain ⟨n, en, hnx, hny, hnz⟩ := hn
  rw [en]
  clear en
  have g1 := run_makeOwn e8 w'.heap.size w' (Nat.le_refl _) n n (Nat.le_refl _) (by omega)
  obtain ⟨w1, hr1, ho1, hx1⟩ := g1
  refine ⟨_, _, hr1, ?_⟩
  rw [List.length_replicate]
  have exl : (xs.take n).length = n := by rw [List.length_take]; omega
  have eyl : (ys.take n).length = n := by rw [List.length_take]; omega
  have ezl : (zs.take n).length = n := by rw [List.length_take]; omega
  have elin := sum_linear (xs.take n) (ys.take n) (zs.take n) (by omega) (by omega)
  have eget : ∀ i, ∀ hi : i < (xorB (xorB (xs.take n) (ys.take n)) (zs.take n)).length, ∀ h1 : i < xs.length, ∀ h2 : i < ys.length, ∀ h3 : i < zs.length, (xorB (xorB (xs.take n) (ys.take n)) (zs.take n))[i] = xs[i] ^^^ ys[i] ^^^ zs[i] := by
    intro i hi h1 h2 h3
    simp [xorB]
  have eXl : (xorB (xorB (xs.take n) (ys.take n)) (zs.take n)).length = n := by simp [xorB]; omega
  generalize xorB (xorB (xs.take n) (ys.take n)) (zs.take n) = X at *
  conv => whnf
  refine vcLoop_inv lok (σ := Nat)
    (fun i => [(9, .int .i64 i), (8, .slice (some ⟨w'.heap.size, 0, none⟩) n n), (7, .int .i64 n), (0, .slice a xs.length c), (1, .slice b ys.length d), (2, .slice e zs.length f)])
    (fun i w2 => i ≤ n ∧ Own 5 u8v w'.heap.size w2 (some ⟨w'.heap.size, 0, none⟩) n (preF 0#8 X i) ∧ Ext w' w2) (fun i => n - i)
    0 ⟨rfl, rfl, rfl, rfl, rfl, rfl, trivial⟩ ⟨Nat.zero_le _, by unfold preF; rw [List.take_zero, List.nil_append, eXl]; exact ho1, hx1⟩ ?_
  rintro i w2 ⟨hi, ho2, hx2⟩
  conv => whnf
  refine vcCond_split lok rfl (fun h2 => ?_) (fun h2 => ?_)
  · have h2 := dt h2
    conv => whnf
    have hin : i < n := by omega
    refine vcDraw_go lok mixed (fun w1 => w1 = w2.drew) [] [0, 1, 2, 3, 4, 5, 6, 7, 8, 9, 10, 11, 12, 13, 14, 15, 16, 17] (by kernel_rfl) fun w3 hw3 => ⟨hw3, ?_⟩
    have x3 : Ext w2 w3 := hw3 ▸ Ext.drew w2
    have x03 := hx2.trans x3
    have gx : xs.getD (i : Int).toNat default = xs[i] := by simp [List.getD, List.getElem?_eq_getElem (show i < xs.length by omega)]
    have gy : ys.getD (i : Int).toNat default = ys[i] := by simp [List.getD, List.getElem?_eq_getElem (show i < ys.length by omega)]
    have gz : zs.getD (i : Int).toNat default = zs[i] := by simp [List.getD, List.getElem?_eq_getElem (show i < zs.length by omega)]
    have g1 := (h.ext x03).at (i : Int) (by omega) (by omega)
    have g2 := (hb.ext x03).at (i : Int) (by omega) (by omega)
    have g3 := (he.ext x03).at (i : Int) (by omega) (by omega)
    rw [gx] at g1
    rw [gy] at g2
    rw [gz] at g3
    have egi := eget i (by omega) (by omega) (by omega) (by omega)
    have eset := preF_succ 0#8 X i (by omega)
    rw [egi] at eset
    obtain ⟨p1, o1, ha1, hc1⟩ := g1
    obtain ⟨p2, o2, ha2, hc2⟩ := g2
    obtain ⟨p3, o3, ha3, hc3⟩ := g3
    generalize xs[i] = x at *
    generalize ys[i] = y at *
    generalize zs[i] = q at *
    conv => whnf
    refine ⟨p1, o1, ha1, ⟨by omega, by omega⟩, ?_⟩
    conv => whnf
    refine ⟨_, fun w5 hw5 => by rw [hw5, ← hw3]; exact hc1, ?_⟩
    conv => whnf
    refine ⟨p2, o2, ha2, ⟨by omega, by omega⟩, ?_⟩
    conv => whnf
    refine ⟨_, fun w5 hw5 => by rw [hw5, ← hw3]; exact hc2, ?_⟩
    conv => whnf
    intro z hz
    replace hz := hz.trans (xor8 x y)
    subst hz
    conv => whnf
    refine ⟨p3, o3, ha3, ⟨by omega, by omega⟩, ?_⟩
    conv => whnf
    refine ⟨_, fun w5 hw5 => by rw [hw5, ← hw3]; exact hc3, ?_⟩
    conv => whnf
    intro z hz
    replace hz := hz.trans (xor8 (x ^^^ y) q)
    subst hz
    conv => whnf
    have hpl := preF_len 0#8 X i (by omega)
    have g5 := (ho2.ext x3).store (i : Int) (by omega) (by omega)
    obtain ⟨g, hg, hk1, hk2, hBg, hgw, hst⟩ := g5
    have g6 := hst (x ^^^ y ^^^ q)
    obtain ⟨ho5, hg5⟩ := g6
    rw [show (i : Int).toNat = i from rfl, eset] at ho5
    rw [show (i : Int).toNat = i from rfl] at hg5
    refine ⟨g, 0, hg, ⟨by omega, by omega⟩, ?_⟩
    conv => whnf
    refine ⟨⟨rfl, hk1, hk2⟩, fun w5 hw5 => ?_⟩
    have hw6 : w5 = w3.setCell ⟨g, 0 + i, none⟩ (u8v (x ^^^ y ^^^ q)) := hw5
    rw [← hw6] at ho5 hg5
    clear hw5 hw6
    conv => whnf
    refine ⟨by omega, ?_⟩
    conv => whnf
    exact ⟨i + 1, ⟨rfl, rfl, rfl, rfl, rfl, rfl, trivial⟩, ⟨by omega, ho5, hg5.extOf x03 (fun g' hg' => by cases hg'; exact hBg)⟩, by omega⟩
  · have h2 := df h2
    conv => whnf
    have hin : i = n := by omega
    subst hin
    have eall : preF 0#8 X i = X := by rw [← eXl]; exact preF_all 0#8 X
    rw [eall] at ho2
    refine vcDraw_meet lok mixed (Ext w2) [] [0, 2, 3, 4, 6, 7, 8, 11, 12, 13, 1, 5, 9, 10, 14, 15, 16, 17, 18, 19, 20]
      (fun _ : Unit => [(6, .bool true)]) (fun _ w3 => Ext w2 w3) [6] (fun _ => rfl) rfl (by kernel_rfl) (fun w3 hw3 => ⟨hw3 ▸ Ext.drew w2, ?_⟩) ?_
    · have x3 : Ext w2 w3 := hw3 ▸ Ext.drew w2
      have x03 := hx2.trans x3
      conv => whnf
      refine ⟨by omega, ?_⟩
      conv => whnf
      refine ⟨by omega, ?_⟩
      conv => whnf
      refine ⟨by omega, ?_⟩
      conv => whnf
      have gX := sum_calls (c := i) (ho2.ext x3).sl (by omega)
      rw [eXl] at gX
      refine Calls.ret (gX) ?_
      rintro _ w4 ⟨rfl, hx4⟩
      conv => whnf
      have ga := sum_calls (c := c) ((h.ext (x03.trans hx4)).take i) (by omega)
      rw [exl] at ga
      refine Calls.ret (ga) ?_
      rintro _ w5 ⟨rfl, hx5⟩
      conv => whnf
      have gb := sum_calls (c := d) ((hb.ext ((x03.trans hx4).trans hx5)).take i) (by omega)
      rw [eyl] at gb
      refine Calls.ret (gb) ?_
      rintro _ w6 ⟨rfl, hx6⟩
      conv => whnf
      intro z hz
      replace hz := hz.trans (xor32 (sumF (xs.take i)) (sumF (ys.take i)))
      subst hz
      conv => whnf
      have gc := sum_calls (c := f) ((he.ext (((x03.trans hx4).trans hx5).trans hx6)).take i) (by omega)
      rw [ezl] at gc
      refine Calls.ret (gc) ?_
      rintro _ w7 ⟨rfl, hx7⟩
      conv => whnf
      intro z hz
      replace hz := hz.trans (xor32 (sumF (xs.take i) ^^^ sumF (ys.take i)) (sumF (zs.take i)))
      subst hz
      conv => whnf
      rw [← elin]
      refine bcase (fun h5 => ?_) (fun h5 => absurd rfl (df h5))
      conv => whnf
      refine Calls.ret (known03) ?_
      rintro _ w8 ⟨rfl, hx8⟩
      conv => whnf
      exact ⟨(), ⟨rfl, trivial⟩, ((((x3.trans hx4).trans hx5).trans hx6).trans hx7).trans hx8⟩
    rintro _ w3 x3
    conv => whnf
    exact ⟨rfl, hx2.trans x3⟩

theorem shr_bit32 (x : BitVec 32) (k : Nat) : (x >>> k) &&& 1#32 = if x.getLsbD k = true then 1#32 else 0#32 := by
  rw [and_one, BitVec.getLsbD_ushiftRight, Nat.add_zero]

theorem bits_ext {s t : List (BitVec 8)} (hl : s.length = t.length) (h : ∀ j, j < 8 * s.length → bitAt s j = bitAt t j) : s = t := by
  apply List.ext_getElem hl
  intro p hp hq
  apply BitVec.eq_of_getLsbD_eq
  intro q hq8
  have := h (8 * p + q) (by omega)
  unfold bitAt at this
  rw [show (8 * p + q) / 8 = p by omega, show (8 * p + q) % 8 = q by omega] at this
  simpa [List.getD, List.getElem?_eq_getElem hp, List.getElem?_eq_getElem hq] using this

/-- what is turned is opened just where nothing was turned -/
theorem open_turned (bs ss : List (BitVec 8)) (k i : Nat) (x : BitVec 32) (hi : i ≤ 32) (hk : k + i ≤ 8 * (bs.length + 4)) (hl : ss.length = bs.length + 4)
    (hb : ∀ j, j < 8 * (bs.length + 4) → bitAt ss j = (bitAt (sealF bs) j ^^ burstE k i x j)) :
    openF ss = if (∃ j, j < i ∧ x.getLsbD j = true) then ([], 5) else (bs, 0) := by
  have h4 : ¬ ss.length < 4 := by omega
  have e1 : ss.length - 4 = bs.length := by omega
  have ht : (enc 4 (sumF bs).toNat).length = 4 := enc_len _ _
  have ht' : (ss.drop bs.length).length = 4 := by rw [List.length_drop]; omega
  have hs : sumF bs = BitVec.ofNat 32 (decN (enc 4 (sumF bs).toNat)) := by
    rw [decN_enc]
    apply BitVec.eq_of_toNat_eq
    have := (sumF bs).isLt
    rw [BitVec.toNat_ofNat, show (256 : Nat) ^ 4 = 2 ^ 32 from rfl, Nat.mod_mod, Nat.mod_eq_of_lt this]
  have key := turned_sealed bs (enc 4 (sumF bs).toNat) (ss.take bs.length) (ss.drop bs.length) k i x ht ht' (by rw [List.length_take]; omega) hi hk hs (by
    rw [List.take_append_drop]; exact hb)
  by_cases hx : ∃ j, j < i ∧ x.getLsbD j = true
  · rw [if_pos hx]
    unfold openF
    rw [if_neg h4, e1, if_neg]
    intro h
    obtain ⟨j, hj, hxj⟩ := hx
    rw [key.1 h j hj] at hxj
    cases hxj
  · rw [if_neg hx]
    have e2 : ss = sealF bs := by
      apply bits_ext (by rw [hl, sealF_len])
      intro j hj
      rw [hb j (by omega)]
      have : burstE k i x j = false := by
        unfold burstE
        by_cases h1 : k ≤ j
        · by_cases h2 : j < k + i
          · cases h3 : x.getLsbD (j - k) with
            | false => simp
            | true => exact absurd ⟨j - k, by omega, h3⟩ hx
          · simp [h2]
        · simp [h1]
      rw [this, Bool.xor_false]
    rw [e2, open_seal]

set_option maxHeartbeats 4000000 in
theorem crcTurned_walk {w : World} {a : Option Addr} {c : Nat} {bs : List (BitVec 8)} (h : Sl u8v w a bs) (at_ : Int) (hat : -9223372036854775808 ≤ at_ ∧ at_ ≤ 9223372036854775807) (x : BitVec 32) :
    Calls Try.prog 14 #[.slice a bs.length c, .int .i64 at_, .int .u32 x.toNat] w (Law w) := by
  refine calls_of_vc lok Try.func14 ?_ rfl
  conv => whnf
  refine vcCond_split lok rfl (fun h1 => ?_) (fun h1 => ?_)
  · conv => whnf
    refine Calls.ret (known03) ?_
    rintro _ w1 ⟨rfl, hx1⟩
    conv => whnf
    exact ⟨rfl, hx1⟩
  have h1 := df h1
  conv => whnf
  refine Calls.ret (seal_calls h (by omega)) ?_
  rintro _ w1 ⟨a1, c1, rfl, ho1, hx1⟩
  conv => whnf
  have hsl := sealF_len bs
  refine ⟨by omega, ?_⟩
  conv => whnf
  refine vcCond_split lok rfl (fun h2 => absurd (show ((sealF bs).length : Int) = (bs.length : Int) + 4 by omega) (ne_true h2)) (fun _ => ?_)
  conv => whnf
  refine ⟨by omega, ?_⟩
  conv => whnf
  refine Calls.ret (count_calls at_ (8 * ((sealF bs).length : Int)) hat (by omega) (by omega)) ?_
  rintro _ w2 ⟨rfl, hw2⟩
  conv => whnf
  subst hw2
  have hk : ∃ k : Nat, at_ % (8 * ((sealF bs).length : Int)) = (k : Int) ∧ k < 8 * (bs.length + 4) := by
    have e0 := Int.emod_nonneg at_ (show (8 * ((sealF bs).length : Int)) ≠ 0 by omega)
    have e1 := Int.emod_lt_of_pos at_ (show 0 < (8 * ((sealF bs).length : Int)) by omega)
    exact ⟨(at_ % (8 * ((sealF bs).length : Int))).toNat, by omega, by omega⟩
  obtain ⟨k, ek, hkl⟩ := hk
  rw [ek]
  conv => whnf
  refine vcLoop_inv lok (σ := Nat × Bool × List (BitVec 8))
    (fun ⟨i, t, ss⟩ => [(11, .int .i64 i), (10, .bool t), (9, .int .i64 k), (8, .int .i64 (8 * ((sealF bs).length : Int))), (7, .slice a1 (sealF bs).length c1), (2, .int .u32 x.toNat), (0, .slice a bs.length c)])
    (fun ⟨i, t, ss⟩ w3 => i ≤ 32 ∧ k + i ≤ 8 * (bs.length + 4) ∧ (t = true ↔ ∃ j, j < i ∧ x.getLsbD j = true) ∧ ss.length = bs.length + 4 ∧
      (∀ j, j < 8 * (bs.length + 4) → bitAt ss j = (bitAt (sealF bs) j ^^ burstE k i x j)) ∧ Own 5 u8v w.heap.size w3 a1 c1 ss ∧ Ext w w3) (fun s => 32 - s.1)
    (0, false, sealF bs) ⟨rfl, rfl, rfl, rfl, rfl, rfl, rfl, trivial⟩ ⟨Nat.zero_le _, by omega, ⟨fun h => (by cases h), fun ⟨j, h, _⟩ => (by omega)⟩, hsl, fun j _ => by rw [burstE_zero, Bool.xor_false], ho1, hx1⟩ ?_
  rintro ⟨i, t, ss⟩ w3 ⟨hi, hki, ht, hssl, hbit, ho3, hx3⟩
  conv => whnf
  refine vcReg_meet lok (fun β : Bool => [(40, .bool β)]) (fun β w' => w' = w3 ∧ β = decide (i < 32 ∧ k + i < 8 * (bs.length + 4))) [40] (fun _ => rfl) rfl ?_ ?_
  · conv => whnf
    refine bcase (fun h2 => ?_) (fun h2 => ?_)
    · conv => whnf
      refine ⟨by omega, ?_⟩
      conv => whnf
      exact ⟨_, ⟨rfl, trivial⟩, rfl, by have := dt h2; rw [decide_eq_decide]; omega⟩
    · conv => whnf
      exact ⟨_, ⟨rfl, trivial⟩, rfl, by have := df h2; rw [eq_comm, decide_eq_false_iff_not]; omega⟩
  rintro β w' ⟨hw', hβ⟩
  subst hw'
  conv => whnf
  refine vcCond_split lok rfl (fun h2 => ?_) (fun h2 => ?_)
  · rw [h2] at hβ
    have hlt := dt hβ.symm
    conv => whnf
    intro z hz
    have hz67 : z = (i : Int) := by rw [hz, wu64]; omega
    clear hz
    subst hz67
    conv => whnf
    refine ⟨by omega, ?_⟩
    intro z hz
    replace hz := hz.trans (shr32b x i (by omega))
    subst hz
    conv => whnf
    intro z hz
    replace hz := hz.trans (and32 (x >>> i) 1#32)
    subst hz
    conv => whnf
    rw [shr_bit32]
    have hbs : ∀ j, burstE k (i + 1) x j = (burstE k i x j ^^ (x.getLsbD i && decide (j = k + i))) := burstE_succ k i x
    cases hb : x.getLsbD i with
    | true =>
      refine vcCond_true lok (rfl) ?_
      conv => whnf
      refine ⟨by omega, ?_⟩
      conv => whnf
      refine ⟨by decide, ?_⟩
      intro z1 hz
      have hz72 : z1 = (((k + i) / 8 : Nat) : Int) := by rw [hz, Int.tdiv_eq_ediv_of_nonneg (by omega), wi64 (by omega)]; omega
      clear hz
      subst hz72
      conv => whnf
      refine ⟨by omega, ?_⟩
      conv => whnf
      refine ⟨by decide, ?_⟩
      intro z2 hz
      have hz74 : z2 = (((k + i) / 8 : Nat) : Int) := by rw [hz, Int.tdiv_eq_ediv_of_nonneg (by omega), wi64 (by omega)]; omega
      clear hz
      subst hz74
      conv => whnf
      have g1 := ho3.sl.at (((k + i) / 8 : Nat) : Int) (by omega) (by omega)
      obtain ⟨p, o, ha, hcell⟩ := g1
      rw [Int.toNat_natCast] at hcell
      refine ⟨p, o, ha, ⟨by omega, by omega⟩, ?_⟩
      conv => whnf
      refine ⟨_, hcell, ?_⟩
      conv => whnf
      refine ⟨by omega, ?_⟩
      conv => whnf
      refine ⟨by decide, ?_⟩
      intro z3 hz
      have hz78 : z3 = (((k + i) % 8 : Nat) : Int) := by rw [hz, Int.tmod_eq_emod_of_nonneg (by omega)]; omega
      clear hz
      subst hz78
      conv => whnf
      intro z4 hz
      have hz79 : z4 = (((k + i) % 8 : Nat) : Int) := by rw [hz, wu64]; omega
      clear hz
      subst hz79
      conv => whnf
      refine ⟨by omega, ?_⟩
      intro z hz
      replace hz := hz.trans (shl8b 1#8 ((k + i) % 8) (by omega))
      subst hz
      conv => whnf
      intro z hz
      replace hz := hz.trans (xor8 (ss.getD ((k + i) / 8) default) (1#8 <<< ((k + i) % 8)))
      subst hz
      conv => whnf
      have g5 := ho3.store (((k + i) / 8 : Nat) : Int) (by omega) (by omega)
      obtain ⟨g, hg, hk1, hk2, hBg, hgw, hst⟩ := g5
      have g6 := hst (ss.getD ((k + i) / 8) default ^^^ 1#8 <<< ((k + i) % 8))
      obtain ⟨ho5, hg5⟩ := g6
      rw [Int.toNat_natCast] at ho5 hg5 hk1 hk2
      refine ⟨g, 0, hg, ⟨by omega, by omega⟩, ?_⟩
      conv => whnf
      refine ⟨⟨rfl, hk1, hk2⟩, fun w5 hw5 => ?_⟩
      have hw6 : w5 = w'.setCell ⟨g, 0 + (k + i) / 8, none⟩ (u8v (ss.getD ((k + i) / 8) default ^^^ 1#8 <<< ((k + i) % 8))) := hw5
      rw [← hw6] at ho5 hg5
      clear hw5 hw6
      conv => whnf
      refine ⟨by omega, ?_⟩
      conv => whnf
      refine ⟨(i + 1, true, ss.set ((k + i) / 8) (ss.getD ((k + i) / 8) default ^^^ 1#8 <<< ((k + i) % 8))), ⟨rfl, rfl, rfl, rfl, rfl, rfl, rfl, trivial⟩, ⟨by omega, by omega, ⟨fun _ => ⟨i, by omega, hb⟩, fun _ => rfl⟩, by rw [List.length_set, hssl], ?_, ho5, hg5.extOf hx3 (fun g' hg' => by cases hg'; exact hBg)⟩, by omega⟩
      intro j hj
      have e := bitAt_turn ss (k + i) j (by omega)
      rw [hbs j, hb, Bool.true_and, ← Bool.xor_assoc, ← hbit j hj]
      exact e
    | false =>
      refine vcCond_false lok (rfl) ?_
      conv => whnf
      refine ⟨by omega, ?_⟩
      conv => whnf
      refine ⟨(i + 1, t, ss), ⟨rfl, rfl, rfl, rfl, rfl, rfl, rfl, trivial⟩, ⟨by omega, by omega, ht.trans ⟨fun ⟨j, h1, h2⟩ => ⟨j, by omega, h2⟩, fun ⟨j, h1, h2⟩ => ⟨j, ?_, h2⟩⟩, hssl, ?_, ho3, hx3⟩, by omega⟩
      · rcases Nat.lt_or_ge j i with h3 | h3
        · exact h3
        · have : j = i := by omega
          rw [this, hb] at h2; cases h2
      · intro j hj
        rw [hbs j, hb, Bool.false_and, Bool.xor_false]
        exact hbit j hj
  · rw [h2] at hβ
    have hnl := df hβ.symm
    conv => whnf
    have eo := open_turned bs ss k i x hi hki hssl hbit
    have hol := open_len ss
    have go := open_calls (c := c1) ho3.sl (by omega) (by have := ho3.le.1; omega)
    rw [hssl, ← hsl] at go
    refine Calls.ret (go) ?_
    rintro _ w4 ⟨a4, c4, rfl, ho4, hx4⟩
    conv => whnf
    have x4 := hx3.trans hx4
    cases ht2 : t with
    | false =>
      subst ht2
      rw [if_neg (fun h => by have := ht.2 h; cases this)] at eo
      rw [eo] at ho4 ⊢
      conv => whnf
      refine vcCond_true lok (rfl) ?_
      conv => whnf
      refine vcReg_go lok ?_
      conv => whnf
      refine ⟨_, run_toStr ho4.sl, ?_⟩
      conv => whnf
      refine ⟨_, run_toStr (h.ext x4), ?_⟩
      conv => whnf
      intro γ hγ
      have hγ2 : γ = true := by rw [str_eq hγ rfl rfl]; simp
      clear hγ
      subst hγ2
      conv => whnf
      refine Calls.ret (known03) ?_
      rintro _ w5 ⟨rfl, hx5⟩
      conv => whnf
      exact ⟨rfl, x4.trans hx5⟩
    | true =>
      subst ht2
      rw [if_pos (ht.1 rfl)] at eo
      rw [eo]
      conv => whnf
      refine vcCond_false lok (rfl) ?_
      conv => whnf
      refine vcReg_go lok ?_
      conv => whnf
      refine Calls.ret (known03) ?_
      rintro _ w5 ⟨rfl, hx5⟩
      conv => whnf
      exact ⟨rfl, x4.trans hx5⟩
end Go.Proofs.Ytgipackjnncabaa
