/- Walks of layer 6, third part: the reference's flash. -/
import Derived.Test.YtgipackjnncabaaW06b
set_option linter.unusedVariables false
namespace Go.Proofs.Ytgipackjnncabaa
open Go.Vc Go.RowKit

/-- the plan is met, or one less -/
theorem rtorn_calls {B : Nat} {w : World} {g gw c : Nat} {s : FS} (h : FlAt 81 B w g gw c s) (hop : FSok s) :
    Calls Try.prog 158 #[.pointer (some ⟨g, 0, none⟩)] w (Ret fun v w' => v = .bool (decide (s.left = 0)) ∧ FlAt 81 B w' g gw c (if s.left = 0 then s.tore s.ws else s.did s.ws) ∧ FlMod g gw w w') := by
  refine calls_of_vc lok Try.func158 ?_ rfl
  conv => whnf
  refine ⟨_, h.blk.cell (i := 2) rfl, ?_⟩
  conv => whnf
  refine vcCond_split lok rfl (fun h1 => ?_) (fun h1 => ?_)
  · have h1' := h1
    have h1 := dt h1
    conv => whnf
    rw [if_pos h1]
    refine ⟨h.blk.can 2 (by simp [FS.cells]) _ rfl, fun w2 hw2 => ?_⟩
    have k2 := h.setField 2 (.int .i64 (-1)) { s with left := -1 } rfl rfl hw2
    obtain ⟨g2, m2⟩ := k2
    clear hw2
    conv => whnf
    refine ⟨g2.blk.can 1 (by simp [FS.cells]) _ rfl, fun w3 hw3 => ?_⟩
    have k3 := g2.setField 1 (.bool true) (s.tore s.ws) rfl rfl hw3
    clear hw3
    conv => whnf
    exact ⟨by rw [decide_eq_true h1], k3.1, m2.trans k3.2⟩
  · have h1 := df h1
    conv => whnf
    rw [if_neg h1]
    refine ⟨_, h.blk.cell (i := 2) rfl, ?_⟩
    conv => whnf
    refine vcCond_meet (fun _ : Unit => [(0, .pointer (some ⟨g, 0, none⟩))])
      (fun _ w1 => FlAt 81 B w1 g gw c { s with left := if 0 < s.left then s.left - 1 else s.left } ∧ FlMod g gw w w1) ?_ ?_
    · refine vcCond_split lok rfl (fun h2 => ?_) (fun h2 => ?_)
      · have h2 := dt h2
        conv => whnf
        refine ⟨_, h.blk.cell (i := 2) rfl, ?_⟩
        conv => whnf
        refine ⟨by have := hop.left; omega, ?_⟩
        conv => whnf
        refine ⟨h.blk.can 2 (by simp [FS.cells]) _ rfl, fun w2 hw2 => ?_⟩
        have k2 := h.setField 2 (.int .i64 (s.left - 1)) { s with left := s.left - 1 } rfl rfl hw2
        exact ⟨(), ⟨rfl, trivial⟩, by rw [if_pos h2]; exact k2.1, k2.2⟩
      · have h2 := df h2
        conv => whnf
        exact ⟨(), ⟨rfl, trivial⟩, by rw [if_neg h2]; exact h, Mod.refl _ _⟩
    rintro _ w1 ⟨g1, m1⟩
    conv => whnf
    refine ⟨_, g1.blk.cell (i := 4) rfl, ?_⟩
    conv => whnf
    refine ⟨by show -9223372036854775808 ≤ s.ops + 1 ∧ s.ops + 1 ≤ 9223372036854775807; have := hop.ops; omega, ?_⟩
    conv => whnf
    refine ⟨g1.blk.can 4 (by simp [FS.cells]) _ rfl, fun w2 hw2 => ?_⟩
    have k2 := g1.setField 4 (.int .i64 (s.ops + 1)) (s.did s.ws) rfl rfl hw2
    obtain ⟨g2, m2⟩ := k2
    clear hw2
    conv => whnf
    exact ⟨by rw [decide_eq_false h1], g2, m1.trans m2⟩

theorem pow_nat (i : Nat) (hi : i < 32) : (BitVec.twoPow 32 i).toNat = 2 ^ i := by
  rw [BitVec.toNat_twoPow]
  exact Nat.mod_eq_of_lt (Nat.pow_lt_pow_right (by decide) hi)
theorem dbl_pow (i : Nat) : IntKind.u32.wrap (2 * ((BitVec.twoPow 32 i).toNat : Int)) = ((BitVec.twoPow 32 (i + 1)).toNat : Int) := by
  have e : (2 : Nat) ^ (i + 1) = 2 ^ i * 2 := Nat.pow_succ _ _
  rw [wu32, BitVec.toNat_twoPow, BitVec.toNat_twoPow, e]
  generalize (2 : Nat) ^ i = m
  omega
theorem quo_bit (x : BitVec 32) (i : Nat) (hi : i < 32) : IntKind.u32.wrap ((x.toNat : Int).tdiv ((BitVec.twoPow 32 i).toNat : Int)) = ((x.toNat / 2 ^ i : Nat) : Int) := by
  rw [pow_nat i hi, Int.tdiv_eq_ediv_of_nonneg (by omega), wu32, ← Int.natCast_ediv]
  have h1 : x.toNat / 2 ^ i ≤ x.toNat := Nat.div_le_self _ _
  have := x.isLt
  generalize x.toNat / 2 ^ i = m at *
  omega
theorem rem_two (m : Nat) : ((m : Int)).tmod 2 = ((m % 2 : Nat) : Int) := by
  rw [Int.tmod_eq_emod_of_nonneg (by omega)]; omega

/-- the mask of what stays -/
def keepF (x m : BitVec 32) (t : Bool) : BitVec 32 := if t = true then x ||| ~~~m else x

set_option maxHeartbeats 2000000 in
/-- Program -/
theorem rprog_calls {B : Nat} {w : World} {g gw c : Nat} {s : FS} (h : FlAt 81 B w g gw c s) (at_ : Int) (x : BitVec 32) (hl : s.ws.length ≤ 1048576) (hop : FSok s) :
    Calls Try.prog 98 #[.pointer (some ⟨g, 0, none⟩), .int .i64 at_, .int .u32 x.toNat] w (Ret fun v w' => v = .int .i64 (progF s at_ x).2 ∧ FlAt 81 B w' g gw c (progF s at_ x).1 ∧ FlMod g gw w w') := by
  refine calls_of_vc lok Try.func98 ?_ rfl
  conv => whnf
  refine ⟨_, h.blk.cell (i := 1) rfl, ?_⟩
  conv => whnf
  cases ho : s.off with
  | true =>
    have e : progF s at_ x = (s, 7) := if_pos ho
    rw [e]
    refine vcCond_true lok (rfl) ?_
    conv => whnf
    exact ⟨rfl, h, Mod.refl _ _⟩
  | false =>
    refine vcCond_false lok (rfl) ?_
    conv => whnf
    refine vcReg_meet lok (fun β : Bool => [(26, .bool β)]) (fun β w' => w' = w ∧ β = decide (at_ < 0 ∨ (s.ws.length : Int) ≤ at_)) [26] (fun _ => rfl) rfl ?_ ?_
    · conv => whnf
      refine bcase (fun h1 => ?_) (fun h1 => ?_)
      · conv => whnf
        exact ⟨_, ⟨rfl, trivial⟩, rfl, by have := dt h1; simp; omega⟩
      · conv => whnf
        refine ⟨_, h.blk.cell0 rfl, ?_⟩
        conv => whnf
        exact ⟨_, ⟨rfl, trivial⟩, rfl, by have := df h1; rw [decide_eq_decide]; omega⟩
    rintro β w' ⟨hw', hβ⟩
    subst hw'
    conv => whnf
    refine vcCond_split lok rfl (fun h1 => ?_) (fun h1 => ?_)
    · rw [h1] at hβ
      have hr := dt hβ.symm
      have e : progF s at_ x = (s, 10) := by unfold progF; rw [if_neg (by rw [ho]; decide), if_pos hr]
      rw [e]
      conv => whnf
      exact ⟨rfl, h, Mod.refl _ _⟩
    rw [h1] at hβ
    have hr := df hβ.symm
    have hi : ∃ i : Nat, at_ = (i : Int) := ⟨at_.toNat, by omega⟩
    obtain ⟨a, hi⟩ := hi
    subst hi
    have hal : a < s.ws.length := by omega
    have e : progF s (a : Int) x = (if s.left = 0 then s.tore (s.ws.set a (s.ws.getD a 0#32 &&& keepF x s.mask (decide (s.left = 0)))) else s.did (s.ws.set a (s.ws.getD a 0#32 &&& keepF x s.mask (decide (s.left = 0)))), if s.left = 0 then 7 else 0) := by
      unfold progF keepF
      rw [if_neg (by rw [ho]; decide), if_neg hr]
      by_cases h0 : s.left = 0
      · simp [h0]
      · simp [h0]
    rw [e]
    conv => whnf
    refine Calls.ret (rtorn_calls h hop) ?_
    rintro _ w1 ⟨rfl, g1, m1⟩
    conv => whnf
    have ews : (if s.left = 0 then s.tore s.ws else s.did s.ws).ws = s.ws := by split <;> rfl
    have ema : (if s.left = 0 then s.tore s.ws else s.did s.ws).mask = s.mask := by split <;> rfl
    have efin : ∀ l, { (if s.left = 0 then s.tore s.ws else s.did s.ws) with ws := l } = if s.left = 0 then s.tore l else s.did l := by intro l; split <;> rfl
    generalize hs1 : (if s.left = 0 then s.tore s.ws else s.did s.ws) = s1 at *
    have hal1 : a < s1.ws.length := by rw [ews]; exact hal
    refine ⟨_, g1.blk.cell0 rfl, ?_⟩
    conv => whnf
    refine ⟨gw, 0, rfl, ⟨by omega, by omega⟩, ?_⟩
    conv => whnf
    refine ⟨_, g1.own.cellAt (i := a) (x := s.ws.getD a 0#32) (by rw [ews]; simp [List.getD, List.getElem?_eq_getElem hal]), ?_⟩
    generalize s.ws.getD a 0#32 = n0 at *
    generalize ht : decide (s.left = 0) = t at *
    conv => whnf
    refine vcLoop_inv lok (σ := Nat × BitVec 32)
      (fun ⟨i, n⟩ => [(10, .int .i64 i), (9, .int .u32 (BitVec.twoPow 32 i).toNat), (8, .int .u32 n.toNat), (7, .bool t), (2, .int .u32 x.toNat), (1, .int .i64 a), (0, .pointer (some ⟨g, 0, none⟩))])
      (fun ⟨i, n⟩ w2 => i ≤ 32 ∧ (∀ j, j < 32 → n.getLsbD j = (n0.getLsbD j && (decide (i ≤ j) || (keepF x s.mask t).getLsbD j))) ∧ w2 = w1) (fun s => 32 - s.1)
      (0, n0) ⟨rfl, rfl, rfl, rfl, rfl, rfl, rfl, trivial⟩ ⟨Nat.zero_le _, fun j _ => by simp, rfl⟩ ?_
    rintro ⟨i, n⟩ w2 ⟨hi, hn, hw2⟩
    subst hw2
    conv => whnf
    refine vcCond_split lok rfl (fun h2 => ?_) (fun h2 => ?_)
    · have h2 := dt h2
      conv => whnf
      have hi32 : i < 32 := by omega
      have hp0 : ((BitVec.twoPow 32 i).toNat : Int) ≠ 0 := by
        rw [pow_nat i hi32]
        have : 0 < 2 ^ i := Nat.pow_pos (by decide)
        omega
      refine vcReg_meet lok (fun β : Bool => [(11, .bool β)]) (fun β w' => w' = w2 ∧ β = (!x.getLsbD i && n.getLsbD i)) [11] (fun _ => rfl) rfl ?_ ?_
      · conv => whnf
        refine ⟨hp0, ?_⟩
        intro z hz
        replace hz := hz.trans (quo_bit x i hi32)
        subst hz
        conv => whnf
        refine ⟨by decide, ?_⟩
        intro z hz
        replace hz := hz.trans (rem_two (x.toNat / 2 ^ i))
        subst hz
        conv => whnf
        refine bcase (fun h3 => ?_) (fun h3 => ?_)
        · have h3 := dt h3
          conv => whnf
          refine ⟨hp0, ?_⟩
          intro z hz
          replace hz := hz.trans (quo_bit n i hi32)
          subst hz
          conv => whnf
          refine ⟨by decide, ?_⟩
          intro z hz
          replace hz := hz.trans (rem_two (n.toNat / 2 ^ i))
          subst hz
          conv => whnf
          refine ⟨_, ⟨rfl, trivial⟩, rfl, ?_⟩
          rw [bit_nat x i, bit_nat n i, decide_eq_false (show ¬ x.toNat / 2 ^ i % 2 = 1 by omega), Bool.not_false, Bool.true_and, decide_eq_decide]
          omega
        · have h3 := df h3
          conv => whnf
          refine ⟨_, ⟨rfl, trivial⟩, rfl, ?_⟩
          rw [bit_nat x i, decide_eq_true (show x.toNat / 2 ^ i % 2 = 1 by omega)]
          rfl
      rintro β w3 ⟨hw3, hβ2⟩
      subst hw3
      conv => whnf
      have hxn := hn i hi32
      simp only [Nat.le_refl, decide_true, Bool.true_or, Bool.and_true] at hxn
      refine vcCond_meet (fun c : Bool => [(11, .bool c), (10, .int .i64 i), (9, .int .u32 (BitVec.twoPow 32 i).toNat), (8, .int .u32 n.toNat), (7, .bool t), (2, .int .u32 x.toNat), (1, .int .i64 a), (0, .pointer (some ⟨g, 0, none⟩))])
        (fun c w' => w' = w3 ∧ c = (!(keepF x s.mask t).getLsbD i && n0.getLsbD i)) ?_ ?_
      · refine vcCond_split lok rfl (fun h4 => ?_) (fun h4 => ?_)
        · subst h4
          conv => whnf
          refine vcReg_meet lok (fun β : Bool => [(11, .bool β)]) (fun β' w' => w' = w3 ∧ β' = (β && s.mask.getLsbD i)) [11] (fun _ => rfl) rfl ?_ ?_
          · conv => whnf
            refine bcase (fun h3 => ?_) (fun h3 => ?_)
            · conv => whnf
              refine ⟨_, g1.blk.cell (i := 3) rfl, ?_⟩
              rw [ema]
              conv => whnf
              refine ⟨hp0, ?_⟩
              intro z hz
              replace hz := hz.trans (quo_bit s.mask i hi32)
              subst hz
              conv => whnf
              refine ⟨by decide, ?_⟩
              intro z hz
              replace hz := hz.trans (rem_two (s.mask.toNat / 2 ^ i))
              subst hz
              conv => whnf
              refine ⟨_, ⟨rfl, trivial⟩, rfl, ?_⟩
              rw [h3, bit_nat s.mask i, Bool.true_and, decide_eq_decide]
              omega
            · conv => whnf
              exact ⟨_, ⟨rfl, trivial⟩, rfl, by rw [h3]; rfl⟩
          rintro β' w' ⟨hw', hβ'⟩
          subst hw'
          conv => whnf
          refine ⟨β', ⟨rfl, rfl, rfl, rfl, rfl, rfl, rfl, rfl, trivial⟩, rfl, ?_⟩
          rw [hβ', hβ2, hxn]
          unfold keepF
          rw [if_pos rfl, BitVec.getLsbD_or, BitVec.getLsbD_not]
          simp only [hi32, decide_true, Bool.true_and]
          cases x.getLsbD i <;> cases n0.getLsbD i <;> cases s.mask.getLsbD i <;> rfl
        · subst h4
          conv => whnf
          refine ⟨β, ⟨rfl, rfl, rfl, rfl, rfl, rfl, rfl, rfl, trivial⟩, rfl, ?_⟩
          rw [hβ2, hxn]
          unfold keepF
          rw [if_neg (by decide)]
      rintro cl w4 ⟨hw4, hcl⟩
      subst hw4
      conv => whnf
      have hst := clear_step n n0 (keepF x s.mask t) i hi32 hn cl hcl
      refine vcCond_meet (fun n' : BitVec 32 => [(10, .int .i64 i), (9, .int .u32 (BitVec.twoPow 32 i).toNat), (8, .int .u32 n'.toNat), (7, .bool t), (2, .int .u32 x.toNat), (1, .int .i64 a), (0, .pointer (some ⟨g, 0, none⟩))])
        (fun n' w' => w' = w4 ∧ n' = if cl = true then n - BitVec.twoPow 32 i else n) ?_ ?_
      · refine vcCond_split lok rfl (fun h5 => ?_) (fun h5 => ?_)
        · subst h5
          conv => whnf
          intro z hz
          replace hz := hz.trans (sub32 n (BitVec.twoPow 32 i))
          subst hz
          conv => whnf
          exact ⟨_, ⟨rfl, rfl, rfl, rfl, rfl, rfl, rfl, trivial⟩, rfl, rfl⟩
        · subst h5
          conv => whnf
          exact ⟨_, ⟨rfl, rfl, rfl, rfl, rfl, rfl, rfl, trivial⟩, rfl, rfl⟩
      rintro n' w5 ⟨hw5, hn'⟩
      subst hw5
      rw [← hn'] at hst
      conv => whnf
      intro z hz
      replace hz := hz.trans (dbl_pow i)
      subst hz
      conv => whnf
      refine ⟨by omega, ?_⟩
      conv => whnf
      exact ⟨(i + 1, n'), ⟨rfl, rfl, rfl, rfl, rfl, rfl, rfl, trivial⟩, ⟨by omega, hst, rfl⟩, Nat.sub_succ_lt_self _ _ hi32⟩
    · have h2 := df h2
      conv => whnf
      have hi32 : i = 32 := by omega
      subst hi32
      have hn2 := clear_done n n0 (keepF x s.mask t) hn
      subst hn2
      refine ⟨_, g1.blk.cell0 rfl, ?_⟩
      conv => whnf
      refine ⟨gw, 0, rfl, ⟨by omega, by omega⟩, ?_⟩
      conv => whnf
      refine ⟨⟨rfl, (g1.own.storeAt a hal1).1⟩, fun w3 hw3 => ?_⟩
      have k3 := g1.setWord a hal1 (n0 &&& keepF x s.mask t) hw3
      obtain ⟨g3, m3⟩ := k3
      rw [ews, efin] at g3
      clear hw3
      conv => whnf
      refine vcCond_split lok rfl (fun h3 => ?_) (fun h3 => ?_)
      · have ht2 := ht.trans h3
        rw [if_pos (dt ht2), if_pos (dt ht2)]
        rw [if_pos (dt ht2)] at g3
        conv => whnf
        exact ⟨rfl, g3, m1.trans m3⟩
      · have ht2 := ht.trans h3
        rw [if_neg (df ht2), if_neg (df ht2)]
        rw [if_neg (df ht2)] at g3
        conv => whnf
        exact ⟨rfl, g3, m1.trans m3⟩

set_option maxHeartbeats 1000000 in
/-- Erase -/
theorem rerase_calls {B : Nat} {w : World} {g gw c : Nat} {s : FS} (h : FlAt 81 B w g gw c s) (n : Int) (hl : s.ws.length ≤ 1048576) (hop : FSok s) :
    Calls Try.prog 99 #[.pointer (some ⟨g, 0, none⟩), .int .i64 n] w (Ret fun v w' => v = .int .i64 (eraseF s n).2 ∧ FlAt 81 B w' g gw c (eraseF s n).1 ∧ FlMod g gw w w') := by
  refine calls_of_vc lok Try.func99 ?_ rfl
  conv => whnf
  refine ⟨_, h.blk.cell (i := 1) rfl, ?_⟩
  conv => whnf
  cases ho : s.off with
  | true =>
    have e : eraseF s n = (s, 7) := if_pos ho
    rw [e]
    refine vcCond_true lok (rfl) ?_
    conv => whnf
    exact ⟨rfl, h, Mod.refl _ _⟩
  | false =>
    refine vcCond_false lok (rfl) ?_
    conv => whnf
    refine vcReg_meet lok (fun β : Bool => [(23, .bool β)]) (fun β w' => w' = w ∧ β = decide (n < 0 ∨ ((s.ws.length / 256 : Nat) : Int) ≤ n)) [23] (fun _ => rfl) rfl ?_ ?_
    · conv => whnf
      refine bcase (fun h1 => ?_) (fun h1 => ?_)
      · conv => whnf
        exact ⟨_, ⟨rfl, trivial⟩, rfl, by have := dt h1; simp; omega⟩
      · conv => whnf
        refine ⟨_, h.blk.cell0 rfl, ?_⟩
        conv => whnf
        refine ⟨by decide, ?_⟩
        intro z hz
        have hz78 : z = ((s.ws.length / 256 : Nat) : Int) := by rw [hz, Int.tdiv_eq_ediv_of_nonneg (by omega), wi64 (by omega)]; omega
        clear hz
        subst hz78
        conv => whnf
        exact ⟨_, ⟨rfl, trivial⟩, rfl, by have := df h1; rw [decide_eq_decide]; omega⟩
    rintro β w' ⟨hw', hβ⟩
    subst hw'
    conv => whnf
    refine vcCond_split lok rfl (fun h1 => ?_) (fun h1 => ?_)
    · rw [h1] at hβ
      have hr := dt hβ.symm
      have e : eraseF s n = (s, 10) := by unfold eraseF; rw [if_neg (by rw [ho]; decide), if_pos hr]
      rw [e]
      conv => whnf
      exact ⟨rfl, h, Mod.refl _ _⟩
    rw [h1] at hβ
    have hr := df hβ.symm
    have hi : ∃ i : Nat, n = (i : Int) := ⟨n.toNat, by omega⟩
    obtain ⟨a, hi⟩ := hi
    subst hi
    have hml := s.mask.isLt
    have hm257 : s.mask.toNat % 257 < 257 := Nat.mod_lt _ (by decide)
    have hk : ∃ k : Nat, k = (if s.left = 0 then s.mask.toNat % 257 else 256) ∧ k ≤ 256 := ⟨_, rfl, by split <;> omega⟩
    obtain ⟨k, hk, hk256⟩ := hk
    have e : eraseF s (a : Int) = (if s.left = 0 then s.tore (fillF s.ws (256 * a) k) else s.did (fillF s.ws (256 * a) k), if s.left = 0 then 7 else 0) := by
      unfold eraseF
      rw [if_neg (by rw [ho]; decide), if_neg hr, hk]
      by_cases h0 : s.left = 0
      · simp [h0]
      · simp [h0]
    rw [e]
    conv => whnf
    refine Calls.ret (rtorn_calls h hop) ?_
    rintro _ w1 ⟨rfl, g1, m1⟩
    conv => whnf
    have ews : (if s.left = 0 then s.tore s.ws else s.did s.ws).ws = s.ws := by split <;> rfl
    have ema : (if s.left = 0 then s.tore s.ws else s.did s.ws).mask = s.mask := by split <;> rfl
    have efin : ∀ l, { (if s.left = 0 then s.tore s.ws else s.did s.ws) with ws := l } = if s.left = 0 then s.tore l else s.did l := by intro l; split <;> rfl
    generalize hs1 : (if s.left = 0 then s.tore s.ws else s.did s.ws) = s1 at *
    refine vcCond_meet (fun _ : Unit => [(5, .int .i64 k), (6, .int .i64 (if s.left = 0 then 7 else 0)), (1, .int .i64 a), (0, .pointer (some ⟨g, 0, none⟩))]) (fun _ w' => w' = w1) ?_ ?_
    · refine vcCond_split lok rfl (fun h2 => ?_) (fun h2 => ?_)
      · have h2 := dt h2
        conv => whnf
        rw [if_pos h2] at hk
        refine ⟨_, g1.blk.cell (i := 3) rfl, ?_⟩
        rw [ema]
        conv => whnf
        refine ⟨by decide, ?_⟩
        intro z hz
        have hz87 : z = (k : Int) := by rw [hz, Int.tmod_eq_emod_of_nonneg (by omega), hk]; omega
        clear hz
        subst hz87
        conv => whnf
        intro z hz
        have hz88 : z = (k : Int) := by rw [hz]; exact wi64 (by omega)
        clear hz
        subst hz88
        conv => whnf
        exact ⟨(), ⟨rfl, by rw [if_pos h2]; rfl, rfl, rfl, trivial⟩, rfl⟩
      · have h2 := df h2
        conv => whnf
        rw [if_neg h2] at hk
        subst hk
        exact ⟨(), ⟨rfl, by rw [if_neg h2]; rfl, rfl, rfl, trivial⟩, rfl⟩
    rintro _ w2 hw2
    subst hw2
    conv => whnf
    refine vcLoop_inv lok (σ := Nat)
      (fun i => [(7, .int .i64 i), (5, .int .i64 k), (6, .int .i64 (if s.left = 0 then 7 else 0)), (1, .int .i64 a), (0, .pointer (some ⟨g, 0, none⟩))])
      (fun i w3 => i ≤ k ∧ FlAt 81 B w3 g gw c { s1 with ws := fillF s.ws (256 * a) i } ∧ FlMod g gw w' w3) (fun i => k - i)
      0 ⟨rfl, rfl, rfl, rfl, rfl, trivial⟩ ⟨Nat.zero_le _, by rw [fillF_zero, ← ews]; exact g1, m1⟩ ?_
    rintro i w3 ⟨hi, g3, m3⟩
    conv => whnf
    refine vcCond_split lok rfl (fun h2 => ?_) (fun h2 => ?_)
    · have h2 := dt h2
      conv => whnf
      have hlen := fillF_len s.ws (256 * a) i
      refine ⟨_, g3.blk.cell0 rfl, ?_⟩
      conv => whnf
      refine ⟨by omega, ?_⟩
      conv => whnf
      refine ⟨by omega, ?_⟩
      conv => whnf
      have ei : (a : Int) * 256 + (i : Int) = ((256 * a + i : Nat) : Int) := by omega
      rw [ei]
      refine ⟨gw, 0, rfl, ⟨by omega, by show ((256 * a + i : Nat) : Int) < ((fillF s.ws (256 * a) i).length : Int); omega⟩, ?_⟩
      conv => whnf
      rw [show (((256 * a + i : Nat) : Int)).toNat = 256 * a + i from rfl]
      have hix : 256 * a + i < (fillF s.ws (256 * a) i).length := by omega
      refine ⟨⟨rfl, (g3.own.storeAt (256 * a + i) hix).1⟩, fun w4 hw4 => ?_⟩
      have k4 := g3.setWord (256 * a + i) hix ones hw4
      obtain ⟨g4, m4⟩ := k4
      clear hw4
      conv => whnf
      refine ⟨by omega, ?_⟩
      conv => whnf
      refine ⟨i + 1, ⟨rfl, rfl, rfl, rfl, rfl, trivial⟩, ⟨by omega, ?_, m3.trans m4⟩, by omega⟩
      rw [fillF_succ]
      exact g4
    · have h2 := df h2
      conv => whnf
      have e3 : i = k := by omega
      subst e3
      rw [efin] at g3
      exact ⟨rfl, g3, m3⟩

/-- Read -/
theorem rread_calls {B : Nat} {w : World} {g gw c : Nat} {s : FS} (h : FlAt 81 B w g gw c s) (at_ : Int) :
    Calls Try.prog 100 #[.pointer (some ⟨g, 0, none⟩), .int .i64 at_] w (Ret fun v w' => v = .tuple #[.int .u32 (readF s at_).1.toNat, .int .i64 (readF s at_).2] ∧ w' = w) := by
  refine calls_of_vc lok Try.func100 ?_ rfl
  conv => whnf
  refine ⟨_, h.blk.cell (i := 1) rfl, ?_⟩
  conv => whnf
  cases ho : s.off with
  | true =>
    have e : readF s at_ = (0#32, 7) := if_pos ho
    rw [e]
    refine vcCond_true lok (rfl) ?_
    conv => whnf
    exact ⟨rfl, rfl⟩
  | false =>
    refine vcCond_false lok (rfl) ?_
    conv => whnf
    refine vcReg_meet lok (fun β : Bool => [(20, .bool β)]) (fun β w' => w' = w ∧ β = decide (at_ < 0 ∨ (s.ws.length : Int) ≤ at_)) [20] (fun _ => rfl) rfl ?_ ?_
    · conv => whnf
      refine bcase (fun h1 => ?_) (fun h1 => ?_)
      · conv => whnf
        exact ⟨_, ⟨rfl, trivial⟩, rfl, by have := dt h1; simp; omega⟩
      · conv => whnf
        refine ⟨_, h.blk.cell0 rfl, ?_⟩
        conv => whnf
        exact ⟨_, ⟨rfl, trivial⟩, rfl, by have := df h1; rw [decide_eq_decide]; omega⟩
    rintro β w' ⟨hw', hβ⟩
    subst hw'
    conv => whnf
    refine vcCond_split lok rfl (fun h1 => ?_) (fun h1 => ?_)
    · rw [h1] at hβ
      have hr := dt hβ.symm
      have e : readF s at_ = (0#32, 10) := by unfold readF; rw [if_neg (by rw [ho]; decide), if_pos hr]
      rw [e]
      conv => whnf
      exact ⟨rfl, rfl⟩
    rw [h1] at hβ
    have hr := df hβ.symm
    have e : readF s at_ = (s.ws.getD at_.toNat 0#32, 0) := by unfold readF; rw [if_neg (by rw [ho]; decide), if_neg hr]
    rw [e]
    conv => whnf
    refine ⟨_, h.blk.cell0 rfl, ?_⟩
    conv => whnf
    refine ⟨gw, 0, rfl, ⟨by omega, by omega⟩, ?_⟩
    conv => whnf
    refine ⟨_, h.own.cellAt (i := at_.toNat) (x := s.ws.getD at_.toNat 0#32) (by simp [List.getD, List.getElem?_eq_getElem (show at_.toNat < s.ws.length by omega)]), ?_⟩
    conv => whnf
    exact ⟨rfl, rfl⟩

/-- Start -/
theorem rstart_calls {B : Nat} {w : World} {g gw c : Nat} {s : FS} (h : FlAt 81 B w g gw c s) :
    Calls Try.prog 82 #[.pointer (some ⟨g, 0, none⟩)] w (Ret fun v w' => v = .tuple #[] ∧ FlAt 81 B w' g gw c (startF s) ∧ FlMod g gw w w') := by
  refine calls_of_vc lok Try.func82 ?_ rfl
  conv => whnf
  refine ⟨h.blk.can 1 (by simp [FS.cells]) _ rfl, fun w2 hw2 => ?_⟩
  have k2 := h.setField 1 (.bool false) (startF s) rfl rfl hw2
  exact ⟨rfl, k2.1, k2.2⟩
/-- Cut -/
theorem rcut_calls {B : Nat} {w : World} {g gw c : Nat} {s : FS} (h : FlAt 81 B w g gw c s) (n : Int) (m : BitVec 32) :
    Calls Try.prog 75 #[.pointer (some ⟨g, 0, none⟩), .int .i64 n, .int .u32 m.toNat] w (Ret fun v w' => v = .int .i64 (cutF s n m).2 ∧ FlAt 81 B w' g gw c (cutF s n m).1 ∧ FlMod g gw w w') := by
  refine calls_of_vc lok Try.func75 ?_ rfl
  conv => whnf
  refine vcCond_split lok rfl (fun h1 => ?_) (fun h1 => ?_)
  · have h1 := dt h1
    conv => whnf
    have e : cutF s n m = (s, 1) := if_pos h1
    rw [e]
    exact ⟨rfl, h, Mod.refl _ _⟩
  · have h1 := df h1
    conv => whnf
    have e : cutF s n m = ({ s with left := n, mask := m }, 0) := if_neg h1
    rw [e]
    refine ⟨h.blk.can 2 (by simp [FS.cells]) _ rfl, fun w2 hw2 => ?_⟩
    have k2 := h.setField 2 (.int .i64 n) { s with left := n } rfl rfl hw2
    obtain ⟨g2, m2⟩ := k2
    clear hw2
    conv => whnf
    refine ⟨g2.blk.can 3 (by simp [FS.cells]) _ rfl, fun w3 hw3 => ?_⟩
    have k3 := g2.setField 3 (u32v m) { s with left := n, mask := m } rfl rfl hw3
    exact ⟨rfl, k3.1, m2.trans k3.2⟩
end Go.Proofs.Ytgipackjnncabaa
