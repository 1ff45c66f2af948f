/- Walks of layer 22, third part: the head; the chunks that are there; sealed; whole; sealing; bytes. -/
import Derived.Test.YtgipackjnncabaaW22b
import Derived.Test.YtgipackjnncabaaBv
import Derived.Test.YtgipackjnncabaaW06c
set_option linter.unusedVariables false
namespace Go.Proofs.Ytgipackjnncabaa
open Go.Vc Go.RowKit

/-- what Head tells -/
def headR (s : FS) (n : Nat) (slot : Int) : BitVec 32 × Nat × Bool :=
  match headF s n slot with
  | none => (0#32, 0, false)
  | some (v, m) => (v, m, true)
theorem headR_bad {s : FS} {n : Nat} {slot : Int} (h : checkF s slot ≠ 0) : headR s n slot = (0#32, 0, false) := by
  unfold headR headF
  unfold checkF at h
  by_cases h1 : s.off = true
  · rw [if_pos (.inl h1)]
  · by_cases h2 : badF slot
    · rw [if_pos (.inr h2)]
    · rw [if_neg h1, if_neg h2] at h; exact absurd rfl h
theorem headR_ok {s : FS} {n : Nat} {slot : Int} (h : checkF s slot = 0) : headR s n slot = match headW s.ws (atF n slot) with
    | none => (0#32, 0, false)
    | some (v, m) => (v, m, true) := by
  obtain ⟨h1, h2⟩ := check_zero h
  unfold headR headF
  rw [if_neg (by rw [h1]; simp [h2])]
theorem haveF_eq (s : FS) (n : Nat) (slot : Int) : haveF s n slot = if (headR s n slot).2.2 = true then (haveB s.ws (atF n slot) (headR s n slot).2.1 32, allB s.ws (atF n slot) (headR s n slot).2.1 32) else (0#32, false) := by
  by_cases h : checkF s slot = 0
  · have hc := check_zero h
    rw [headR_ok h]
    unfold haveF haveW
    rw [if_neg (by rw [hc.1]; simp [hc.2])]
    cases headW s.ws (atF n slot) with
    | none => rfl
    | some x => rfl
  · rw [headR_bad h]
    unfold haveF
    rw [if_pos]
    · rfl
    · unfold checkF at h
      by_cases h1 : s.off = true
      · exact .inl h1
      · by_cases h2 : badF slot
        · exact .inr h2
        · rw [if_neg h1, if_neg h2] at h; exact absurd rfl h
theorem headR_size (s : FS) (n : Nat) (slot : Int) : (headR s n slot).2.1 ≤ 2048 := by
  by_cases h : checkF s slot = 0
  · rw [headR_ok h]
    split
    · exact Nat.zero_le _
    · rename_i v m hm
      have := (headW_size hm).1.2.2.2
      show m ≤ 2048
      omega
  · rw [headR_bad h]; exact Nat.zero_le _
theorem headR_yes {s : FS} {n : Nat} {slot : Int} (h : (headR s n slot).2.2 = true) : checkF s slot = 0 := by
  by_cases h2 : checkF s slot = 0
  · exact h2
  · rw [headR_bad h2] at h; cases h

theorem shl_one (k : Nat) (hk : k < 32) : IntKind.u32.wrap (1 * 2 ^ (min (k : Int).toNat IntKind.u32.bits)) = ((2 ^ k : Nat) : Int) := by
  have e : min (k : Int).toNat IntKind.u32.bits = k := by
    show min (k : Int).toNat 32 = k
    omega
  have h2 : 2 ^ k < 2 ^ 32 := Nat.pow_lt_pow_right (by decide) hk
  rw [e, wu32, Int.one_mul]
  have e2 : ((2 : Int) ^ k) = ((2 ^ k : Nat) : Int) := by rw [Int.natCast_pow]; rfl
  rw [e2]
  generalize 2 ^ k = m at *
  omega
theorem haveF_yes {s : FS} {n : Nat} {slot : Int} (h : (haveF s n slot).2 = true) : checkF s slot = 0 := by
  rw [haveF_eq] at h
  by_cases h2 : (headR s n slot).2.2 = true
  · exact headR_yes h2
  · rw [if_neg h2] at h; cases h

section
variable {B : Nat} {w : World} {sb g gw c n i : Nat} {s : FS}
set_option maxHeartbeats 1000000 in
/-- Head -/
theorem shead_calls (h : SlAt B w sb g gw c n s) (slot : Int) : Calls Try.prog 128 #[.pointer (some ⟨sb, 0, none⟩), .int .i64 slot] w
    (Ret fun r w' => r = .tuple #[.int .u32 (headR s n slot).1.toNat, .int .i64 (headR s n slot).2.1, .bool (headR s n slot).2.2] ∧ Ext w w') := by
  refine calls_of_vc lok Try.func128 ?_ rfl
  conv => whnf
  refine vcReg_meet lok (fun β : Bool => [(18, .bool β)]) (fun β w' => Ext w w' ∧ β = !decide (checkF s slot = 0 ∧ s.ws.getD (atF n slot + 2) 0#32 = 0#32)) [18] (fun _ => rfl) rfl ?_ ?_
  · conv => whnf
    refine Calls.ret (scheck_calls h slot) ?_
    rintro _ w1 ⟨rfl, hw1⟩
    conv => whnf
    subst hw1
    refine bcase (fun k1 => ?_) (fun k1 => ?_)
    · have k1 := ne_true k1
      conv => whnf
      exact ⟨_, ⟨rfl, trivial⟩, Ext.refl _, by rw [decide_eq_false (fun q => k1 q.1)]; rfl⟩
    have k1 := ne_false k1
    have hz := check_zero k1
    conv => whnf
    refine Calls.ret (sword_calls h slot hz.2 hz.1 2 (by decide) 2 rfl) ?_
    rintro _ w2 ⟨rfl, x2⟩
    conv => whnf
    refine ⟨_, ⟨rfl, trivial⟩, x2, ?_⟩
    congr 1
    rw [decide_eq_decide]
    exact ⟨fun e => ⟨k1, num_zero.1 e⟩, fun q => num_zero.2 q.2⟩
  rintro β w1 ⟨x1, hβ⟩
  have h1 := h.ext x1
  conv => whnf
  refine vcCond_split lok rfl (fun h2 => ?_) (fun h2 => ?_)
  · rw [hβ] at h2
    have h2 : ¬ (checkF s slot = 0 ∧ s.ws.getD (atF n slot + 2) 0#32 = 0#32) := fun q => by rw [decide_eq_true q] at h2; cases h2
    have e : headR s n slot = (0#32, 0, false) := by
      by_cases hc : checkF s slot = 0
      · rw [headR_ok hc, headW_none (.inr fun q => h2 ⟨hc, q⟩)]
      · exact headR_bad hc
    rw [e]
    conv => whnf
    exact ⟨rfl, x1⟩
  rw [hβ] at h2
  have h2 : checkF s slot = 0 ∧ s.ws.getD (atF n slot + 2) 0#32 = 0#32 := by
    by_cases q : checkF s slot = 0 ∧ s.ws.getD (atF n slot + 2) 0#32 = 0#32
    · exact q
    · rw [decide_eq_false q] at h2; cases h2
  have hz := check_zero h2.1
  have er := headR_ok (n := n) h2.1
  unfold headW at er
  conv => whnf
  refine Calls.ret (sword_calls h1 slot hz.2 hz.1 0 (by decide) 0 rfl) ?_
  rintro _ w2 ⟨rfl, x2⟩
  conv => whnf
  refine Calls.ret (sword_calls (h1.ext x2) slot hz.2 hz.1 1 (by decide) 1 rfl) ?_
  rintro _ w3 ⟨rfl, x3⟩
  conv => whnf
  rw [Nat.add_zero]
  generalize s.ws.getD (atF n slot + 1) 0#32 = sz at *
  generalize s.ws.getD (atF n slot) 0#32 = vv at *
  have hlt := sz.isLt
  intro y hz
  have hz13 : y = (sz.toNat : Int) := by rw [hz]; exact wi64 (by omega)
  clear hz
  subst hz13
  conv => whnf
  refine Calls.ret (canBe_calls vv (sz.toNat : Int)) ?_
  rintro _ w4 ⟨rfl, hw4⟩
  conv => whnf
  subst hw4
  have x14 := x1.trans (x2.trans x3)
  refine vcCond_split lok rfl (fun h5 => ?_) (fun h5 => ?_)
  · have h5 : ¬ canN vv sz.toNat := fun q => by rw [decide_eq_true q] at h5; cases h5
    rw [if_neg (fun q => h5 q.2)] at er
    rw [er]
    conv => whnf
    exact ⟨rfl, x14⟩
  · have h5 : canN vv sz.toNat := by
      by_cases q : canN vv sz.toNat
      · exact q
      · rw [decide_eq_false q] at h5; cases h5
    rw [if_pos ⟨h2.2, h5⟩] at er
    rw [er]
    conv => whnf
    exact ⟨rfl, x14⟩

set_option maxHeartbeats 1000000 in
/-- Have -/
theorem shave_calls (h : SlAt B w sb g gw c n s) (slot : Int) : Calls Try.prog 127 #[.pointer (some ⟨sb, 0, none⟩), .int .i64 slot] w
    (Ret fun r w' => r = .tuple #[.int .u32 (haveF s n slot).1.toNat, .bool (haveF s n slot).2] ∧ Ext w w') := by
  rw [haveF_eq]
  have hsz := headR_size s n slot
  have hyes := headR_yes (s := s) (n := n) (slot := slot)
  refine calls_of_vc lok Try.func127 ?_ rfl
  conv => whnf
  refine Calls.ret (shead_calls h slot) ?_
  rintro _ w1 ⟨rfl, x1⟩
  conv => whnf
  generalize headR s n slot = H at *
  obtain ⟨hv, hm, hb⟩ := H
  simp only at hsz hyes
  have h1 := h.ext x1
  conv => whnf
  refine vcCond_split lok rfl (fun h2 => ?_) (fun h2 => ?_)
  · have h2 : hb = false := by simpa using h2
    subst h2
    rw [if_neg (by simp)]
    conv => whnf
    exact ⟨rfl, x1⟩
  have h2 : hb = true := by simpa using h2
  subst h2
  rw [if_pos rfl]
  have hz := check_zero (hyes rfl)
  clear hyes
  conv => whnf
  refine vcLoop_inv lok (σ := Nat)
    (fun k => [(11, .int .i64 k), (9, .int .u32 (haveB s.ws (atF n slot) hm k).toNat), (10, .bool (allB s.ws (atF n slot) hm k)), (7, .int .i64 hm), (0, .pointer (some ⟨sb, 0, none⟩)), (1, .int .i64 slot)])
    (fun k w' => k ≤ 32 ∧ SlAt B w' sb g gw c n s ∧ Ext w w') (fun k => 32 - k)
    0 ⟨rfl, rfl, rfl, rfl, rfl, rfl, trivial⟩ ⟨Nat.zero_le _, h1, x1⟩ ?_
  rintro k w2 ⟨hk, h2, x2⟩
  conv => whnf
  refine ⟨by omega, ?_⟩
  conv => whnf
  refine vcCond_split lok rfl (fun h3 => ?_) (fun h3 => ?_)
  rotate_left
  · have h3 := df h3
    conv => whnf
    have hmk : hm ≤ 64 * k := by omega
    have e1 := haveB_more (ws := s.ws) (p := atF n slot) hmk (32 - k)
    have e2 := allB_more (ws := s.ws) (p := atF n slot) hmk (32 - k)
    rw [show k + (32 - k) = 32 by omega] at e1 e2
    rw [e1, e2]
    exact ⟨rfl, x2⟩
  have h3 := dt h3
  conv => whnf
  have hk32 : k < 32 := by omega
  have ebit : bitB s.ws (atF n slot) hm k = decide (s.ws.getD (atF n slot + 3 + k) 0#32 = 0#32) := by
    unfold bitB
    rw [decide_eq_decide]
    exact ⟨fun q => q.2, fun q => ⟨by omega, q⟩⟩
  have eall : allB s.ws (atF n slot) hm (k + 1) = (allB s.ws (atF n slot) hm k && decide (s.ws.getD (atF n slot + 3 + k) 0#32 = 0#32)) := by
    rw [allB_succ]
    congr 1
    rw [decide_eq_decide]
    exact ⟨fun q => q (by omega), fun q _ => q⟩
  refine ⟨by omega, ?_⟩
  conv => whnf
  refine Calls.ret (sword_calls h2 slot hz.2 hz.1 (3 + k) (by omega) (3 + (k : Int)) (by omega)) ?_
  rintro _ w3 ⟨rfl, x3⟩
  conv => whnf
  rw [← Nat.add_assoc]
  have ed : decide (((s.ws.getD (atF n slot + 3 + k) 0#32).toNat : Int) = 0) = decide (s.ws.getD (atF n slot + 3 + k) 0#32 = 0#32) := decide_eq_decide.2 num_zero
  rw [ed]
  refine vcReg_meet lok (fun β : Bool => [(10, .bool β)]) (fun β w' => w' = w3 ∧ β = allB s.ws (atF n slot) hm (k + 1)) [10] (fun _ => rfl) rfl ?_ ?_
  · conv => whnf
    rw [eall]
    refine bcase (fun k4 => ?_) (fun k4 => ?_)
    · conv => whnf
      exact ⟨_, ⟨rfl, trivial⟩, rfl, by rw [k4]; rfl⟩
    · conv => whnf
      exact ⟨_, ⟨rfl, trivial⟩, rfl, by rw [k4]; rfl⟩
  rintro β w4 ⟨hw4, hβ⟩
  subst hw4
  subst hβ
  have ehave : haveB s.ws (atF n slot) hm (k + 1) = haveB s.ws (atF n slot) hm k ||| (if bitB s.ws (atF n slot) hm k = true then BitVec.twoPow 32 k else 0#32) := rfl
  rw [ebit] at ehave
  conv => whnf
  refine vcCond_meet (fun _ : Unit => [(9, .int .u32 (haveB s.ws (atF n slot) hm (k + 1)).toNat), (11, .int .i64 k), (10, .bool (allB s.ws (atF n slot) hm (k + 1))), (7, .int .i64 hm), (0, .pointer (some ⟨sb, 0, none⟩)), (1, .int .i64 slot)])
    (fun _ w' => w' = w4) ?_ ?_
  · refine vcCond_split lok rfl (fun h5 => ?_) (fun h5 => ?_)
    · rw [h5, if_pos rfl] at ehave
      rw [ehave]
      conv => whnf
      intro y hz
      have hz37 : y = (k : Int) := by rw [hz, wu64]; omega
      clear hz
      subst hz37
      conv => whnf
      refine ⟨by omega, ?_⟩
      intro y2 hz
      have hz38 : y2 = ((BitVec.twoPow 32 k).toNat : Int) := by rw [hz, pow_nat k hk32]; exact shl_one k hk32
      clear hz
      subst hz38
      conv => whnf
      intro y3 hz
      have hz39 : y3 = ((haveB s.ws (atF n slot) hm k ||| BitVec.twoPow 32 k).toNat : Int) := by rw [hz]; exact or32 _ _
      clear hz
      subst hz39
      conv => whnf
      exact ⟨(), ⟨rfl, rfl, rfl, rfl, rfl, rfl, trivial⟩, rfl⟩
    · rw [h5, if_neg (by simp), BitVec.or_zero] at ehave
      rw [ehave]
      conv => whnf
      exact ⟨(), ⟨rfl, rfl, rfl, rfl, rfl, rfl, trivial⟩, rfl⟩
  rintro ⟨⟩ w5 hw5
  subst hw5
  conv => whnf
  refine ⟨by omega, ?_⟩
  conv => whnf
  exact ⟨k + 1, ⟨rfl, rfl, rfl, rfl, rfl, rfl, trivial⟩, ⟨by omega, h2.ext x3, x2.trans x3⟩, by omega⟩
end
end Go.Proofs.Ytgipackjnncabaa
