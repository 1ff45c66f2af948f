/- Own texts of this claim, joined: W22b, W22c, W22d, W22e, W22f, L22a, L22b, L22c, W22g. -/
import Derived.Test.YtgipackjnncabaaK37f

/- Walks of layer 22, second part: words laid; dropped; begun; the head. -/
set_option linter.unusedVariables false
namespace Go.Proofs.Ytgipackjnncabaa
open Go.Vc Go.RowKit

theorem progF_code {s : FS} {i : Int} {x : BitVec 32} (h0 : 0 ≤ i) (h1 : i < s.ws.length) : (progF s i x).2 = 0 ∨ (progF s i x).2 = 7 := by
  unfold progF
  split
  · exact .inr rfl
  · rw [if_neg (by omega)]
    split
    · exact .inr rfl
    · exact .inl rfl
theorem Num.all {n : Nat} : ∀ (xs : List (BitVec 32)) (s : FS) (i : Nat) (a : Int), Num s n i → Num (progAllF s a xs).1 n (i + xs.length)
  | [], s, i, a, h => h
  | x :: xs, s, i, a, h => by
    have k := h.prog a x
    rw [List.length_cons]
    unfold progAllF
    split
    · exact (Num.all xs _ (i + 1) (a + 1) k).up (by omega)
    · exact k.up (by omega)

section
variable {B : Nat} {w : World} {sb g gw c n i : Nat} {s : FS}
set_option maxHeartbeats 1000000 in
/-- lay -/
theorem slay_calls (h : SlAt B w sb g gw c n s) (slot : Int) (hb : ¬ badF slot) (at_ : Nat) {xa : Option Addr} {xc : Nat} {xs : List (BitVec 32)} (hx : ∀ w', FlMod g gw w w' → Sl u32v w' xa xs) (hat : at_ + xs.length ≤ 768)
    (hop : Num s s.ws.length i) (hi : i ≤ 2305843009213693952) :
    Calls Try.prog 174 #[.pointer (some ⟨sb, 0, none⟩), .int .i64 slot, .int .i64 at_, .slice xa xs.length xc] w
      (Ret fun v w' => v = .int .i64 (progAllF s (atF n slot + at_ : Nat) xs).2 ∧ SlAt B w' sb g gw c n (progAllF s (atF n slot + at_ : Nat) xs).1 ∧ FlMod g gw w w') := by
  have hr := h.room
  have hm := h.small
  have hp := atF_le hb hr
  have hpd : ((n + 3 * slot.toNat : Nat) : Int) * 256 = (atF n slot : Int) := by unfold atF; omega
  refine calls_of_vcS lok Try.func174 ?_ rfl
  conv => whnf
  refine vcLoop_meet 0 (fun e : Int => [(9, .int .i64 e)]) (fun e w' => e = (progAllF s (atF n slot + at_ : Nat) xs).2 ∧ SlAt B w' sb g gw c n (progAllF s (atF n slot + at_ : Nat) xs).1 ∧ FlMod g gw w w') ?_ ?_
  · refine vcLoop_inv lok (σ := Nat)
      (fun k => [(13, .int .i64 k), (12, .int .i64 xs.length), (9, .int .i64 0), (0, .pointer (some ⟨sb, 0, none⟩)), (1, .int .i64 slot), (2, .int .i64 at_), (3, .slice xa xs.length xc)])
      (fun k w' => k ≤ xs.length ∧ ∃ sk, SlAt B w' sb g gw c n sk ∧ Num sk s.ws.length (i + k) ∧ FlMod g gw w w' ∧ progAllF s (atF n slot + at_ : Nat) xs = progAllF sk (atF n slot + at_ + k : Nat) (xs.drop k)) (fun k => xs.length - k)
      0 ⟨rfl, rfl, rfl, rfl, rfl, rfl, rfl, trivial⟩ ⟨Nat.zero_le _, s, h, hop, Mod.refl _ _, by rw [Nat.add_zero, List.drop_zero]⟩ ?_
    rintro k w1 ⟨hk, sk, h1, op1, m1, e1⟩
    have hl1 := op1.len
    conv => whnf
    refine vcCond_split lok rfl (fun h2 => ?_) (fun h2 => ?_)
    rotate_left
    · have h2 := df h2
      conv => whnf
      have hkl : k = xs.length := by omega
      rw [List.drop_of_length_le (by omega), progAllF] at e1
      rw [e1]
      exact ⟨0, ⟨rfl, trivial⟩, rfl, h1, m1⟩
    have h2 := dt h2
    conv => whnf
    have hkl : k < xs.length := by omega
    have edr : xs.drop k = xs.getD k 0#32 :: xs.drop (k + 1) := by
      rw [List.drop_eq_getElem_cons hkl]
      simp [List.getD, List.getElem?_eq_getElem hkl]
    rw [edr, progAllF] at e1
    refine vcDraw_meet lok mixed (Ext w1) [6] [0, 1, 2, 3, 4, 5, 8, 10, 12, 13, 14, 15, 6, 7, 9, 11, 16, 17] (fun e : Int => [(9, .int .i64 e)])
      (fun e w' => e = (progF sk (atF n slot + at_ + k : Nat) (xs.getD k 0#32)).2 ∧ SlAt B w' sb g gw c n (progF sk (atF n slot + at_ + k : Nat) (xs.getD k 0#32)).1 ∧ FlMod g gw w w') [9] (fun _ => rfl) rfl (by kernel_rfl) (fun w2 hw2 => ⟨hw2 ▸ Ext.drew w1, ?_⟩) ?_
    · have x2 : Ext w1 w2 := hw2 ▸ Ext.drew w1
      clear hw2
      have hsb := h1.b
      have hsx := hx w1 m1
      conv => whnf
      refine ⟨_, fun w' hw' => (hsb.ext hw').cell (i := 0) rfl, ?_⟩
      conv => whnf
      have g8 := sl_get (hsx) ((k : Int)) (k) (by omega) (by omega)
      obtain ⟨p8, o8, ha8, hb8, hcell8⟩ := g8
      refine ⟨p8, o8, ha8, hb8, ?_⟩
      conv => whnf
      refine ⟨_, fun w' hw' => Below.cell_of hw' (cell_lt hcell8) hcell8, ?_⟩
      conv => whnf
      refine Calls.ret (ssector_calls (h1.ext x2) slot hb) ?_
      rintro _ w3 ⟨rfl, hw3⟩
      subst hw3
      refine ⟨_, fun _ h => h, x2, ?_⟩
      conv => whnf
      refine ⟨by omega, ?_⟩
      conv => whnf
      refine ⟨by omega, ?_⟩
      conv => whnf
      refine ⟨by omega, ?_⟩
      conv => whnf
      rw [hpd, show (atF n slot : Int) + (at_ : Int) + (k : Int) = ((atF n slot + at_ + k : Nat) : Int) by omega]
      refine Calls.ret (prog_calls (h1.f.ext x2) ((atF n slot + at_ + k : Nat) : Int) (xs.getD k 0#32) (by omega) (op1.ok (by omega))) ?_
      rintro _ w4 ⟨rfl, f4, m4⟩
      conv => whnf
      exact ⟨_, ⟨rfl, trivial⟩, rfl, (h1.ext x2).next f4 m4 (progF_le sk _ _).len, (m1.trans (Mod.ofExt _ x2)).trans m4⟩
    rintro e w2 ⟨he, h3, m3⟩
    conv => whnf
    have hcode := progF_code (s := sk) (i := ((atF n slot + at_ + k : Nat) : Int)) (x := xs.getD k 0#32) (by omega) (by omega)
    refine vcCond_split lok rfl (fun h4 => ?_) (fun h4 => ?_)
    · have h4 := ne_true h4
      rw [he] at h4
      rw [if_neg h4] at e1
      rw [e1]
      conv => whnf
      refine ⟨e, ⟨rfl, trivial⟩, ?_, h3, m3⟩
      rw [he]
      rcases hcode with q | q
      · exact absurd q h4
      · exact q
    · have h4 := ne_false h4
      subst h4
      rw [if_pos he.symm] at e1
      conv => whnf
      refine ⟨by omega, ?_⟩
      conv => whnf
      refine ⟨k + 1, ⟨rfl, rfl, rfl, rfl, rfl, rfl, rfl, trivial⟩, ⟨by omega, _, h3, (op1.prog _ _).up (by omega), m3, by rw [show ((atF n slot + at_ + (k + 1) : Nat) : Int) = ((atF n slot + at_ + k : Nat) : Int) + 1 by omega]; exact e1⟩, by omega⟩
  rintro e w1 ⟨rfl, h1, m1⟩
  conv => whnf
  exact ⟨rfl, h1, m1⟩

/-- Drop -/
theorem sdrop_calls (h : SlAt B w sb g gw c n s) (slot : Int) (hop : Num s s.ws.length i) (hi : i ≤ 2305843009213693952) :
    Calls Try.prog 132 #[.pointer (some ⟨sb, 0, none⟩), .int .i64 slot] w (Ret fun v w' => v = .int .i64 (dropSF s n slot).2 ∧ SlAt B w' sb g gw c n (dropSF s n slot).1 ∧ FlMod g gw w w') := by
  have hr := h.room
  have hm := h.small
  unfold dropSF
  refine calls_of_vc lok Try.func132 ?_ rfl
  conv => whnf
  refine Calls.ret (scheck_calls h slot) ?_
  rintro _ w1 ⟨rfl, hw1⟩
  conv => whnf
  subst hw1
  refine vcCond_split lok rfl (fun h1 => ?_) (fun h1 => ?_)
  · have h1 := ne_true h1
    rw [if_pos h1]
    conv => whnf
    exact ⟨rfl, h, Mod.refl _ _⟩
  have h1 := ne_false h1
  rw [if_neg (fun q => q h1)]
  have hb := (check_zero h1).2
  conv => whnf
  refine vcDraw_go lok mixed (Ext w1) [6] [0, 1, 2, 3, 4, 5, 6, 7, 8] (by kernel_rfl) (fun w2 hw2 => ⟨hw2 ▸ Ext.drew w1, ?_⟩)
  have x2 : Ext w1 w2 := hw2 ▸ Ext.drew w1
  clear hw2
  have hsb := h.b
  conv => whnf
  refine ⟨_, fun w' hw' => (hsb.ext hw').cell (i := 0) rfl, ?_⟩
  conv => whnf
  refine Calls.ret (ssector_calls (h.ext x2) slot hb) ?_
  rintro _ w3 ⟨rfl, hw3⟩
  subst hw3
  refine ⟨_, fun _ h => h, x2, ?_⟩
  conv => whnf
  refine Calls.ret (erase_calls (h.f.ext x2) ((n + 3 * slot.toNat : Nat) : Int) (by omega) (hop.ok (by omega))) ?_
  rintro _ w4 ⟨rfl, f4, m4⟩
  conv => whnf
  have hle := (eraseF_le s ((n + 3 * slot.toNat : Nat) : Int)).len
  exact ⟨rfl, (h.ext x2).next f4 m4 hle, (Mod.ofExt _ x2).trans m4⟩

set_option maxHeartbeats 1000000 in
/-- Begin -/
theorem sbegin_calls (h : SlAt B w sb g gw c n s) (slot : Int) (v : BitVec 32) (m : Int) (hop : Num s s.ws.length i) (hi : i ≤ 1152921504606846976) :
    Calls Try.prog 124 #[.pointer (some ⟨sb, 0, none⟩), .int .i64 slot, .int .u32 v.toNat, .int .i64 m] w (Ret fun r w' => r = .int .i64 (beginSF s n slot v m).2 ∧ SlAt B w' sb g gw c n (beginSF s n slot v m).1 ∧ FlMod g gw w w') := by
  have hr := h.room
  have hm := h.small
  have ecode : ∀ (t : FS) (k : Nat), k < t.ws.length / 256 → (eraseF t k).2 = 0 ∨ (eraseF t k).2 = 7 := by
    intro t k hk
    unfold eraseF
    split
    · exact .inr rfl
    · rw [if_neg (by omega)]
      split
      · exact .inr rfl
      · exact .inl rfl
  unfold beginSF
  refine calls_of_vc lok Try.func124 ?_ rfl
  conv => whnf
  refine Calls.ret (scheck_calls h slot) ?_
  rintro _ w1 ⟨rfl, hw1⟩
  conv => whnf
  subst hw1
  refine vcCond_split lok rfl (fun h1 => ?_) (fun h1 => ?_)
  · have h1 := ne_true h1
    rw [if_pos h1]
    conv => whnf
    exact ⟨rfl, h, Mod.refl _ _⟩
  have h1 := ne_false h1
  rw [if_neg (fun q => q h1)]
  have hb := (check_zero h1).2
  have hp := atF_le hb hr
  conv => whnf
  refine Calls.ret (canBe_calls v m) ?_
  rintro _ w2 ⟨rfl, hw2⟩
  conv => whnf
  subst hw2
  refine vcCond_split lok rfl (fun h2 => ?_) (fun h2 => ?_)
  · have h2 : ¬ canN v m := by
      intro q; rw [decide_eq_true q] at h2; cases h2
    rw [if_pos h2]
    conv => whnf
    exact ⟨rfl, h, Mod.refl _ _⟩
  have h2 : canN v m := by
    by_cases q : canN v m
    · exact q
    · rw [decide_eq_false q] at h2; cases h2
  rw [if_neg (fun q => q h2)]
  have hsl : ∃ k, k = n + 3 * slot.toNat ∧ k + 3 ≤ s.ws.length / 256 := ⟨_, rfl, by unfold badF at hb; omega⟩
  obtain ⟨sec, hsec, hsec2⟩ := hsl
  rw [← hsec]
  generalize hE : eraseAllF s sec 3 = E3
  conv => whnf
  refine vcLoop_inv lok (σ := Nat)
    (fun k => [(22, .int .i64 k), (0, .pointer (some ⟨sb, 0, none⟩)), (1, .int .i64 slot), (2, .int .u32 v.toNat), (3, .int .i64 m)])
    (fun k w' => k ≤ 3 ∧ ∃ sk, SlAt B w' sb g gw c n sk ∧ Num sk s.ws.length (i + k) ∧ FlMod g gw w2 w' ∧ E3 = eraseAllF sk (sec + k) (3 - k)) (fun k => 3 - k)
    0 ⟨rfl, rfl, rfl, rfl, rfl, trivial⟩ ⟨Nat.zero_le _, s, h, hop, Mod.refl _ _, hE.symm⟩ ?_
  rintro k w3 ⟨hk, sk, h3, op3, m3, e3⟩
  have hl3 := op3.len
  conv => whnf
  refine vcCond_split lok rfl (fun h4 => ?_) (fun h4 => ?_)
  · have h4 := dt h4
    conv => whnf
    have hk3 : k < 3 := by omega
    rw [show 3 - k = (3 - (k + 1)) + 1 by omega, eraseAllF] at e3
    refine vcDraw_meet lok mixed (Ext w3) [6] [0, 1, 2, 3, 4, 5, 7, 6, 8, 9, 10] (fun e : Int => [(11, .int .i64 e)])
      (fun e w' => e = (eraseF sk (sec + k : Nat)).2 ∧ SlAt B w' sb g gw c n (eraseF sk (sec + k : Nat)).1 ∧ FlMod g gw w2 w') [11] (fun _ => rfl) rfl (by kernel_rfl) (fun w4 hw4 => ⟨hw4 ▸ Ext.drew w3, ?_⟩) ?_
    · have x4 : Ext w3 w4 := hw4 ▸ Ext.drew w3
      clear hw4
      have hsb := h3.b
      conv => whnf
      refine ⟨_, fun w' hw' => (hsb.ext hw').cell (i := 0) rfl, ?_⟩
      conv => whnf
      refine Calls.ret (ssector_calls (h3.ext x4) slot hb) ?_
      rintro _ w5 ⟨rfl, hw5⟩
      subst hw5
      refine ⟨_, fun _ h => h, x4, ?_⟩
      conv => whnf
      refine ⟨by omega, ?_⟩
      conv => whnf
      rw [← hsec, show (sec : Int) + (k : Int) = ((sec + k : Nat) : Int) by omega]
      refine Calls.ret (erase_calls (h3.f.ext x4) ((sec + k : Nat) : Int) (by omega) (op3.ok (by omega))) ?_
      rintro _ w6 ⟨rfl, f6, m6⟩
      conv => whnf
      exact ⟨_, ⟨rfl, trivial⟩, rfl, (h3.ext x4).next f6 m6 (eraseF_le sk _).len, (m3.trans (Mod.ofExt _ x4)).trans m6⟩
    rintro e w4 ⟨he, h5, m5⟩
    have hcode := ecode sk (sec + k) (by omega)
    conv => whnf
    refine vcCond_split lok rfl (fun h6 => ?_) (fun h6 => ?_)
    · have h6 := ne_true h6
      rw [he] at h6
      rw [if_neg h6] at e3
      rw [e3]
      rw [if_neg h6]
      conv => whnf
      refine ⟨?_, h5, m5⟩
      rw [he]
      rcases hcode with q | q
      · exact absurd q h6
      · rw [q]
    · have h6 := ne_false h6
      subst h6
      rw [if_pos he.symm] at e3
      conv => whnf
      refine ⟨by omega, ?_⟩
      conv => whnf
      exact ⟨k + 1, ⟨rfl, rfl, rfl, rfl, rfl, trivial⟩, ⟨by omega, _, h5, (op3.erase _).up (by omega), m5, e3⟩, by omega⟩
  · have h4 := df h4
    conv => whnf
    have hk3 : k = 3 := by omega
    subst hk3
    rw [show 3 - 3 = 0 from rfl, eraseAllF] at e3
    rw [e3, if_pos rfl]
    have hm2 := h2.2.2
    intro y hz
    have hz52 : y = ((BitVec.ofInt 32 m).toNat : Int) := by rw [hz, wu32, BitVec.toNat_ofInt]; omega
    clear hz
    subst hz52
    conv => whnf
    have g5 := run_buildN (P := Try.prog) (t := 37) (e := 42) e32.toElem [u32v v, u32v (BitVec.ofInt 32 m), u32v 0#32] (by simp [u32v, Value.oneCell']) (by simp) w3
    refine ⟨_, _, g5, ?_⟩
    have ho5 := own_lit (w := w3) [v, BitVec.ofInt 32 m, 0#32] (by simp)
    have x5 : Ext w3 (w3.alloc (.cells ([v, BitVec.ofInt 32 m, 0#32].map u32v).toArray 42)) := Ext.new _ _
    have hg3 := h3.f.lt
    have g6 := slay_calls (xc := 3) (h3.ext x5) slot hb 0 (xs := [v, BitVec.ofInt 32 m, 0#32]) (fun w' m' => (m'.keepOwn ho5 (fun k hk e => by
      have := (ho5.ge k hk).1
      rcases e with e | e <;> omega)).sl) (by simp) (by rw [hl3]; exact op3) (by omega)
    rw [Nat.add_zero] at g6
    conv => whnf
    refine Calls.ret (g6) ?_
    rintro _ w6 ⟨rfl, h6, m6⟩
    conv => whnf
    exact ⟨rfl, h6, (m3.trans (Mod.ofExt _ x5)).trans m6⟩
end
end Go.Proofs.Ytgipackjnncabaa

/- Walks of layer 22, third part: the head; the chunks that are there; sealed; whole; sealing; bytes. -/
set_option linter.unusedVariables false
namespace Go.Proofs.Ytgipackjnncabaa
open Go.Vc Go.RowKit

/-- what Head tells -/
def headR (s : FS) (n : Nat) (slot : Int) : BitVec 32 × Nat × Bool :=
  match headF s n slot with
  | none => (0#32, 0, false)
  | some (v, m) => (v, m, true)
theorem headR_bad {s : FS} {n : Nat} {slot : Int} (h : checkF s slot ≠ 0) : headR s n slot = (0#32, 0, false) := by
  unfold headR headF
  unfold checkF at h
  by_cases h1 : s.off = true
  · rw [if_pos (.inl h1)]
  · by_cases h2 : badF slot
    · rw [if_pos (.inr h2)]
    · rw [if_neg h1, if_neg h2] at h; exact absurd rfl h
theorem headR_ok {s : FS} {n : Nat} {slot : Int} (h : checkF s slot = 0) : headR s n slot = match headW s.ws (atF n slot) with
    | none => (0#32, 0, false)
    | some (v, m) => (v, m, true) := by
  obtain ⟨h1, h2⟩ := check_zero h
  unfold headR headF
  rw [if_neg (by rw [h1]; simp [h2])]
theorem haveF_eq (s : FS) (n : Nat) (slot : Int) : haveF s n slot = if (headR s n slot).2.2 = true then (haveB s.ws (atF n slot) (headR s n slot).2.1 32, allB s.ws (atF n slot) (headR s n slot).2.1 32) else (0#32, false) := by
  by_cases h : checkF s slot = 0
  · have hc := check_zero h
    rw [headR_ok h]
    unfold haveF haveW
    rw [if_neg (by rw [hc.1]; simp [hc.2])]
    cases headW s.ws (atF n slot) with
    | none => rfl
    | some x => rfl
  · rw [headR_bad h]
    unfold haveF
    rw [if_pos]
    · rfl
    · unfold checkF at h
      by_cases h1 : s.off = true
      · exact .inl h1
      · by_cases h2 : badF slot
        · exact .inr h2
        · rw [if_neg h1, if_neg h2] at h; exact absurd rfl h
theorem headR_size (s : FS) (n : Nat) (slot : Int) : (headR s n slot).2.1 ≤ 2048 := by
  by_cases h : checkF s slot = 0
  · rw [headR_ok h]
    split
    · exact Nat.zero_le _
    · rename_i v m hm
      have := (headW_size hm).1.2.2.2
      show m ≤ 2048
      omega
  · rw [headR_bad h]; exact Nat.zero_le _
theorem headR_yes {s : FS} {n : Nat} {slot : Int} (h : (headR s n slot).2.2 = true) : checkF s slot = 0 := by
  by_cases h2 : checkF s slot = 0
  · exact h2
  · rw [headR_bad h2] at h; cases h

theorem shl_one (k : Nat) (hk : k < 32) : IntKind.u32.wrap (1 * 2 ^ (min (k : Int).toNat IntKind.u32.bits)) = ((2 ^ k : Nat) : Int) := by
  have e : min (k : Int).toNat IntKind.u32.bits = k := by
    show min (k : Int).toNat 32 = k
    omega
  have h2 : 2 ^ k < 2 ^ 32 := Nat.pow_lt_pow_right (by decide) hk
  rw [e, wu32, Int.one_mul]
  have e2 : ((2 : Int) ^ k) = ((2 ^ k : Nat) : Int) := by rw [Int.natCast_pow]; rfl
  rw [e2]
  generalize 2 ^ k = m at *
  omega
theorem haveF_yes {s : FS} {n : Nat} {slot : Int} (h : (haveF s n slot).2 = true) : checkF s slot = 0 := by
  rw [haveF_eq] at h
  by_cases h2 : (headR s n slot).2.2 = true
  · exact headR_yes h2
  · rw [if_neg h2] at h; cases h

section
variable {B : Nat} {w : World} {sb g gw c n i : Nat} {s : FS}
set_option maxHeartbeats 1000000 in
/-- Head -/
theorem shead_calls (h : SlAt B w sb g gw c n s) (slot : Int) : Calls Try.prog 128 #[.pointer (some ⟨sb, 0, none⟩), .int .i64 slot] w
    (Ret fun r w' => r = .tuple #[.int .u32 (headR s n slot).1.toNat, .int .i64 (headR s n slot).2.1, .bool (headR s n slot).2.2] ∧ Ext w w') := by
  refine calls_of_vc lok Try.func128 ?_ rfl
  conv => whnf
  refine vcReg_meet lok (fun β : Bool => [(18, .bool β)]) (fun β w' => Ext w w' ∧ β = !decide (checkF s slot = 0 ∧ s.ws.getD (atF n slot + 2) 0#32 = 0#32)) [18] (fun _ => rfl) rfl ?_ ?_
  · conv => whnf
    refine Calls.ret (scheck_calls h slot) ?_
    rintro _ w1 ⟨rfl, hw1⟩
    conv => whnf
    subst hw1
    refine bcase (fun k1 => ?_) (fun k1 => ?_)
    · have k1 := ne_true k1
      conv => whnf
      exact ⟨_, ⟨rfl, trivial⟩, Ext.refl _, by rw [decide_eq_false (fun q => k1 q.1)]; rfl⟩
    have k1 := ne_false k1
    have hz := check_zero k1
    conv => whnf
    refine Calls.ret (sword_calls h slot hz.2 hz.1 2 (by decide) 2 rfl) ?_
    rintro _ w2 ⟨rfl, x2⟩
    conv => whnf
    refine ⟨_, ⟨rfl, trivial⟩, x2, ?_⟩
    congr 1
    rw [decide_eq_decide]
    exact ⟨fun e => ⟨k1, num_zero.1 e⟩, fun q => num_zero.2 q.2⟩
  rintro β w1 ⟨x1, hβ⟩
  have h1 := h.ext x1
  conv => whnf
  refine vcCond_split lok rfl (fun h2 => ?_) (fun h2 => ?_)
  · rw [hβ] at h2
    have h2 : ¬ (checkF s slot = 0 ∧ s.ws.getD (atF n slot + 2) 0#32 = 0#32) := fun q => by rw [decide_eq_true q] at h2; cases h2
    have e : headR s n slot = (0#32, 0, false) := by
      by_cases hc : checkF s slot = 0
      · rw [headR_ok hc, headW_none (.inr fun q => h2 ⟨hc, q⟩)]
      · exact headR_bad hc
    rw [e]
    conv => whnf
    exact ⟨rfl, x1⟩
  rw [hβ] at h2
  have h2 : checkF s slot = 0 ∧ s.ws.getD (atF n slot + 2) 0#32 = 0#32 := by
    by_cases q : checkF s slot = 0 ∧ s.ws.getD (atF n slot + 2) 0#32 = 0#32
    · exact q
    · rw [decide_eq_false q] at h2; cases h2
  have hz := check_zero h2.1
  have er := headR_ok (n := n) h2.1
  unfold headW at er
  conv => whnf
  refine Calls.ret (sword_calls h1 slot hz.2 hz.1 0 (by decide) 0 rfl) ?_
  rintro _ w2 ⟨rfl, x2⟩
  conv => whnf
  refine Calls.ret (sword_calls (h1.ext x2) slot hz.2 hz.1 1 (by decide) 1 rfl) ?_
  rintro _ w3 ⟨rfl, x3⟩
  conv => whnf
  rw [Nat.add_zero]
  generalize s.ws.getD (atF n slot + 1) 0#32 = sz at *
  generalize s.ws.getD (atF n slot) 0#32 = vv at *
  have hlt := sz.isLt
  intro y hz
  have hz13 : y = (sz.toNat : Int) := by rw [hz]; exact wi64 (by omega)
  clear hz
  subst hz13
  conv => whnf
  refine Calls.ret (canBe_calls vv (sz.toNat : Int)) ?_
  rintro _ w4 ⟨rfl, hw4⟩
  conv => whnf
  subst hw4
  have x14 := x1.trans (x2.trans x3)
  refine vcCond_split lok rfl (fun h5 => ?_) (fun h5 => ?_)
  · have h5 : ¬ canN vv sz.toNat := fun q => by rw [decide_eq_true q] at h5; cases h5
    rw [if_neg (fun q => h5 q.2)] at er
    rw [er]
    conv => whnf
    exact ⟨rfl, x14⟩
  · have h5 : canN vv sz.toNat := by
      by_cases q : canN vv sz.toNat
      · exact q
      · rw [decide_eq_false q] at h5; cases h5
    rw [if_pos ⟨h2.2, h5⟩] at er
    rw [er]
    conv => whnf
    exact ⟨rfl, x14⟩

set_option maxHeartbeats 1000000 in
/-- Have -/
theorem shave_calls (h : SlAt B w sb g gw c n s) (slot : Int) : Calls Try.prog 127 #[.pointer (some ⟨sb, 0, none⟩), .int .i64 slot] w
    (Ret fun r w' => r = .tuple #[.int .u32 (haveF s n slot).1.toNat, .bool (haveF s n slot).2] ∧ Ext w w') := by
  rw [haveF_eq]
  have hsz := headR_size s n slot
  have hyes := headR_yes (s := s) (n := n) (slot := slot)
  refine calls_of_vc lok Try.func127 ?_ rfl
  conv => whnf
  refine Calls.ret (shead_calls h slot) ?_
  rintro _ w1 ⟨rfl, x1⟩
  conv => whnf
  generalize headR s n slot = H at *
  obtain ⟨hv, hm, hb⟩ := H
  simp only at hsz hyes
  have h1 := h.ext x1
  conv => whnf
  refine vcCond_split lok rfl (fun h2 => ?_) (fun h2 => ?_)
  · have h2 : hb = false := by simpa using h2
    subst h2
    rw [if_neg (by simp)]
    conv => whnf
    exact ⟨rfl, x1⟩
  have h2 : hb = true := by simpa using h2
  subst h2
  rw [if_pos rfl]
  have hz := check_zero (hyes rfl)
  clear hyes
  conv => whnf
  refine vcLoop_inv lok (σ := Nat)
    (fun k => [(11, .int .i64 k), (9, .int .u32 (haveB s.ws (atF n slot) hm k).toNat), (10, .bool (allB s.ws (atF n slot) hm k)), (7, .int .i64 hm), (0, .pointer (some ⟨sb, 0, none⟩)), (1, .int .i64 slot)])
    (fun k w' => k ≤ 32 ∧ SlAt B w' sb g gw c n s ∧ Ext w w') (fun k => 32 - k)
    0 ⟨rfl, rfl, rfl, rfl, rfl, rfl, trivial⟩ ⟨Nat.zero_le _, h1, x1⟩ ?_
  rintro k w2 ⟨hk, h2, x2⟩
  conv => whnf
  refine ⟨by omega, ?_⟩
  conv => whnf
  refine vcCond_split lok rfl (fun h3 => ?_) (fun h3 => ?_)
  rotate_left
  · have h3 := df h3
    conv => whnf
    have hmk : hm ≤ 64 * k := by omega
    have e1 := haveB_more (ws := s.ws) (p := atF n slot) hmk (32 - k)
    have e2 := allB_more (ws := s.ws) (p := atF n slot) hmk (32 - k)
    rw [show k + (32 - k) = 32 by omega] at e1 e2
    rw [e1, e2]
    exact ⟨rfl, x2⟩
  have h3 := dt h3
  conv => whnf
  have hk32 : k < 32 := by omega
  have ebit : bitB s.ws (atF n slot) hm k = decide (s.ws.getD (atF n slot + 3 + k) 0#32 = 0#32) := by
    unfold bitB
    rw [decide_eq_decide]
    exact ⟨fun q => q.2, fun q => ⟨by omega, q⟩⟩
  have eall : allB s.ws (atF n slot) hm (k + 1) = (allB s.ws (atF n slot) hm k && decide (s.ws.getD (atF n slot + 3 + k) 0#32 = 0#32)) := by
    rw [allB_succ]
    congr 1
    rw [decide_eq_decide]
    exact ⟨fun q => q (by omega), fun q _ => q⟩
  refine ⟨by omega, ?_⟩
  conv => whnf
  refine Calls.ret (sword_calls h2 slot hz.2 hz.1 (3 + k) (by omega) (3 + (k : Int)) (by omega)) ?_
  rintro _ w3 ⟨rfl, x3⟩
  conv => whnf
  rw [← Nat.add_assoc]
  have ed : decide (((s.ws.getD (atF n slot + 3 + k) 0#32).toNat : Int) = 0) = decide (s.ws.getD (atF n slot + 3 + k) 0#32 = 0#32) := decide_eq_decide.2 num_zero
  rw [ed]
  refine vcReg_meet lok (fun β : Bool => [(10, .bool β)]) (fun β w' => w' = w3 ∧ β = allB s.ws (atF n slot) hm (k + 1)) [10] (fun _ => rfl) rfl ?_ ?_
  · conv => whnf
    rw [eall]
    refine bcase (fun k4 => ?_) (fun k4 => ?_)
    · conv => whnf
      exact ⟨_, ⟨rfl, trivial⟩, rfl, by rw [k4]; rfl⟩
    · conv => whnf
      exact ⟨_, ⟨rfl, trivial⟩, rfl, by rw [k4]; rfl⟩
  rintro β w4 ⟨hw4, hβ⟩
  subst hw4
  subst hβ
  have ehave : haveB s.ws (atF n slot) hm (k + 1) = haveB s.ws (atF n slot) hm k ||| (if bitB s.ws (atF n slot) hm k = true then BitVec.twoPow 32 k else 0#32) := rfl
  rw [ebit] at ehave
  conv => whnf
  refine vcCond_meet (fun _ : Unit => [(9, .int .u32 (haveB s.ws (atF n slot) hm (k + 1)).toNat), (11, .int .i64 k), (10, .bool (allB s.ws (atF n slot) hm (k + 1))), (7, .int .i64 hm), (0, .pointer (some ⟨sb, 0, none⟩)), (1, .int .i64 slot)])
    (fun _ w' => w' = w4) ?_ ?_
  · refine vcCond_split lok rfl (fun h5 => ?_) (fun h5 => ?_)
    · rw [h5, if_pos rfl] at ehave
      rw [ehave]
      conv => whnf
      intro y hz
      have hz37 : y = (k : Int) := by rw [hz, wu64]; omega
      clear hz
      subst hz37
      conv => whnf
      refine ⟨by omega, ?_⟩
      intro y2 hz
      have hz38 : y2 = ((BitVec.twoPow 32 k).toNat : Int) := by rw [hz, pow_nat k hk32]; exact shl_one k hk32
      clear hz
      subst hz38
      conv => whnf
      intro y3 hz
      have hz39 : y3 = ((haveB s.ws (atF n slot) hm k ||| BitVec.twoPow 32 k).toNat : Int) := by rw [hz]; exact or32 _ _
      clear hz
      subst hz39
      conv => whnf
      exact ⟨(), ⟨rfl, rfl, rfl, rfl, rfl, rfl, trivial⟩, rfl⟩
    · rw [h5, if_neg (by simp), BitVec.or_zero] at ehave
      rw [ehave]
      conv => whnf
      exact ⟨(), ⟨rfl, rfl, rfl, rfl, rfl, rfl, trivial⟩, rfl⟩
  rintro ⟨⟩ w5 hw5
  subst hw5
  conv => whnf
  refine ⟨by omega, ?_⟩
  conv => whnf
  exact ⟨k + 1, ⟨rfl, rfl, rfl, rfl, rfl, rfl, trivial⟩, ⟨by omega, h2.ext x3, x2.trans x3⟩, by omega⟩
end
end Go.Proofs.Ytgipackjnncabaa

/- Walks of layer 22, fourth part: sealed; whole; sealing; bytes; a chunk written; opened; the fixed calls. -/
set_option linter.unusedVariables false
namespace Go.Proofs.Ytgipackjnncabaa
open Go.Vc Go.RowKit

theorem whole_head {s : FS} {n : Nat} {slot : Int} (h : checkF s slot = 0) : wholeSF s n slot = if (headR s n slot).2.2 = true then (if (haveF s n slot).2 = true then ((headR s n slot).2.1, 0) else (0, 2)) else (0, 8) := by
  have hc := check_zero h
  have eh : haveF s n slot = haveW s.ws (atF n slot) := by unfold haveF; rw [if_neg (by rw [hc.1]; simp [hc.2])]
  unfold wholeSF
  rw [headR_ok h, if_neg (fun q => q h), eh]
  cases headW s.ws (atF n slot) with
  | none => rfl
  | some x => rfl

section
variable {B : Nat} {w : World} {sb g gw c n i : Nat} {s : FS}
/-- Sealed -/
theorem ssealed_calls (h : SlAt B w sb g gw c n s) (slot : Int) : Calls Try.prog 130 #[.pointer (some ⟨sb, 0, none⟩), .int .i64 slot] w (Ret fun r w' => r = .bool (sealedF s n slot) ∧ Ext w w') := by
  have hyes := haveF_yes (s := s) (n := n) (slot := slot)
  unfold sealedF
  refine calls_of_vc lok Try.func130 ?_ rfl
  conv => whnf
  refine Calls.ret (shave_calls h slot) ?_
  rintro _ w1 ⟨rfl, x1⟩
  conv => whnf
  generalize haveF s n slot = H at *
  refine vcReg_go lok ?_
  conv => whnf
  refine bcase (fun k => ?_) (fun k => ?_)
  · have hz := check_zero (hyes k)
    conv => whnf
    refine Calls.ret (sword_calls (h.ext x1) slot hz.2 hz.1 35 (by decide) 35 rfl) ?_
    rintro _ w2 ⟨rfl, x2⟩
    conv => whnf
    refine ⟨?_, x1.trans x2⟩
    rw [k, Bool.true_and]
    congr 1
    exact decide_eq_decide.2 num_zero
  · conv => whnf
    exact ⟨by rw [k]; rfl, x1⟩

/-- whole -/
theorem swhole_calls (h : SlAt B w sb g gw c n s) (slot : Int) : Calls Try.prog 150 #[.pointer (some ⟨sb, 0, none⟩), .int .i64 slot] w
    (Ret fun r w' => r = .tuple #[.int .i64 (wholeSF s n slot).1, .int .i64 (wholeSF s n slot).2] ∧ Ext w w') := by
  refine calls_of_vc lok Try.func150 ?_ rfl
  conv => whnf
  refine Calls.ret (scheck_calls h slot) ?_
  rintro _ w1 ⟨rfl, hw1⟩
  conv => whnf
  subst hw1
  refine vcCond_split lok rfl (fun h1 => ?_) (fun h1 => ?_)
  · have h1 := ne_true h1
    have e : wholeSF s n slot = (0, checkF s slot) := by unfold wholeSF; rw [if_pos h1]
    rw [e]
    conv => whnf
    exact ⟨rfl, Ext.refl _⟩
  have h1 := ne_false h1
  rw [whole_head h1]
  conv => whnf
  refine Calls.ret (shead_calls h slot) ?_
  rintro _ w2 ⟨rfl, x2⟩
  conv => whnf
  generalize headR s n slot = H at *
  refine vcCond_split lok rfl (fun h3 => ?_) (fun h3 => ?_)
  · have h3 : H.2.2 = false := by simpa using h3
    rw [if_neg (by rw [h3]; simp)]
    conv => whnf
    exact ⟨rfl, x2⟩
  have h3 : H.2.2 = true := by simpa using h3
  rw [if_pos h3]
  conv => whnf
  refine Calls.ret (shave_calls (h.ext x2) slot) ?_
  rintro _ w3 ⟨rfl, x3⟩
  conv => whnf
  have x13 := x2.trans x3
  generalize haveF s n slot = V at *
  refine vcCond_split lok rfl (fun h4 => ?_) (fun h4 => ?_)
  · have h4 : V.2 = false := by simpa using h4
    rw [if_neg (by rw [h4]; simp)]
    conv => whnf
    exact ⟨rfl, x13⟩
  · have h4 : V.2 = true := by simpa using h4
    rw [if_pos h4]
    conv => whnf
    exact ⟨rfl, x13⟩

theorem one_zero (w : World) : ∃ w', (Instr.buildSlice 37 1 #[(0, .int .u32 0)]).run Try.prog w = .ok (.slice (some ⟨w.heap.size, 0, none⟩) 1 1) w' ∧ Own 42 u32v w.heap.size w' (some ⟨w.heap.size, 0, none⟩) 1 [0#32] ∧ Ext w w' := by
  have g := run_buildN (P := Try.prog) (t := 37) (e := 42) e32.toElem [u32v 0#32] (by simp [u32v, Value.oneCell']) (by simp) w
  exact ⟨_, g, own_lit (w := w) [0#32] (by simp), Ext.new _ _⟩
theorem progAll_one (s : FS) (a : Int) (h0 : 0 ≤ a) (h1 : a < s.ws.length) (x : BitVec 32) : progAllF s a [x] = progF s a x := by
  have hc := progF_code (s := s) (i := a) (x := x) h0 h1
  unfold progAllF
  rcases hc with e | e
  · rw [if_pos e]
    unfold progAllF
    rw [← e]
  · rw [if_neg (by rw [e]; decide), ← e]

/-- Seal -/
theorem sseal_calls (h : SlAt B w sb g gw c n s) (slot : Int) (hop : Num s s.ws.length i) (hi : i ≤ 2305843009213693952) : Calls Try.prog 129 #[.pointer (some ⟨sb, 0, none⟩), .int .i64 slot] w
    (Ret fun r w' => r = .int .i64 (sealSF s n slot).2 ∧ SlAt B w' sb g gw c n (sealSF s n slot).1 ∧ FlMod g gw w w') := by
  have hr := h.room
  have hw : (wholeSF s n slot).2 = 0 → checkF s slot = 0 := by
    intro q
    unfold wholeSF at q
    by_cases hc : checkF s slot = 0
    · exact hc
    · rw [if_pos hc] at q; exact q
  unfold sealSF
  refine calls_of_vc lok Try.func129 ?_ rfl
  conv => whnf
  refine Calls.ret (swhole_calls h slot) ?_
  rintro _ w1 ⟨rfl, x1⟩
  conv => whnf
  refine vcCond_split lok rfl (fun h1 => ?_) (fun h1 => ?_)
  · have h1 := ne_true h1
    rw [if_neg h1]
    conv => whnf
    exact ⟨rfl, h.ext x1, Mod.ofExt _ x1⟩
  have h1 := ne_false h1
  rw [if_pos h1]
  have hz := check_zero (hw h1)
  have hp := atF_le hz.2 hr
  conv => whnf
  have g2 := one_zero w1
  obtain ⟨w2, hr2, ho2, x2⟩ := g2
  refine ⟨_, _, hr2, ?_⟩
  have x12 := x1.trans x2
  have hlt := (h.ext x1).f.lt
  have g3 := slay_calls (xc := 1) (h.ext x12) slot hz.2 35 (xs := [0#32]) (fun w' m' => (m'.keepOwn ho2 (fun k hk e => by
      have := (ho2.ge k hk).1
      rcases e with e | e <;> omega)).sl) (by simp) hop hi
  rw [progAll_one _ _ (by omega) (by omega)] at g3
  conv => whnf
  refine Calls.ret (g3) ?_
  rintro _ w3 ⟨rfl, h3, m3⟩
  conv => whnf
  exact ⟨rfl, h3, (Mod.ofExt _ x12).trans m3⟩

set_option maxHeartbeats 1000000 in
/-- Bytes -/
theorem sbytes_calls (h : SlAt B w sb g gw c n s) (slot : Int) : Calls Try.prog 89 #[.pointer (some ⟨sb, 0, none⟩), .int .i64 slot] w
    (Ret fun r w' => ∃ a c, r = .tuple #[.slice a (bytesSF s n slot).1.length c, .int .i64 (bytesSF s n slot).2] ∧ Own 5 u8v w.heap.size w' a c (bytesSF s n slot).1 ∧ Ext w w') := by
  have hr := h.room
  have hw : (wholeSF s n slot).2 = 0 → checkF s slot = 0 := by
    intro q
    unfold wholeSF at q
    by_cases hc : checkF s slot = 0
    · exact hc
    · rw [if_pos hc] at q; exact q
  have hsz := headR_size s n slot
  have hm : (wholeSF s n slot).1 ≤ 2048 := by
    by_cases hc : checkF s slot = 0
    · rw [whole_head hc]
      split
      · split
        · exact hsz
        · exact Nat.zero_le _
      · exact Nat.zero_le _
    · unfold wholeSF; rw [if_pos hc]; exact Nat.zero_le _
  unfold bytesSF
  refine calls_of_vc lok Try.func89 ?_ rfl
  conv => whnf
  refine Calls.ret (swhole_calls h slot) ?_
  rintro _ w1 ⟨rfl, x1⟩
  conv => whnf
  refine vcCond_split lok rfl (fun h1 => ?_) (fun h1 => ?_)
  · have h1 := ne_true h1
    rw [if_neg h1]
    conv => whnf
    exact ⟨none, 0, rfl, Own.nil _ _ _ _, x1⟩
  have h1 := ne_false h1
  rw [if_pos h1]
  have hz := check_zero (hw h1)
  have hp := atF_le hz.2 hr
  clear hw hsz
  generalize (wholeSF s n slot).1 = m at *
  have gp : ∃ p, p = atF n slot + 256 := ⟨_, rfl⟩
  obtain ⟨p, hp0⟩ := gp
  rw [← hp0]
  conv => whnf
  refine vcLoop_inv lok (σ := Nat × Option Addr × Nat)
    (fun ⟨k, a, c⟩ => [(9, .int .i64 k), (8, .slice a (sliceF s.ws p k).length c), (6, .int .i64 m), (0, .pointer (some ⟨sb, 0, none⟩)), (1, .int .i64 slot)])
    (fun ⟨k, a, c⟩ w' => k ≤ (m + 3) / 4 ∧ Own 42 u32v w.heap.size w' a c (sliceF s.ws p k) ∧ Ext w w') (fun t => 2048 - t.1)
    (0, none, 0) ⟨rfl, rfl, rfl, rfl, rfl, trivial⟩ ⟨Nat.zero_le _, Own.nil _ _ _ _, x1⟩ ?_
  rintro ⟨k, a2, c2⟩ w2 ⟨hk, ho2, x2⟩
  have hkl : (sliceF s.ws p k).length = k := by unfold sliceF; rw [List.length_take, List.length_drop]; omega
  conv => whnf
  refine ⟨by omega, ?_⟩
  conv => whnf
  refine vcCond_split lok rfl (fun h3 => ?_) (fun h3 => ?_)
  · have h3 := dt h3
    conv => whnf
    refine ⟨by omega, ?_⟩
    conv => whnf
    refine Calls.ret (sword_calls (h.ext x2) slot hz.2 hz.1 (256 + k) (by omega) (256 + (k : Int)) (by omega)) ?_
    rintro _ w3 ⟨rfl, x3⟩
    conv => whnf
    rw [← Nat.add_assoc, ← hp0]
    have g4 := run_buildN (P := Try.prog) (t := 37) (e := 42) e32.toElem [u32v (s.ws.getD (p + k) 0#32)] (by simp [u32v, Value.oneCell']) (by simp) w3
    refine ⟨_, _, g4, ?_⟩
    have ho4 := own_lit (w := w3) [s.ws.getD (p + k) 0#32] (by simp)
    have x4 : Ext w3 (w3.alloc (.cells ([s.ws.getD (p + k) 0#32].map u32v).toArray 42)) := Ext.new _ _
    have z2 := x2.size
    have z3 := x3.size
    have z4 := x4.size
    conv => whnf
    have g7 := run_app (ty := 37) (d := 1) ((ho2.ext x3).ext x4) ho4.sl (by simp; omega) (by omega)
    obtain ⟨a7, c7, w7, hr7, ho7, hg7⟩ := g7
    refine ⟨_, _, hr7, ?_⟩
    have x7 : Ext w w7 := hg7.extOf (x2.trans (x3.trans x4)) (fun g hg => (ho2.ge g hg).1)
    have es : sliceF s.ws p k ++ [s.ws.getD (p + k) 0#32] = sliceF s.ws p (k + 1) := by
      unfold sliceF
      have hi : k < (s.ws.drop p).length := by rw [List.length_drop]; omega
      rw [List.take_succ_eq_append_getElem hi, List.getElem_drop]
      simp [List.getD, List.getElem?_eq_getElem (show p + k < s.ws.length by omega)]
    rw [es] at ho7 ⊢
    conv => whnf
    refine ⟨by omega, ?_⟩
    conv => whnf
    exact ⟨(k + 1, a7, c7), ⟨rfl, rfl, rfl, rfl, rfl, trivial⟩, ⟨by omega, ho7, x7⟩, by show 2048 - (k + 1) < 2048 - k; omega⟩
  · have h3 := df h3
    conv => whnf
    have hkm : k = (m + 3) / 4 := by omega
    rw [← hkm]
    refine Calls.ret (bytes_calls ho2.sl (by omega)) ?_
    rintro _ w3 ⟨a3, c3, rfl, ho3, x3⟩
    conv => whnf
    have hbl := bytesF_len (sliceF s.ws p k)
    have hc3 := ho3.le
    refine ⟨⟨by omega, by omega⟩, ?_⟩
    rw [Int.toNat_natCast]
    have hst := ho3.sl.take m
    have htl : ((bytesF (sliceF s.ws p k)).take m).length = m := by rw [List.length_take]; omega
    have z2 := x2.size
    have z3 := x3.size
    generalize (bytesF (sliceF s.ws p k)).take m = bs at *
    rw [show m = bs.length from htl.symm]
    conv => whnf
    have g5 := (Own.nil 5 u8v w.heap.size w3).append (ty := 22) (d := c3) e8.toElem (fun _ => rfl) hst (by simp; omega) (by omega)
    obtain ⟨a5, c5, w5, hr5, ho5, hg5, _⟩ := g5
    rw [List.nil_append] at hr5 ho5
    refine ⟨_, _, hr5, ?_⟩
    exact ⟨a5, c5, rfl, ho5, x2.trans (x3.trans (Gr.ext hg5))⟩
end
end Go.Proofs.Ytgipackjnncabaa

/- Walks of layer 22, fifth part: a chunk written; slots opened; none. -/
set_option linter.unusedVariables false
namespace Go.Proofs.Ytgipackjnncabaa
open Go.Vc Go.RowKit

/-- long -/
theorem slong_calls {w : World} (m k : Nat) (hm : m ≤ 2048) (hk : 64 * k < m) : Calls Try.prog 175 #[.int .i64 m, .int .i64 k] w (Ret fun r w' => r = .int .i64 (lenC m k) ∧ w' = w) := by
  refine calls_of_vc lok Try.func175 ?_ rfl
  conv => whnf
  refine ⟨by omega, ?_⟩
  conv => whnf
  refine ⟨by omega, ?_⟩
  conv => whnf
  refine ⟨?_, rfl⟩
  congr 1
  unfold lenC
  split <;> omega

section
variable {B : Nat} {w : World} {sb g gw c n i : Nat} {s : FS}
set_option maxHeartbeats 4000000 in
/-- Write -/
theorem swrite_calls (h : SlAt B w sb g gw c n s) (slot chunk : Int) {ba : Option Addr} {bc : Nat} {b : List (BitVec 8)} (hb : Sl u8v w ba b) (hbl : b.length ≤ 9223372036854775807) (hop : Num s s.ws.length i) (hi : i ≤ 1152921504606846976) :
    Calls Try.prog 125 #[.pointer (some ⟨sb, 0, none⟩), .int .i64 slot, .int .i64 chunk, .slice ba b.length bc] w
      (Ret fun r w' => r = .int .i64 (writeSF s n slot chunk b).2 ∧ SlAt B w' sb g gw c n (writeSF s n slot chunk b).1 ∧ FlMod g gw w w') := by
  have hr := h.room
  have hsm := h.small
  have hlt := h.f.lt
  refine calls_of_vc lok Try.func125 ?_ rfl
  conv => whnf
  refine Calls.ret (scheck_calls h slot) ?_
  rintro _ w1 ⟨rfl, hw1⟩
  conv => whnf
  subst hw1
  refine vcCond_split lok rfl (fun h1 => ?_) (fun h1 => ?_)
  · have h1 := ne_true h1
    have e : writeSF s n slot chunk b = (s, checkF s slot) := by unfold writeSF; rw [if_pos h1]
    rw [e]
    conv => whnf
    exact ⟨rfl, h, Mod.refl _ _⟩
  have h1 := ne_false h1
  have hz := check_zero h1
  have hp := atF_le hz.2 hr
  have hh := headR_ok (n := n) h1
  have ew : writeSF s n slot chunk b = match headW s.ws (atF n slot) with
      | none => (s, 8)
      | some (_, m) =>
        if ¬ (0 ≤ chunk ∧ chunk < 32 ∧ 64 * chunk < m ∧ b.length = lenC m chunk.toNat) then (s, 1)
        else if sealedF s n slot = true then (s, 25)
        else if s.ws.getD (atF n slot + 3 + chunk.toNat) 0#32 = 0#32 then (s, 0)
        else if (progAllF s ((atF n slot + 256 + 16 * chunk.toNat : Nat) : Int) (wordsF b)).2 = 0 then
          if sliceF (progAllF s ((atF n slot + 256 + 16 * chunk.toNat : Nat) : Int) (wordsF b)).1.ws (atF n slot + 256 + 16 * chunk.toNat) (wordsF b).length = wordsF b then
            progF (progAllF s ((atF n slot + 256 + 16 * chunk.toNat : Nat) : Int) (wordsF b)).1 ((atF n slot + 3 + chunk.toNat : Nat) : Int) 0#32
          else ((progAllF s ((atF n slot + 256 + 16 * chunk.toNat : Nat) : Int) (wordsF b)).1, 4)
        else ((progAllF s ((atF n slot + 256 + 16 * chunk.toNat : Nat) : Int) (wordsF b)).1, 7) := by
    unfold writeSF; rw [if_neg (fun q => q h1)]; rfl
  conv => whnf
  refine Calls.ret (shead_calls h slot) ?_
  rintro _ w2 ⟨rfl, x2⟩
  conv => whnf
  cases hW : headW s.ws (atF n slot) with
  | none =>
    rw [hW] at ew hh
    have e1 := congrArg Prod.fst hh
    have e2 := congrArg (fun x => x.2.1) hh
    have e3 := congrArg (fun x => x.2.2) hh
    dsimp only at ew e1 e2 e3
    rw [e1, e2, e3]
    rw [ew]
    refine vcCond_true lok (rfl) ?_
    conv => whnf
    exact ⟨rfl, h.ext x2, Mod.ofExt _ x2⟩
  | some vm =>
  obtain ⟨v, m⟩ := vm
  have hcan := (headW_size hW).1
  have hm0 : 1 ≤ m ∧ m ≤ 2048 := by have := hcan.2.2; simp only at this; omega
  rw [hW] at ew hh
  have e1 := congrArg Prod.fst hh
  have e2 := congrArg (fun x => x.2.1) hh
  have e3 := congrArg (fun x => x.2.2) hh
  dsimp only at ew e1 e2 e3
  rw [e1, e2, e3]
  clear hh hcan hW e1 e2 e3
  refine vcCond_false lok (rfl) ?_
  conv => whnf
  refine vcReg_meet lok (fun β : Bool => [(34, .bool β)]) (fun β w' => w' = w2 ∧ β = !decide (0 ≤ chunk ∧ chunk < 32 ∧ 64 * chunk < m ∧ b.length = lenC m chunk.toNat)) [34] (fun _ => rfl) rfl ?_ ?_
  · conv => whnf
    refine bcase (fun k1 => ?_) (fun k1 => ?_)
    · have k1 := dt k1
      conv => whnf
      exact ⟨_, ⟨rfl, trivial⟩, rfl, by rw [decide_eq_false (by omega)]; rfl⟩
    have k1 := df k1
    conv => whnf
    refine bcase (fun k2 => ?_) (fun k2 => ?_)
    · have k2 := dt k2
      conv => whnf
      exact ⟨_, ⟨rfl, trivial⟩, rfl, by rw [decide_eq_false (by omega)]; rfl⟩
    have k2 := df k2
    conv => whnf
    refine ⟨by omega, ?_⟩
    conv => whnf
    refine bcase (fun k3 => ?_) (fun k3 => ?_)
    · have k3 := dt k3
      conv => whnf
      exact ⟨_, ⟨rfl, trivial⟩, rfl, by rw [decide_eq_false (by omega)]; rfl⟩
    have k3 := df k3
    conv => whnf
    obtain ⟨k, rfl⟩ := Int.eq_ofNat_of_zero_le (show 0 ≤ chunk by omega)
    refine Calls.ret (slong_calls m k hm0.2 (by omega)) ?_
    rintro _ w3 ⟨rfl, rfl⟩
    conv => whnf
    refine ⟨_, ⟨rfl, trivial⟩, rfl, ?_⟩
    congr 1
    rw [decide_eq_decide]
    exact ⟨fun e => ⟨by omega, by omega, by omega, by rw [Int.toNat_natCast]; omega⟩, fun q => by have := q.2.2.2; rw [Int.toNat_natCast] at this; omega⟩
  rintro β w3 ⟨hw3, hβ⟩
  subst hw3
  conv => whnf
  refine vcCond_split lok rfl (fun h2 => ?_) (fun h2 => ?_)
  · rw [hβ] at h2
    have h2 : ¬ (0 ≤ chunk ∧ chunk < 32 ∧ 64 * chunk < m ∧ b.length = lenC m chunk.toNat) := fun q => by rw [decide_eq_true q] at h2; cases h2
    rw [if_pos h2] at ew
    rw [ew]
    conv => whnf
    exact ⟨rfl, h.ext x2, Mod.ofExt _ x2⟩
  rw [hβ] at h2
  have h2 : 0 ≤ chunk ∧ chunk < 32 ∧ 64 * chunk < m ∧ b.length = lenC m chunk.toNat := by
    by_cases q : 0 ≤ chunk ∧ chunk < 32 ∧ 64 * chunk < m ∧ b.length = lenC m chunk.toNat
    · exact q
    · rw [decide_eq_false q] at h2; cases h2
  clear hβ
  rw [if_neg (fun q => q h2)] at ew
  obtain ⟨k, rfl⟩ := Int.eq_ofNat_of_zero_le h2.1
  rw [Int.toNat_natCast] at ew h2
  obtain ⟨_, hk32, hkm, hblen⟩ := h2
  have hk32 : k < 32 := by omega
  have hlc := lenC_le m k
  have hwl : (wordsF b).length ≤ 16 := by rw [wordsF_len]; omega
  conv => whnf
  refine Calls.ret (ssealed_calls (h.ext x2) slot) ?_
  rintro _ w4 ⟨rfl, x4⟩
  conv => whnf
  have x14 := x2.trans x4
  refine vcCond_split lok rfl (fun h3 => ?_) (fun h3 => ?_)
  · rw [if_pos h3] at ew
    rw [ew]
    conv => whnf
    exact ⟨rfl, h.ext x14, Mod.ofExt _ x14⟩
  rw [h3, if_neg Bool.false_ne_true] at ew
  conv => whnf
  refine ⟨by omega, ?_⟩
  conv => whnf
  refine Calls.ret (sword_calls (h.ext x14) slot hz.2 hz.1 (3 + k) (by omega) (3 + (k : Int)) (by omega)) ?_
  rintro _ w5 ⟨rfl, x5⟩
  conv => whnf
  rw [← Nat.add_assoc]
  have x15 := x14.trans x5
  refine vcCond_split lok rfl (fun h4 => ?_) (fun h4 => ?_)
  · have h4 := num_zero.1 (dt h4)
    rw [if_pos h4] at ew
    rw [ew]
    conv => whnf
    exact ⟨rfl, h.ext x15, Mod.ofExt _ x15⟩
  have h4 := fun e => df h4 (num_zero.2 e)
  rw [if_neg h4] at ew
  conv => whnf
  refine Calls.ret (words_calls (hb.ext x15) (by omega)) ?_
  rintro _ w6 ⟨a6, c6, rfl, ho6, x6⟩
  conv => whnf
  have x16 := x15.trans x6
  have z15 := x15.size
  refine ⟨by omega, ?_⟩
  conv => whnf
  refine ⟨by omega, ?_⟩
  conv => whnf
  rw [show (256 : Int) + (k : Int) * 16 = ((256 + 16 * k : Nat) : Int) by omega]
  have gS : ∀ {w'}, FlMod g gw w6 w' → Own 42 u32v w5.heap.size w' a6 c6 (wordsF b) := fun m' => m'.keepOwn ho6 (fun q hq e => by
      have := (ho6.ge q hq).1
      rcases e with e | e <;> omega)
  have g7 := slay_calls (xc := c6) (h.ext x16) slot hz.2 (256 + 16 * k) (xs := wordsF b) (fun w' m' => (gS m').sl) (by omega) hop (by omega)
  rw [← Nat.add_assoc] at g7
  have hpa := progAll_cases (wordsF b) s (atF n slot + 256 + 16 * k) hz.1 (by omega)
  have nums := Num.all (wordsF b) s i ((atF n slot + 256 + 16 * k : Nat) : Int) hop
  have gA : ∃ A, A = progAllF s ((atF n slot + 256 + 16 * k : Nat) : Int) (wordsF b) := ⟨_, rfl⟩
  obtain ⟨A, hA⟩ := gA
  rw [← hA] at g7 hpa nums ew
  clear hA
  conv => whnf
  refine Calls.ret (g7) ?_
  rintro _ w7 ⟨rfl, h7, m7⟩
  conv => whnf
  have m17 := (Mod.ofExt (fun k => k = g ∨ k = gw) x16).trans m7
  have ho7 := gS m7
  refine vcCond_split lok rfl (fun h5 => ?_) (fun h5 => ?_)
  · have h5 := ne_true h5
    rw [if_neg h5] at ew
    rw [ew]
    conv => whnf
    refine ⟨?_, h7, m17⟩
    rcases hpa with ⟨t, e, _⟩ | ⟨t, j, e, _⟩
    · rw [e] at h5; exact absurd rfl h5
    · rw [e]
  have h5 := ne_false h5
  rw [if_pos h5] at ew
  have hoff : A.1.off = false := by
    rcases hpa with ⟨t, e, _, e3, _⟩ | ⟨t, j, e, _⟩
    · rw [e]; exact e3
    · rw [e] at h5; cases h5
  clear hpa g7
  have gat : ∃ a, a = atF n slot + 256 + 16 * k := ⟨_, rfl⟩
  obtain ⟨a, ha⟩ := gat
  rw [← ha] at ew
  have hlen7 := nums.len
  have hloc : ∀ j, j < (wordsF b).length → (sliceF A.1.ws a (wordsF b).length).getD j 0#32 = A.1.ws.getD (a + j) 0#32 := fun j hj => by
    unfold sliceF; rw [take_get0 _ _ _ hj, drop_get0]
  have hsll : (sliceF A.1.ws a (wordsF b).length).length = (wordsF b).length := by unfold sliceF; rw [List.length_take, List.length_drop]; omega
  conv => whnf
  refine vcLoop_inv lok (σ := Nat)
    (fun j => [(81, .int .i64 j), (79, .slice a6 (wordsF b).length c6), (80, .int .i64 (wordsF b).length), (14, .int .i64 (256 + 16 * k : Nat)), (0, .pointer (some ⟨sb, 0, none⟩)), (1, .int .i64 slot), (2, .int .i64 k)])
    (fun j w' => j ≤ (wordsF b).length ∧ Ext w7 w' ∧ ∀ l, l < j → A.1.ws.getD (a + l) 0#32 = (wordsF b).getD l 0#32) (fun j => (wordsF b).length - j)
    0 ⟨rfl, rfl, rfl, rfl, rfl, rfl, rfl, trivial⟩ ⟨Nat.zero_le _, Ext.refl _, fun l hl => absurd hl (Nat.not_lt_zero _)⟩ ?_
  rintro j w8 ⟨hj, x8, hall⟩
  conv => whnf
  refine vcCond_split lok rfl (fun h6 => ?_) (fun h6 => ?_)
  · have h6 := dt h6
    conv => whnf
    have hjl : j < (wordsF b).length := by omega
    have g45 := sl_get ((ho7.ext x8).sl) ((j : Int)) (j) (by omega) (by omega)
    obtain ⟨p45, o45, ha45, hb45, hcell45⟩ := g45
    refine ⟨p45, o45, ha45, hb45, ?_⟩
    conv => whnf
    refine ⟨_, hcell45, ?_⟩
    conv => whnf
    refine ⟨by omega, ?_⟩
    conv => whnf
    refine Calls.ret (sword_calls (h7.ext x8) slot hz.2 hoff (256 + 16 * k + j) (by omega) (((256 + 16 * k : Nat) : Int) + (j : Int)) (by omega)) ?_
    rintro _ w9 ⟨rfl, x9⟩
    conv => whnf
    rw [show atF n slot + (256 + 16 * k + j) = a + j by omega]
    refine vcCond_split lok rfl (fun h8 => ?_) (fun h8 => ?_)
    · have h8 := ne_true h8
      have hne : ¬ sliceF A.1.ws a (wordsF b).length = wordsF b := by
        intro e
        have := hloc j hjl
        rw [e] at this
        exact h8 (by rw [this])
      rw [if_neg hne] at ew
      rw [ew]
      conv => whnf
      exact ⟨rfl, h7.ext (x8.trans x9), m17.trans (Mod.ofExt _ (x8.trans x9))⟩
    · have h8 := int_eq.1 (ne_false h8)
      conv => whnf
      refine ⟨by omega, ?_⟩
      conv => whnf
      refine ⟨j + 1, ⟨rfl, rfl, rfl, rfl, rfl, rfl, rfl, trivial⟩, ⟨by omega, x8.trans x9, fun l hl => ?_⟩, by omega⟩
      by_cases e : l = j
      · subst e; exact h8
      · exact hall l (by omega)
  · have h6 := df h6
    conv => whnf
    have heq : sliceF A.1.ws a (wordsF b).length = wordsF b := by
      apply ext0 hsll
      intro l hl
      rw [hsll] at hl
      rw [hloc l hl]
      exact hall l (by omega)
    rw [if_pos heq] at ew
    refine ⟨by omega, ?_⟩
    conv => whnf
    have g9 := one_zero w8
    obtain ⟨w9, hr9, ho9, x9⟩ := g9
    refine ⟨_, _, hr9, ?_⟩
    have x79 := x8.trans x9
    have hlt8 := (h7.ext x8).f.lt
    have hl7 := h7.small
    rw [show (3 : Int) + (k : Int) = ((3 + k : Nat) : Int) by omega]
    have g10 := slay_calls (xc := 1) (h7.ext x79) slot hz.2 (3 + k) (xs := [0#32]) (fun w' m' => (m'.keepOwn ho9 (fun q hq e => by
        have := (ho9.ge q hq).1
        rcases e with e | e <;> omega)).sl) (by simp; omega) (by rw [hlen7]; exact nums) (by omega)
    rw [progAll_one _ _ (by omega) (by omega), ← Nat.add_assoc] at g10
    rw [ew]
    conv => whnf
    refine Calls.ret (g10) ?_
    rintro _ w11 ⟨rfl, h11, m11⟩
    conv => whnf
    exact ⟨rfl, h11, m17.trans ((Mod.ofExt _ x79).trans m11)⟩

/-- Open -/
theorem sopen_calls (f : FlAt 181 B w g gw c s) (hl : s.ws.length ≤ 65536) (n : Int) :
    Calls Try.prog 72 #[.pointer (some ⟨g, 0, none⟩), .int .i64 n] w (Ret fun r w' => (¬ (0 ≤ n ∧ 256 * (n + 6) ≤ s.ws.length) ∧ r = .tuple #[.pointer none, .int .i64 10] ∧ w' = w) ∨
      (∃ m : Nat, n = m ∧ 256 * (m + 6) ≤ s.ws.length ∧ ∃ sb, r = .tuple #[.pointer (some ⟨sb, 0, none⟩), .int .i64 0] ∧ w.heap.size ≤ sb ∧ SlAt B w' sb g gw c m s ∧ Ext w w')) := by
  refine calls_of_vc lok Try.func72 ?_ rfl
  conv => whnf
  refine vcCond_false lok (rfl) ?_
  conv => whnf
  refine vcReg_meet lok (fun β : Bool => [(9, .bool β)]) (fun β w' => w' = w ∧ β = !decide (0 ≤ n ∧ 256 * (n + 6) ≤ s.ws.length)) [9] (fun _ => rfl) rfl ?_ ?_
  · conv => whnf
    refine bcase (fun k1 => ?_) (fun k1 => ?_)
    · have k1 := dt k1
      conv => whnf
      exact ⟨_, ⟨rfl, trivial⟩, rfl, by rw [decide_eq_false (by omega)]; rfl⟩
    have k1 := df k1
    conv => whnf
    refine Calls.ret (len_calls f) ?_
    rintro _ w2 ⟨rfl, rfl⟩
    conv => whnf
    refine ⟨by decide, ?_⟩
    intro z hz
    have hz62 : z = ((s.ws.length / 256 : Nat) : Int) := by rw [hz]; exact quo256 _ (by omega)
    clear hz
    subst hz62
    conv => whnf
    refine ⟨by omega, ?_⟩
    conv => whnf
    refine ⟨_, ⟨rfl, trivial⟩, rfl, ?_⟩
    by_cases k2 : 256 * (n + 6) ≤ s.ws.length
    · rw [decide_eq_false (by omega), decide_eq_true ⟨by omega, k2⟩]; rfl
    · rw [decide_eq_true (by omega), decide_eq_false (fun q => k2 q.2)]; rfl
  rintro β w2 ⟨hw2, hβ⟩
  subst hw2
  conv => whnf
  refine vcCond_split lok rfl (fun h2 => ?_) (fun h2 => ?_)
  · subst h2
    conv => whnf
    exact .inl ⟨(fun q => by rw [decide_eq_true q] at hβ; cases hβ), rfl, rfl⟩
  subst h2
  have hn : 0 ≤ n ∧ 256 * (n + 6) ≤ s.ws.length := by
    by_cases q : 0 ≤ n ∧ 256 * (n + 6) ≤ s.ws.length
    · exact q
    · rw [decide_eq_false q] at hβ; cases hβ
  clear hβ
  obtain ⟨m, rfl⟩ := Int.eq_ofNat_of_zero_le hn.1
  have hlt := f.lt
  conv => whnf
  refine ⟨_, fun w => run_build w 162 _ _ (show Try.prog.built 162 [(0, .pointer (some ⟨g, 0, none⟩)), (1, .int .i64 m)] = some #[.pointer (some ⟨g, 0, none⟩), .int .i64 m] by kernel_rfl), ?_⟩
  conv => whnf
  intro w3 hw3
  have hb3 : Blk w3 w2.heap.size 162 (sC g m) := by rw [hw3]; exact Blk.new w2 162 _
  have x3 : Ext w2 w3 := by rw [hw3]; exact Ext.new _ _
  clear hw3
  exact .inr ⟨m, rfl, by omega, _, rfl, Nat.le_refl _, ⟨f.ext x3, hb3, by omega, by omega, by omega, hl⟩, x3⟩
end
end Go.Proofs.Ytgipackjnncabaa

/- Layer 22: numbers that are kept; a fixed image. -/
set_option linter.unusedVariables false
namespace Go.Proofs.Ytgipackjnncabaa
open Go.Vc Go.RowKit

section
variable {n i : Nat} {s : FS}
theorem Num.eraseAll : ∀ (k : Nat) (s : FS) (i m : Nat), Num s n i → Num (eraseAllF s m k).1 n (i + k)
  | 0, s, i, m, h => h
  | k + 1, s, i, m, h => by
    have g := h.erase (m : Int)
    unfold eraseAllF
    split
    · exact (Num.eraseAll k _ (i + 1) (m + 1) g).up (by omega)
    · exact g.up (by omega)
theorem drop_num {at_ : Nat} {slot : Int} (h : Num s n i) : Num (dropSF s at_ slot).1 n (i + 17) := by
  unfold dropSF
  split
  · exact h.up (by omega)
  · exact (h.erase _).up (by omega)
theorem begin_num {at_ : Nat} {slot : Int} {v : BitVec 32} {m : Int} (h : Num s n i) : Num (beginSF s at_ slot v m).1 n (i + 17) := by
  unfold beginSF
  split
  · exact h.up (by omega)
  · split
    · exact h.up (by omega)
    · have g := Num.eraseAll 3 s i (at_ + 3 * slot.toNat) h
      split
      · exact (Num.all _ _ _ _ g).up (by show i + 3 + 3 ≤ _; omega)
      · exact g.up (by omega)
theorem write_num {at_ : Nat} {slot chunk : Int} {b : List (BitVec 8)} (h : Num s n i) : Num (writeSF s at_ slot chunk b).1 n (i + 17) := by
  unfold writeSF
  split
  · exact h.up (by omega)
  · split
    · exact h.up (by omega)
    · split
      · exact h.up (by omega)
      · rename_i h1
        have h1 := Decidable.not_not.1 h1
        have hb : (wordsF b).length ≤ 16 := by rw [wordsF_len, h1.2.2.2]; have := lenC_le; rename_i m _ _; have := lenC_le m chunk.toNat; omega
        have g := Num.all (wordsF b) s i ((atF at_ slot + 256 + 16 * chunk.toNat : Nat) : Int) h
        split
        · exact h.up (by omega)
        · split
          · exact h.up (by omega)
          · split
            · split
              · exact (g.prog _ _).up (by omega)
              · exact g.up (by omega)
            · exact g.up (by omega)
theorem seal_num {at_ : Nat} {slot : Int} (h : Num s n i) : Num (sealSF s at_ slot).1 n (i + 17) := by
  unfold sealSF
  split
  · exact (h.prog _ _).up (by omega)
  · exact h.up (by omega)
end

/-- the image of the fixed calls -/
def k22A : List (BitVec 8) := List.replicate 64 0#8 ++ [97#8, 98#8, 99#8, 100#8, 101#8, 102#8]
theorem k22_plain {s : FS} (hs : s.off = false) (hl : s.left < 0) (hn : s.ws.length = 1536) :
    ∃ t u, beginSF s 0 0 7#32 70 = (t, 0) ∧ writeSF t 0 0 1 [97#8, 98#8, 99#8, 100#8, 101#8, 102#8] = (u, 0) ∧ haveF u 0 0 = (2#32, false) ∧ bytesSF u 0 0 = ([], 2) ∧ (writeSF u 0 0 2 []).2 = 1 := by
  have hb : ¬ badF 0 := by decide
  have hat : atF 0 0 = 0 := rfl
  have g := begin_cases (n := 0) (slot := 0) (v := 7#32) (m := 70) hs hb (by decide) (by rw [hat, hn]; decide)
  rcases g with ⟨t, g1, g2, g3, g4⟩ | ⟨t, _, _, g3, _⟩
  rotate_left
  · omega
  have hout := begin_out (s := s) (n := 0) (slot := 0) 7#32 70
  rw [g1] at hout
  have hlt : t.ws.length = 1536 := hout.1.trans hn
  have hA : k22A.length = 70 := by decide +kernel
  have g2 : Fresh t.ws (atF 0 0) 7#32 k22A.length := by rw [hA]; exact g2
  have himg := g2.img (all := k22A) (by rw [hat, hlt]; decide)
  have hck : chunkF k22A 1 = [97#8, 98#8, 99#8, 100#8, 101#8, 102#8] := by decide +kernel
  have k := write_img g3 hb himg 1 (by rw [hA]; decide)
  rw [hck] at k
  rcases k with ⟨u, k1, k2, k3, k4, k5, k6, k7⟩ | ⟨u, _, _, k3, _⟩
  rotate_left
  · have := g4 hl; omega
  have hm0 : u.ws.getD (atF 0 0 + 3 + 0) 0#32 = ones := by
    rw [k7 0 (by decide) (by decide)]
    have := g2.rest 3 (by decide) (by decide)
    exact this
  have hall : allB u.ws (atF 0 0) k22A.length 32 = false := by
    cases e : allB u.ws (atF 0 0) k22A.length 32 with
    | false => rfl
    | true =>
      have := allB_iff.1 e 0 (by decide) (by rw [hA]; decide)
      rw [hm0] at this
      exact absurd this (by decide)
  have hhv : haveB u.ws (atF 0 0) k22A.length 32 = 2#32 := by
    have e := haveB_more (ws := u.ws) (p := atF 0 0) (m := k22A.length) (K := 2) (by rw [hA]; decide) 30
    rw [e]
    unfold haveB haveB haveB
    have b0 : bitB u.ws (atF 0 0) k22A.length 0 = false := by
      unfold bitB
      apply decide_eq_false
      rintro ⟨_, q⟩
      rw [hm0] at q
      exact absurd q (by decide)
    have b1 : bitB u.ws (atF 0 0) k22A.length 1 = true := by
      unfold bitB
      exact decide_eq_true ⟨by rw [hA]; decide, k6⟩
    rw [b0, b1]
    decide
  refine ⟨t, u, g1, k1, ?_, ?_, ?_⟩
  · rw [img_have k2 hb k5, hhv, hall]
  · rw [img_whole k2 hb k5, hall, if_neg (by simp)]
  · unfold writeSF
    rw [check_ok k2 hb, if_neg (by simp), k5.head]
    dsimp only
    rw [if_pos]
    rw [hA]
    rintro ⟨_, _, q, _⟩
    exact absurd q (by decide)
end Go.Proofs.Ytgipackjnncabaa

/- Layer 22: the fixed calls; the law SlotsNil, walked. -/
set_option linter.unusedVariables false
namespace Go.Proofs.Ytgipackjnncabaa
open Go.Vc Go.RowKit

theorem fit_cap {w : World} {m : Nat} {s : Sh} {a : Option Addr} {len cap : Nat} (h : Fit w (.slice m s) [.slice a len cap]) : len ≤ 9223372036854775807 := by
  obtain ⟨a', l', c', h1, h2, h3, _⟩ := h
  simp only [List.cons.injEq, Value.slice.injEq, and_true] at h1
  obtain ⟨_, rfl, rfl⟩ := h1
  exact Nat.le_trans h2 (Nat.le_trans h3 (by decide))
/-! ### slots that are not there -/
section
variable {w : World} {P : Option Addr}
/-- there are none -/
def NoSl (P : Option Addr) (w : World) : Prop := ∀ slot, Calls Try.prog 171 #[.pointer P, .int .i64 slot] w (Ret fun v w' => v = .int .i64 26 ∧ w' = w)
theorem noSl_nil (w : World) : NoSl none w := by
  intro slot
  refine calls_of_vc lok Try.func171 ?_ rfl
  conv => whnf
  refine vcReg_go lok ?_
  conv => whnf
  refine vcCond_true lok (rfl) ?_
  conv => whnf
  exact ⟨rfl, rfl⟩
theorem noSl_zero {sb : Nat} {cs : List Value} (hb : Blk w sb 162 cs) (h0 : cs[0]? = some (.pointer none)) : NoSl (some ⟨sb, 0, none⟩) w := by
  intro slot
  refine calls_of_vc lok Try.func171 ?_ rfl
  conv => whnf
  refine vcReg_go lok ?_
  conv => whnf
  refine ⟨_, hb.cell (i := 0) h0, ?_⟩
  conv => whnf
  refine vcCond_true lok (rfl) ?_
  conv => whnf
  exact ⟨rfl, rfl⟩
theorem nhead_calls (h : NoSl P w) (slot : Int) : Calls Try.prog 128 #[.pointer P, .int .i64 slot] w (Ret fun v w' => v = .tuple #[.int .u32 0, .int .i64 0, .bool false] ∧ w' = w) := by
  refine calls_of_vc lok Try.func128 ?_ rfl
  conv => whnf
  refine vcReg_go lok ?_
  conv => whnf
  refine Calls.ret (h slot) ?_
  rintro _ w1 ⟨rfl, rfl⟩
  conv => whnf
  refine vcCond_true lok (rfl) ?_
  conv => whnf
  exact ⟨rfl, rfl⟩
theorem nhave_calls (h : NoSl P w) (slot : Int) : Calls Try.prog 127 #[.pointer P, .int .i64 slot] w (Ret fun v w' => v = .tuple #[.int .u32 0, .bool false] ∧ w' = w) := by
  refine calls_of_vc lok Try.func127 ?_ rfl
  conv => whnf
  refine Calls.ret (nhead_calls h slot) ?_
  rintro _ w1 ⟨rfl, rfl⟩
  conv => whnf
  refine vcCond_true lok (rfl) ?_
  conv => whnf
  exact ⟨rfl, rfl⟩
theorem nsealed_calls (h : NoSl P w) (slot : Int) : Calls Try.prog 130 #[.pointer P, .int .i64 slot] w (Ret fun v w' => v = .bool false ∧ w' = w) := by
  refine calls_of_vc lok Try.func130 ?_ rfl
  conv => whnf
  refine Calls.ret (nhave_calls h slot) ?_
  rintro _ w1 ⟨rfl, rfl⟩
  conv => whnf
  refine vcReg_go lok ?_
  conv => whnf
  exact ⟨rfl, rfl⟩
theorem nwhole_calls (h : NoSl P w) (slot : Int) : Calls Try.prog 150 #[.pointer P, .int .i64 slot] w (Ret fun v w' => v = .tuple #[.int .i64 0, .int .i64 26] ∧ w' = w) := by
  refine calls_of_vc lok Try.func150 ?_ rfl
  conv => whnf
  refine Calls.ret (h slot) ?_
  rintro _ w1 ⟨rfl, rfl⟩
  conv => whnf
  refine vcCond_true lok (rfl) ?_
  conv => whnf
  exact ⟨rfl, rfl⟩
theorem nbytes_calls (h : NoSl P w) (slot : Int) : Calls Try.prog 89 #[.pointer P, .int .i64 slot] w (Ret fun v w' => v = .tuple #[.slice none 0 0, .int .i64 26] ∧ w' = w) := by
  refine calls_of_vc lok Try.func89 ?_ rfl
  conv => whnf
  refine Calls.ret (nwhole_calls h slot) ?_
  rintro _ w1 ⟨rfl, rfl⟩
  conv => whnf
  refine vcCond_true lok (rfl) ?_
  conv => whnf
  exact ⟨rfl, rfl⟩
theorem nseal_calls (h : NoSl P w) (slot : Int) : Calls Try.prog 129 #[.pointer P, .int .i64 slot] w (Ret fun v w' => v = .int .i64 26 ∧ w' = w) := by
  refine calls_of_vc lok Try.func129 ?_ rfl
  conv => whnf
  refine Calls.ret (nwhole_calls h slot) ?_
  rintro _ w1 ⟨rfl, rfl⟩
  conv => whnf
  refine vcCond_true lok (rfl) ?_
  conv => whnf
  exact ⟨rfl, rfl⟩
theorem ndrop_calls (h : NoSl P w) (slot : Int) : Calls Try.prog 132 #[.pointer P, .int .i64 slot] w (Ret fun v w' => v = .int .i64 26 ∧ w' = w) := by
  refine calls_of_vc lok Try.func132 ?_ rfl
  conv => whnf
  refine Calls.ret (h slot) ?_
  rintro _ w1 ⟨rfl, rfl⟩
  conv => whnf
  refine vcCond_true lok (rfl) ?_
  conv => whnf
  exact ⟨rfl, rfl⟩
theorem nbegin_calls (h : NoSl P w) (slot : Int) (v n : Int) : Calls Try.prog 124 #[.pointer P, .int .i64 slot, .int .u32 v, .int .i64 n] w (Ret fun v w' => v = .int .i64 26 ∧ w' = w) := by
  refine calls_of_vc lok Try.func124 ?_ rfl
  conv => whnf
  refine Calls.ret (h slot) ?_
  rintro _ w1 ⟨rfl, rfl⟩
  conv => whnf
  refine vcCond_true lok (rfl) ?_
  conv => whnf
  exact ⟨rfl, rfl⟩
theorem nwrite_calls (h : NoSl P w) (slot n : Int) {a : Option Addr} {k c : Nat} : Calls Try.prog 125 #[.pointer P, .int .i64 slot, .int .i64 n, .slice a k c] w (Ret fun v w' => v = .int .i64 26 ∧ w' = w) := by
  refine calls_of_vc lok Try.func125 ?_ rfl
  conv => whnf
  refine Calls.ret (h slot) ?_
  rintro _ w1 ⟨rfl, rfl⟩
  conv => whnf
  refine vcCond_true lok (rfl) ?_
  conv => whnf
  exact ⟨rfl, rfl⟩
theorem nsopen_calls (n : Int) : Calls Try.prog 72 #[.pointer none, .int .i64 n] w (Ret fun v w' => v = .tuple #[.pointer none, .int .i64 26] ∧ w' = w) := by
  refine calls_of_vc lok Try.func72 ?_ rfl
  conv => whnf
  refine vcCond_true lok (rfl) ?_
  conv => whnf
  exact ⟨rfl, rfl⟩
end

/-! ### the fixed calls -/
def k22S : FS := newFS (List.replicate (256 * (6 : Int).toNat) ones)

set_option maxHeartbeats 4000000 in
theorem known22 {w : World} : Calls Try.prog 131 #[] w (Ret fun v w' => v = .bool true ∧ Ext w w') := by
  have l0 : k22S.ws.length = 1536 := List.length_replicate
  have n0 : Num k22S 1536 0 := ⟨l0, ⟨Int.le_refl _, Int.le_refl _⟩, by show (-1 : Int) ≤ _; decide⟩
  have hpl := k22_plain (s := k22S) rfl (by show (-1 : Int) < 0; decide) l0
  refine calls_of_vc (args := []) lok Try.func131 ?_ rfl
  conv => whnf
  refine Calls.ret (new_calls 6) ?_
  rintro _ w1 hp
  conv => whnf
  rcases hp with ⟨hno, _, _⟩ | ⟨_, g, gw, c, rfl, h1, x1⟩
  · exact absurd hno (by decide)
  replace h1 : FlAt 181 w.heap.size w1 g gw c k22S := h1
  generalize k22S = s0 at *
  obtain ⟨s1, s2, e1, e2, e3, e4, e5⟩ := hpl
  have n1 := begin_num (at_ := 0) (slot := 0) (v := 7#32) (m := 70) n0
  rw [e1] at n1
  have n1 : Num s1 1536 17 := n1
  have n2 := write_num (at_ := 0) (slot := 0) (chunk := 1) (b := [97#8, 98#8, 99#8, 100#8, 101#8, 102#8]) n1
  rw [e2] at n2
  have n2 : Num s2 1536 34 := n2
  have l1 := n1.len
  have l2 := n2.len
  conv => whnf
  refine Calls.ret (sopen_calls h1 (by omega) 0) ?_
  rintro _ w2 hp
  conv => whnf
  rcases hp with ⟨hno, _, _⟩ | ⟨m, hm, _, sb, rfl, hsb, S2, x2⟩
  · exact absurd ⟨by decide, by rw [l0]; decide⟩ hno
  have hm0 : m = 0 := by omega
  subst hm0
  clear hm
  have h1lo := h1.lo
  have h1lt := h1.lt
  have z1 := x1.size
  conv => whnf
  refine vcReg_go lok ?_
  conv => whnf
  refine vcCond_false lok (rfl) ?_
  conv => whnf
  have g3 := sbegin_calls S2 0 7#32 70 (by rw [l0]; exact n0) (by decide)
  rw [e1] at g3
  refine Calls.ret (g3) ?_
  rintro _ w3 ⟨rfl, S3, m3⟩
  conv => whnf
  replace S3 : SlAt w.heap.size w3 sb g gw c 0 s1 := S3
  have x3 := FlMod.above m3 (x1.trans x2) h1lo h1lt.2.2
  have g4 := run_buildN (P := Try.prog) (t := 22) (e := 5) e8.toElem [u8v 97#8, u8v 98#8, u8v 99#8, u8v 100#8, u8v 101#8, u8v 102#8] (by simp [u8v, Value.oneCell']) (by simp) w3
  refine ⟨_, _, g4, ?_⟩
  conv => whnf
  have g5 := run_convLit und22 und5 [97#8, 98#8, 99#8, 100#8, 101#8, 102#8] w3 6 6
  obtain ⟨w5, hr5, hs5, x5⟩ := g5
  refine ⟨_, _, hr5, ?_⟩
  conv => whnf
  have g6 := swrite_calls (bc := 6) (S3.ext x5) 0 1 hs5 (by decide) (by rw [l1]; exact n1) (by decide)
  rw [e2] at g6
  refine Calls.ret (g6) ?_
  rintro _ w6 ⟨rfl, S6, m6⟩
  conv => whnf
  replace S6 : SlAt w.heap.size w6 sb g gw c 0 s2 := S6
  have x6 := FlMod.above m6 (x3.trans x5) h1lo h1lt.2.2
  have g7 := shave_calls S6 0
  rw [e3] at g7
  refine Calls.ret (g7) ?_
  rintro _ w7 ⟨rfl, x7⟩
  conv => whnf
  have g8 := sbytes_calls (S6.ext x7) 0
  rw [e4] at g8
  refine Calls.ret (g8) ?_
  rintro _ w8 ⟨a8, c8, rfl, _, x8⟩
  conv => whnf
  have x78 := x7.trans x8
  have g9 := swrite_calls (bc := 0) (ba := none) (b := []) (S6.ext x78) 0 2 (Sl.nil _ _ _) (by decide) (by rw [l2]; exact n2) (by decide)
  rw [e5] at g9
  refine vcReg_go lok ?_
  conv => whnf
  refine Calls.ret (g9) ?_
  rintro _ w9 ⟨rfl, S9, m9⟩
  conv => whnf
  exact ⟨rfl, FlMod.above m9 (x6.trans x78) h1lo h1lt.2.2⟩

set_option maxHeartbeats 4000000 in
theorem slotsNil_walk {w : World} (slot n : Int) {a : Option Addr} {k c : Nat} : Calls Try.prog 34 #[.int .i64 slot, .int .i64 n, .slice a k c] w (Law w) := by
  refine calls_of_vc lok Try.func34 ?_ rfl
  conv => whnf
  refine vcCond_split lok rfl (fun h1 => ?_) (fun h1 => ?_)
  · conv => whnf
    refine Calls.ret (known22) ?_
    rintro _ w1 ⟨rfl, x1⟩
    conv => whnf
    exact ⟨rfl, x1⟩
  clear h1
  conv => whnf
  refine Calls.ret (nsopen_calls n) ?_
  rintro _ w1 ⟨rfl, rfl⟩
  conv => whnf
  have hn := noSl_nil w1
  refine Calls.ret (nhead_calls hn slot) ?_
  rintro _ w2 ⟨rfl, hw2⟩
  conv => whnf
  subst hw2
  refine Calls.ret (nhave_calls hn slot) ?_
  rintro _ w3 ⟨rfl, hw3⟩
  conv => whnf
  subst hw3
  refine Calls.ret (nbytes_calls hn slot) ?_
  rintro _ w4 ⟨rfl, hw4⟩
  conv => whnf
  subst hw4
  refine ⟨_, fun w => run_build w 162 _ _ (show Try.prog.built 162 [] = some #[.pointer none, .int .i64 0] by kernel_rfl), ?_⟩
  conv => whnf
  intro w5 hw5
  have hb : Blk w5 w4.heap.size 162 [.pointer none, .int .i64 0] := by rw [hw5]; exact Blk.new w4 162 _
  have x5 : Ext w4 w5 := by rw [hw5]; exact Ext.new _ _
  clear hw5
  have hz := noSl_zero hb rfl
  have hn := noSl_nil w5
  conv => whnf
  refine vcReg_go lok ?_
  conv => whnf
  refine Calls.ret (nbegin_calls hn slot 1 n) ?_
  rintro _ w6 ⟨rfl, hw6⟩
  conv => whnf
  subst hw6
  refine Calls.ret (nwrite_calls hn slot n) ?_
  rintro _ w7 ⟨rfl, hw7⟩
  conv => whnf
  subst hw7
  refine Calls.ret (nseal_calls hn slot) ?_
  rintro _ w8 ⟨rfl, hw8⟩
  conv => whnf
  subst hw8
  refine Calls.ret (ndrop_calls hn slot) ?_
  rintro _ w9 ⟨rfl, hw9⟩
  conv => whnf
  subst hw9
  refine Calls.ret (nsealed_calls hn slot) ?_
  rintro _ w10 ⟨rfl, hw10⟩
  conv => whnf
  subst hw10
  refine Calls.ret (ndrop_calls hz slot) ?_
  rintro _ w11 ⟨rfl, hw11⟩
  conv => whnf
  subst hw11
  refine Calls.ret (nsealed_calls hz slot) ?_
  rintro _ w12 ⟨rfl, hw12⟩
  conv => whnf
  subst hw12
  refine Calls.ret (known22) ?_
  rintro _ w13 ⟨rfl, x13⟩
  conv => whnf
  exact ⟨rfl, x5.trans x13⟩
end Go.Proofs.Ytgipackjnncabaa

/- Layer 22: images and their chunks; the law SlotsBack, walked. -/
set_option linter.unusedVariables false
namespace Go.Proofs.Ytgipackjnncabaa
open Go.Vc Go.RowKit

theorem wf_u16 {n : Int} (h : (Lit.int .u16 n).wf = true) : ∃ m : Nat, n = m ∧ m ≤ 65535 := by
  obtain ⟨h1, h2⟩ := wf_le h
  simp [IntKind.min, IntKind.max, IntKind.signed, IntKind.bits] at h1 h2
  exact ⟨n.toNat, by omega, by omega⟩
theorem rem_nat (n m : Nat) : ((n : Int)).tmod (m : Int) = ((n % m : Nat) : Int) := by rw [Int.ofNat_tmod]
theorem quo_nat (n m : Nat) : ((n : Int)).tdiv (m : Int) = ((n / m : Nat) : Int) := by rw [Int.ofNat_tdiv]
theorem run_byte (w : World) (x : BitVec 8) : ∃ w', (Instr.buildSlice 22 1 #[(0, u8v x)]).run Try.prog w = .ok (.slice (some ⟨w.heap.size, 0, none⟩) 1 1) w' ∧ Sl u8v w' (some ⟨w.heap.size, 0, none⟩) [x] ∧ Ext w w' := by
  have g := run_buildN (P := Try.prog) (t := 22) (e := 5) e8.toElem [u8v x] (by simp [u8v, Value.oneCell']) (by simp) w
  exact ⟨_, g, Sl.lit (f := u8v) [x] w, Ext.new _ _⟩

/-- Long (the reference's) -/
theorem rlong_calls {w : World} (m : Nat) (hm : m ≤ 2048) (k : Int) (hk : -9223372036854775808 ≤ k ∧ k ≤ 9223372036854775807) :
    Calls Try.prog 176 #[.int .i64 m, .int .i64 k] w (Ret fun v w' => v = .int .i64 (if 0 ≤ k ∧ k < 32 ∧ 64 * k < m then (lenC m k.toNat : Int) else 0) ∧ w' = w) := by
  refine calls_of_vc lok Try.func176 ?_ rfl
  conv => whnf
  refine vcReg_meet lok (fun β : Bool => [(16, .bool β)]) (fun β w' => w' = w ∧ β = !decide (0 ≤ k ∧ k < 32 ∧ 64 * k < m)) [16] (fun _ => rfl) rfl ?_ ?_
  · conv => whnf
    refine bcase (fun h1 => ?_) (fun h1 => ?_)
    · have h1 := dt h1
      conv => whnf
      exact ⟨_, ⟨rfl, trivial⟩, rfl, by rw [decide_eq_false (by omega)]; rfl⟩
    have h1 := df h1
    conv => whnf
    refine bcase (fun h2 => ?_) (fun h2 => ?_)
    · have h2 := dt h2
      conv => whnf
      exact ⟨_, ⟨rfl, trivial⟩, rfl, by rw [decide_eq_false (by omega)]; rfl⟩
    have h2 := df h2
    conv => whnf
    refine ⟨by omega, ?_⟩
    conv => whnf
    refine ⟨_, ⟨rfl, trivial⟩, rfl, ?_⟩
    by_cases h3 : 64 * k < m
    · rw [decide_eq_false (by omega), decide_eq_true ⟨by omega, by omega, h3⟩]; rfl
    · rw [decide_eq_true (by omega), decide_eq_false (fun q => h3 q.2.2)]; rfl
  rintro β w1 ⟨hw1, hβ⟩
  subst hw1
  conv => whnf
  refine vcCond_split lok rfl (fun h1 => ?_) (fun h1 => ?_)
  · rw [h1] at hβ
    have hn : ¬ (0 ≤ k ∧ k < 32 ∧ 64 * k < m) := fun q => by rw [decide_eq_true q] at hβ; cases hβ
    rw [if_neg hn]
    conv => whnf
    exact ⟨rfl, rfl⟩
  rw [h1] at hβ
  have hy : 0 ≤ k ∧ k < 32 ∧ 64 * k < m := by
    by_cases q : 0 ≤ k ∧ k < 32 ∧ 64 * k < m
    · exact q
    · rw [decide_eq_false q] at hβ; cases hβ
  rw [if_pos hy]
  conv => whnf
  refine ⟨by omega, ?_⟩
  conv => whnf
  refine ⟨by omega, ?_⟩
  conv => whnf
  refine vcCond_split lok rfl (fun h2 => ?_) (fun h2 => ?_)
  · have h2 := dt h2
    conv => whnf
    refine ⟨by omega, ?_⟩
    conv => whnf
    refine ⟨by omega, ?_⟩
    conv => whnf
    refine ⟨?_, rfl⟩
    congr 1
    unfold lenC
    omega
  · have h2 := df h2
    conv => whnf
    refine ⟨?_, rfl⟩
    congr 1
    unfold lenC
    omega

/-- chunk -/
theorem lchunk_calls {w : World} {a : Option Addr} {c : Nat} {xs : List (BitVec 8)} (h : Sl u8v w a xs) (hl : xs.length ≤ 2048) (hc : xs.length ≤ c) (hcm : c ≤ 9223372036854775807) (k : Nat) (hk : 64 * k < xs.length) :
    Calls Try.prog 126 #[.slice a xs.length c, .int .i64 k] w (Ret fun v w' => ∃ a' c', v = .slice a' (chunkF xs k).length c' ∧ Sl u8v w' a' (chunkF xs k) ∧ w' = w) := by
  have hcl := chunkF_len xs k
  have hlc : lenC xs.length k ≤ 64 ∧ 64 * k + lenC xs.length k ≤ xs.length := by unfold lenC; omega
  refine calls_of_vc lok Try.func126 ?_ rfl
  conv => whnf
  refine ⟨by omega, ?_⟩
  conv => whnf
  refine ⟨by omega, ?_⟩
  conv => whnf
  refine Calls.ret (rlong_calls xs.length hl k (by omega)) ?_
  rintro _ w1 ⟨rfl, hw1⟩
  conv => whnf
  subst hw1
  rw [if_pos (by omega), Int.toNat_natCast]
  refine ⟨by omega, ?_⟩
  conv => whnf
  refine ⟨⟨by omega, by omega, by omega⟩, ?_⟩
  intro b hb
  have e1 : (64 * (k : Int)).toNat = 64 * k := by omega
  have e2 : (64 * (k : Int) + (lenC xs.length k : Int)).toNat - (64 * (k : Int)).toNat = (chunkF xs k).length := by omega
  have hsl := Sl.mid h (64 * k) (64 * k + lenC xs.length k) c (by omega) (by omega) hc
  have e3 : (xs.drop (64 * k)).take (64 * k + lenC xs.length k - 64 * k) = chunkF xs k := by
    unfold chunkF lenC
    rw [show 64 * k + min 64 (xs.length - 64 * k) - 64 * k = min 64 (xs.length - 64 * k) by omega]
    by_cases q : 64 ≤ xs.length - 64 * k
    · rw [Nat.min_eq_left q]
    · rw [Nat.min_eq_right (by omega), List.take_of_length_le (by rw [List.length_drop]; omega), List.take_of_length_le (by rw [List.length_drop]; omega)]
  rw [e3] at hsl
  rw [e1] at hb
  rw [← hb] at hsl
  rw [e2]
  exact ⟨b, _, rfl, hsl, rfl⟩

set_option maxHeartbeats 1000000 in
/-- image -/
theorem image_calls {w : World} {a : Option Addr} {c : Nat} {bs : List (BitVec 8)} (h : Sl u8v w a bs) (hl : bs.length ≤ 9223372036854775807) (n : Nat) (hn : n ≤ 2048) :
    Calls Try.prog 123 #[.slice a bs.length c, .int .i64 n] w (Ret fun v w' => ∃ a' c' xs, v = .slice a' n c' ∧ xs.length = n ∧ Own 5 u8v w.heap.size w' a' c' xs ∧ Ext w w') := by
  refine calls_of_vc lok Try.func123 ?_ rfl
  conv => whnf
  refine vcLoop_inv lok (σ := Nat × Option Addr × Nat × List (BitVec 8))
    (fun ⟨i, ra, rc, xs⟩ => [(6, .int .i64 i), (5, .slice ra xs.length rc), (0, .slice a bs.length c), (1, .int .i64 n)])
    (fun ⟨i, ra, rc, xs⟩ w' => i ≤ n ∧ xs.length = i ∧ Own 5 u8v w.heap.size w' ra rc xs ∧ Ext w w') (fun t => n - t.1)
    (0, none, 0, []) ⟨rfl, rfl, rfl, rfl, trivial⟩ ⟨Nat.zero_le _, rfl, Own.nil _ _ _ _, Ext.refl _⟩ ?_
  rintro ⟨i, ra, rc, xs⟩ w1 ⟨hi, hxl, ho1, x1⟩
  conv => whnf
  refine vcCond_split lok rfl (fun h2 => ?_) (fun h2 => ?_)
  · have h2 := dt h2
    conv => whnf
    refine ⟨by omega, ?_⟩
    conv => whnf
    intro z hz
    have gz : ∃ y : BitVec 8, z = (y.toNat : Int) := ⟨BitVec.ofInt 8 z, by rw [hz, wu8]; simp; omega⟩
    obtain ⟨y, hy⟩ := gz
    clear hz
    subst hy
    conv => whnf
    refine vcCond_meet (fun y : BitVec 8 => [(7, .int .u8 y.toNat), (6, .int .i64 i), (5, .slice ra xs.length rc), (0, .slice a bs.length c), (1, .int .i64 n)]) (fun y w' => Ext w1 w') ?_ ?_
    · refine vcCond_split lok rfl (fun h3 => ?_) (fun h3 => ?_)
      · have h3 := dt h3
        conv => whnf
        refine vcDraw_go lok mixed (fun w' => w' = w1.drew) [] [0, 1, 2, 3, 4, 5, 6, 7, 8, 9, 10, 11, 12, 13] (by kernel_rfl) (fun w2 hw2 => ⟨hw2, ?_⟩)
        have x2 : Ext w1 w2 := hw2 ▸ Ext.drew w1
        have hs2 := (h.ext x1).ext x2
        conv => whnf
        refine ⟨by omega, ?_⟩
        intro z hz
        have hz33 : z = ((i % bs.length : Nat) : Int) := by rw [hz]; exact rem_nat i bs.length
        clear hz
        subst hz33
        conv => whnf
        have hix : i % bs.length < bs.length := Nat.mod_lt _ (by omega)
        have g4 := hs2.at ((i % bs.length : Nat) : Int) (by omega) (by omega)
        obtain ⟨p4, o4, ha4, hc4⟩ := g4
        refine ⟨p4, o4, ha4, ⟨by omega, by omega⟩, ?_⟩
        conv => whnf
        refine ⟨_, fun w' hw' => by rw [hw', ← hw2]; exact hc4, ?_⟩
        generalize bs.getD ((i % bs.length : Nat) : Int).toNat default = v at *
        conv => whnf
        refine ⟨by omega, ?_⟩
        have hq : i / bs.length ≤ i := Nat.div_le_self _ _
        intro z hz
        have hz36 : z = ((i / bs.length : Nat) : Int) := by rw [hz, quo_nat]; generalize i / bs.length = qq at *; exact wi64 (by omega)
        clear hz
        subst hz36
        conv => whnf
        intro z hz
        clear hz
        conv => whnf
        intro z2 hz2
        have gz : ∃ y : BitVec 8, z2 = (y.toNat : Int) := ⟨BitVec.ofInt 8 z2, by rw [hz2, wu8]; simp; omega⟩
        obtain ⟨y2, hy2⟩ := gz
        clear hz2
        subst hy2
        exact ⟨y2, ⟨rfl, rfl, rfl, rfl, rfl, trivial⟩, x2⟩
      · conv => whnf
        exact ⟨y, ⟨rfl, rfl, rfl, rfl, rfl, trivial⟩, Ext.refl _⟩
    rintro y3 w3 x3
    conv => whnf
    have g6 := run_byte w3 y3
    obtain ⟨w6, hr6, hs6, x6⟩ := g6
    refine ⟨_, _, hr6, ?_⟩
    conv => whnf
    have z1 := x1.size
    have z3 := x3.size
    have z6 := x6.size
    have g7 := ((ho1.ext x3).ext x6).append (ty := 22) (d := 1) e8.toElem (fun _ => rfl) hs6 (by simp; omega) (by omega)
    obtain ⟨a7, c7, w7, hr7, ho7, hg7, _⟩ := g7
    refine ⟨_, _, hr7, ?_⟩
    have x7 : Ext w w7 := hg7.extOf (x1.trans (x3.trans x6)) (fun g hg => (ho1.ge g hg).1)
    have el : (xs ++ [y3]).length = i + 1 := by rw [List.length_append, hxl]; rfl
    have gy : ∃ ys, ys = xs ++ [y3] := ⟨_, rfl⟩
    obtain ⟨ys, hys⟩ := gy
    rw [← hys] at ho7 el ⊢
    conv => whnf
    refine ⟨by omega, ?_⟩
    conv => whnf
    exact ⟨(i + 1, a7, c7, ys), ⟨rfl, rfl, rfl, rfl, trivial⟩, ⟨by omega, el, ho7, x7⟩, by show n - (i + 1) < n - i; omega⟩
  · have h2 := df h2
    conv => whnf
    have hin : i = n := by omega
    subst hin
    exact ⟨ra, rc, xs, by rw [hxl], hxl, ho1, x1⟩
end Go.Proofs.Ytgipackjnncabaa

/- The law SlotsBack, walked. -/
set_option linter.unusedVariables false
namespace Go.Proofs.Ytgipackjnncabaa
open Go.Vc Go.RowKit

theorem have_or {ws vs : List (BitVec 32)} {p m k : Nat} (hk : k < 32) (hm : 64 * k < m) (h0 : vs.getD (p + 3 + k) 0#32 = 0#32) (h1 : ∀ j, j < 32 → j ≠ k → vs.getD (p + 3 + j) 0#32 = ws.getD (p + 3 + j) 0#32) :
    haveB vs p m 32 = haveB ws p m 32 ||| BitVec.twoPow 32 k := by
  apply BitVec.eq_of_getLsbD_eq
  intro i hi
  rw [BitVec.getLsbD_or, haveB_bit vs p m 32 i (Nat.le_refl _) hi, haveB_bit ws p m 32 i (Nat.le_refl _) hi, BitVec.getLsbD_twoPow]
  by_cases e : i = k
  · subst e
    have : bitB vs p m i = true := decide_eq_true ⟨hm, h0⟩
    rw [this]
    simp [hi]
  · have : bitB vs p m i = bitB ws p m i := by unfold bitB; rw [h1 i hi e]
    rw [this]
    simp [Ne.symm e, hi]
theorem seal_img {s : FS} {n : Nat} {slot : Int} {v : BitVec 32} {all : List (BitVec 8)} (hs : s.off = false) (hb : ¬ badF slot) (h : Img s.ws (atF n slot) v all) (hall : allB s.ws (atF n slot) all.length 32 = true) (hl : s.left < 0) :
    ∃ t, sealSF s n slot = (t, 0) ∧ sealedF t n slot = true := by
  have hlen := h.len
  have hmany := h.many
  have ew : wholeSF s n slot = (all.length, 0) := by
    unfold wholeSF haveW
    rw [check_ok hs hb, if_neg (by simp), h.head]
    exact if_pos hall
  have e : sealSF s n slot = (s.did (s.ws.set (atF n slot + 35) (s.ws.getD (atF n slot + 35) 0#32 &&& 0#32)), 0) := by
    unfold sealSF
    rw [ew, if_pos rfl]
    unfold progF
    rw [hs, if_neg (by simp), if_neg (by omega), if_neg (by omega), Int.toNat_natCast]
  refine ⟨_, e, ?_⟩
  have get := fun i => set_get0 s.ws (atF n slot + 35) i (s.ws.getD (atF n slot + 35) 0#32 &&& 0#32) (by omega)
  have eh : headW (s.ws.set (atF n slot + 35) (s.ws.getD (atF n slot + 35) 0#32 &&& 0#32)) (atF n slot) = some (v, all.length) := by
    have q := h.head
    unfold headW at q ⊢
    have l0 : (s.ws.set (atF n slot + 35) (s.ws.getD (atF n slot + 35) 0#32 &&& 0#32)).getD (atF n slot) 0#32 = s.ws.getD (atF n slot) 0#32 := by rw [get, if_neg (by omega)]
    have l1 : (s.ws.set (atF n slot + 35) (s.ws.getD (atF n slot + 35) 0#32 &&& 0#32)).getD (atF n slot + 1) 0#32 = s.ws.getD (atF n slot + 1) 0#32 := by rw [get, if_neg (by omega)]
    have l2 : (s.ws.set (atF n slot + 35) (s.ws.getD (atF n slot + 35) 0#32 &&& 0#32)).getD (atF n slot + 2) 0#32 = s.ws.getD (atF n slot + 2) 0#32 := by rw [get, if_neg (by omega)]
    rw [l0, l1, l2]
    exact q
  unfold sealedF haveF haveW
  rw [did_off, did_ws, hs, if_neg (by simp [hb]), eh]
  dsimp only
  have e35 : (s.ws.set (atF n slot + 35) (s.ws.getD (atF n slot + 35) 0#32 &&& 0#32)).getD (atF n slot + 35) 0#32 = 0#32 := by rw [get, if_pos rfl, BitVec.and_zero]
  have : allB (s.ws.set (atF n slot + 35) (s.ws.getD (atF n slot + 35) 0#32 &&& 0#32)) (atF n slot) all.length 32 = true := allB_iff.2 fun i hi hm => by
    rw [get, if_neg (by omega)]
    exact allB_iff.1 hall i hi hm
  rw [this, e35]
  rfl
theorem headR_img {s : FS} {n : Nat} {slot : Int} {v : BitVec 32} {all : List (BitVec 8)} (hs : s.off = false) (hb : ¬ badF slot) (h : Img s.ws (atF n slot) v all) : headR s n slot = (v, all.length, true) := by
  rw [headR_ok (check_ok hs hb), h.head]

set_option maxRecDepth 100000 in
set_option maxHeartbeats 8000000 in
theorem slotsBack_walk {w : World} {ba oa : Option Addr} {bc oc : Nat} {bs order : List (BitVec 8)} (hbs : Sl u8v w ba bs) (hbl : bs.length ≤ 9223372036854775807) (hor : Sl u8v w oa order) (hol : order.length ≤ 9223372036854775807) (sz : Nat) (hsz : sz ≤ 65535) :
    Calls Try.prog 33 #[.slice ba bs.length bc, .int .u16 sz, .slice oa order.length oc] w (Law w) := by
  refine calls_of_vc lok Try.func33 ?_ rfl
  conv => whnf
  intro z hz
  have hz2 : z = (sz : Int) := by rw [hz]; exact wi64 (by omega)
  clear hz
  subst hz2
  conv => whnf
  refine ⟨by decide, ?_⟩
  intro z hz
  have hz3 : z = ((sz % 2048 : Nat) : Int) := by rw [hz]; exact rem_nat sz 2048
  clear hz
  subst hz3
  conv => whnf
  refine ⟨by omega, ?_⟩
  conv => whnf
  have gn : ∃ n : Nat, n = 1 + sz % 2048 ∧ 1 ≤ n ∧ n ≤ 2048 := ⟨_, rfl, by omega, by omega⟩
  obtain ⟨n, hn, hn1, hn2⟩ := gn
  rw [show (1 : Int) + ((sz % 2048 : Nat) : Int) = (n : Int) by omega]
  conv => whnf
  refine Calls.ret (image_calls hbs hbl n hn2) ?_
  rintro _ w1 ⟨aa, ac, all, rfl, hal, hoa, x1⟩
  conv => whnf
  refine Calls.ret (new_calls 6) ?_
  rintro _ w2 hp
  conv => whnf
  rcases hp with ⟨hno, _, _⟩ | ⟨_, g, gw, fc, rfl, f2, x2⟩
  · exact absurd hno (by decide)
  replace f2 : FlAt 181 w1.heap.size w2 g gw fc k22S := f2
  have l0 : k22S.ws.length = 1536 := List.length_replicate
  have n0 : Num k22S 1536 0 := ⟨l0, ⟨Int.le_refl _, Int.le_refl _⟩, by show (-1 : Int) ≤ _; decide⟩
  have so : k22S.off = false := rfl
  have sl : k22S.left < 0 := by show (-1 : Int) < 0; decide
  generalize k22S = s0 at *
  have z1 := x1.size
  have f2lo := f2.lo
  have f2lt := f2.lt
  conv => whnf
  refine Calls.ret (sopen_calls f2 (by omega) 0) ?_
  rintro _ w3 hp
  conv => whnf
  rcases hp with ⟨hno, _, _⟩ | ⟨m, hm, _, sb, rfl, hsb, S3, x3⟩
  · exact absurd ⟨by decide, by rw [l0]; decide⟩ hno
  have hm0 : m = 0 := by omega
  subst hm0
  clear hm
  have hbad : ¬ badF 1 := by decide
  have hat : atF 0 1 = 768 := rfl
  have hcan : canN 5#32 (n : Int) := ⟨by decide, by decide, by omega, by omega⟩
  have gb := begin_cases (n := 0) (slot := 1) (v := 5#32) (m := n) so hbad hcan (by rw [hat, l0]; decide)
  rcases gb with ⟨t, e1, e2, e3, e4⟩ | ⟨_, _, _, q, _⟩
  rotate_left
  · omega
  have tl := e4 sl
  have tn := begin_num (at_ := 0) (slot := 1) (v := 5#32) (m := n) n0
  rw [e1] at tn
  replace tn : Num t 1536 17 := tn
  rw [Int.toNat_natCast, ← hal] at e2
  have timg := e2.img (all := all) (by rw [hat, tn.len]; decide)
  have x03 := x1.trans (x2.trans x3)
  have S3' : SlAt w.heap.size w3 sb g gw fc 0 s0 := ⟨S3.f.base z1, S3.b, S3.n1, S3.n2, S3.room, S3.small⟩
  have gbeg := sbegin_calls S3' 1 5#32 n (by rw [l0]; exact n0) (by decide)
  rw [e1] at gbeg
  have hoa3 := (hoa.ext x2).ext x3
  have nS : ∀ {w' w''}, FlMod g gw w' w'' → Own 5 u8v w.heap.size w' aa ac all → Own 5 u8v w.heap.size w'' aa ac all := fun {w' w''} m h => m.keepOwn h fun k hk e => by
    have := (hoa.ge k hk).2
    rcases e with e | e <;> omega
  conv => whnf
  refine vcReg_meet lok (fun β : Bool => [(52, .bool β)]) (fun β w' => β = false ∧ SlAt w.heap.size w' sb g gw fc 0 t ∧ FlMod g gw w3 w') [52] (fun _ => rfl) rfl ?_ ?_
  · conv => whnf
    refine Calls.ret (gbeg) ?_
    rintro _ w4 ⟨rfl, S4, m4⟩
    conv => whnf
    exact ⟨_, ⟨rfl, trivial⟩, rfl, S4, m4⟩
  rintro β w4 ⟨rfl, S4, m4⟩
  have hoa4 := nS m4 hoa3
  have x04 := FlMod.above m4 x03 (by omega) (by omega)
  clear gbeg e1 e2 S3 S3' hoa3 e4
  conv => whnf
  refine vcCond_false lok (rfl) ?_
  conv => whnf
  refine ⟨by omega, ?_⟩
  conv => whnf
  refine ⟨by decide, ?_⟩
  intro z hz
  have hz16 : z = (((n + 63) / 64 : Nat) : Int) := by rw [hz]; exact (congrArg IntKind.i64.wrap (quo_nat (n + 63) 64)).trans (wi64 (by omega))
  clear hz
  subst hz16
  conv => whnf
  have gmany : ∃ many : Nat, many = (n + 63) / 64 ∧ 1 ≤ many ∧ many ≤ 32 ∧ n ≤ 64 * many ∧ ∀ k, k < many → 64 * k < n := ⟨_, rfl, by omega, by omega, by omega, fun k hk => by omega⟩
  obtain ⟨many, hmany, hm1, hm2, hm3, hm4⟩ := gmany
  rw [← hmany]
  -- what a chunk's writing leaves
  have hac := hoa.le
  have hcm : maxLen ≤ 9223372036854775807 := by decide
  have step : ∀ (s : FS) (i : Nat) (w' : World) (k : Nat), k < many → SlAt w.heap.size w' sb g gw fc 0 s → Num s 1536 i → i ≤ 1152921504606846976 → s.off = false → s.left < 0 → Img s.ws (atF 0 1) 5#32 all → Own 5 u8v w.heap.size w' aa ac all →
      ∃ t, writeSF s 0 1 (k : Int) (chunkF all k) = (t, 0) ∧ t.off = false ∧ t.left < 0 ∧ Img t.ws (atF 0 1) 5#32 all ∧ Num t 1536 (i + 17) ∧ t.ws.getD (atF 0 1 + 3 + k) 0#32 = 0#32 ∧ (∀ j, j < 32 → j ≠ k → t.ws.getD (atF 0 1 + 3 + j) 0#32 = s.ws.getD (atF 0 1 + 3 + j) 0#32) := by
    intro s i w' k hk S sn hi so sl himg ho
    have hk2 := hm4 k hk
    have gw1 := write_img (slot := 1) (n := 0) so hbad himg k (by rw [hal]; exact hk2)
    have nn := write_num (at_ := 0) (slot := 1) (chunk := (k : Int)) (b := chunkF all k) sn
    rcases gw1 with ⟨t, g1, g2, g3, g4, g5, g6, g7⟩ | ⟨t, _, _, g3, _⟩
    · rw [g1] at nn
      exact ⟨t, g1, g2, g3 sl, g5, nn, g6, g7⟩
    · omega
  refine vcLoop_inv lok (σ := Nat)
    (fun i => [(13, .int .i64 i), (10, .pointer (some ⟨sb, 0, none⟩)), (8, .slice aa n ac), (7, .int .i64 n), (12, .int .i64 many), (2, .slice oa order.length oc), (9, .pointer (some ⟨g, 0, none⟩))])
    (fun i w' => i ≤ 60 ∧ ∃ s, SlAt w.heap.size w' sb g gw fc 0 s ∧ Num s 1536 (17 * i + 17) ∧ s.off = false ∧ s.left < 0 ∧ Img s.ws (atF 0 1) 5#32 all ∧ Own 5 u8v w.heap.size w' aa ac all ∧ Ext w w') (fun i => 60 - i)
    0 ⟨rfl, rfl, rfl, rfl, rfl, rfl, rfl, trivial⟩ ⟨Nat.zero_le _, t, S4, tn, e3, tl, timg, hoa4, x04⟩ ?_
  rintro i w5 ⟨hi60, s, S5, sn, so, sl, simg, ho5, x5⟩
  have slen := sn.len
  conv => whnf
  refine vcReg_meet lok (fun β : Bool => [(63, .bool β)]) (fun β w' => w' = w5 ∧ β = decide (i < order.length ∧ i < 60)) [63] (fun _ => rfl) rfl ?_ ?_
  · conv => whnf
    refine bcase (fun h1 => ?_) (fun h1 => ?_)
    · have h1 := dt h1
      conv => whnf
      refine ⟨_, ⟨rfl, trivial⟩, rfl, ?_⟩
      rw [decide_eq_decide]; omega
    · have h1 := df h1
      conv => whnf
      exact ⟨_, ⟨rfl, trivial⟩, rfl, by rw [eq_comm, decide_eq_false_iff_not]; omega⟩
  rintro β w6 ⟨hw6, hβ⟩
  subst hw6
  conv => whnf
  refine vcCond_split lok rfl (fun h1 => ?_) (fun h1 => ?_)
  · rw [h1] at hβ
    have hlt2 := dt hβ.symm
    conv => whnf
    have g24 := ((hor.ext x5)).at ((i : Int)) (by omega) (by omega)
    obtain ⟨p24, o24, ha24, hcell24⟩ := g24
    refine ⟨p24, o24, ha24, ⟨by omega, by omega⟩, ?_⟩
    conv => whnf
    refine ⟨_, hcell24, ?_⟩
    conv => whnf
    generalize order.getD (i : Int).toNat default = ov at *
    have hov := ov.isLt
    intro z hz
    have hz25 : z = (ov.toNat : Int) := by rw [hz]; exact wi64 (by omega)
    clear hz
    subst hz25
    conv => whnf
    refine ⟨by omega, ?_⟩
    intro z hz
    have hz26 : z = ((ov.toNat % many : Nat) : Int) := by rw [hz]; exact rem_nat _ _
    clear hz
    subst hz26
    conv => whnf
    have hkm : ov.toNat % many < many := Nat.mod_lt _ (by omega)
    generalize ov.toNat % many = k at *
    have hk2 := hm4 k hkm
    have gch := lchunk_calls ho5.sl (by omega) hac.1 (by omega) k (by omega)
    rw [hal] at gch
    refine Calls.ret (gch) ?_
    rintro _ w7 ⟨ca, cc, rfl, hcs, hw7⟩
    conv => whnf
    subst hw7
    have gst := step s (17 * i + 17) w7 k hkm S5 sn (by omega) so sl simg ho5
    obtain ⟨t2, g1, g2, g3, g4, g5, _, _⟩ := gst
    have gwr := swrite_calls (bc := cc) S5 1 (k : Int) hcs (by rw [chunkF_len]; have := lenC_le all.length k; omega) (by rw [slen]; exact sn) (by omega)
    rw [g1] at gwr
    refine Calls.ret (gwr) ?_
    rintro _ w8 ⟨rfl, S8, m8⟩
    conv => whnf
    replace S8 : SlAt w.heap.size w8 sb g gw fc 0 t2 := S8
    refine vcCond_false lok (rfl) ?_
    conv => whnf
    refine ⟨by omega, ?_⟩
    conv => whnf
    exact ⟨i + 1, ⟨rfl, rfl, rfl, rfl, rfl, rfl, rfl, trivial⟩, ⟨by omega, t2, S8, g5.up (by omega), g2, g3, g4, nS m8 ho5, FlMod.above m8 x5 (by omega) (by omega)⟩, by omega⟩
  clear hβ
  conv => whnf
  refine ⟨by omega, ?_⟩
  conv => whnf
  have hi2 : 17 * i + 17 ≤ 2000 := by omega
  have sn := sn.up hi2
  clear hi2
  rw [show ((many : Nat) : Int) - 1 = ((many : Nat) : Int) - 1 from rfl]
  refine vcLoop_inv lok (σ := Nat)
    (fun j => [(15, .int .i64 ((j : Int) - 1)), (10, .pointer (some ⟨sb, 0, none⟩)), (8, .slice aa n ac), (7, .int .i64 n)])
    (fun j w' => j ≤ many ∧ ∃ s, SlAt w.heap.size w' sb g gw fc 0 s ∧ Num s 1536 (2000 + 17 * (many - j)) ∧ s.off = false ∧ s.left < 0 ∧ Img s.ws (atF 0 1) 5#32 all ∧ Own 5 u8v w.heap.size w' aa ac all ∧ (∀ l, j ≤ l → l < many → s.ws.getD (atF 0 1 + 3 + l) 0#32 = 0#32) ∧ Ext w w') (fun j => j)
    many ⟨rfl, rfl, rfl, rfl, trivial⟩ ⟨Nat.le_refl _, s, S5, sn.up (by omega), so, sl, simg, ho5, fun l h1 h2 => by omega, x5⟩ ?_
  clear S5 sn so sl simg ho5 x5 slen
  rintro j w7 ⟨hj, s, S7, sn, so, sl, simg, ho7, hmk, x7⟩
  have slen := sn.len
  conv => whnf
  refine vcCond_split lok rfl (fun h3 => ?_) (fun h3 => ?_)
  · have h3 := dt h3
    conv => whnf
    have hj1 : 1 ≤ j := by omega
    have gk : ∃ k, j = k + 1 := ⟨j - 1, by omega⟩
    obtain ⟨k, rfl⟩ := gk
    rw [show ((k + 1 : Nat) : Int) - 1 = (k : Int) by omega]
    have hkm : k < many := by omega
    have hk2 := hm4 k hkm
    refine Calls.ret (shave_calls S7 1) ?_
    rintro _ w8 ⟨rfl, x8⟩
    conv => whnf
    have gch := lchunk_calls (ho7.ext x8).sl (by omega) hac.1 (by omega) k (by omega)
    rw [hal] at gch
    refine Calls.ret (gch) ?_
    rintro _ w9 ⟨ca, cc, rfl, hcs, hw9⟩
    conv => whnf
    subst hw9
    have gst := step s (2000 + 17 * (many - (k + 1))) w9 k hkm (S7.ext x8) sn (by omega) so sl simg (ho7.ext x8)
    obtain ⟨t2, g1, g2, g3, g4, g5, g6, g7⟩ := gst
    have gwr := swrite_calls (bc := cc) (S7.ext x8) 1 (k : Int) hcs (by rw [chunkF_len]; have := lenC_le all.length k; omega) (by rw [slen]; exact sn) (by omega)
    rw [g1] at gwr
    refine Calls.ret (gwr) ?_
    rintro _ w10 ⟨rfl, S10, m10⟩
    conv => whnf
    replace S10 : SlAt w.heap.size w10 sb g gw fc 0 t2 := S10
    have ho10 := nS m10 (ho7.ext x8)
    have x10 := FlMod.above m10 (x7.trans x8) (by omega) (by omega)
    have eh1 := img_have so hbad simg
    have eh2 := img_have g2 hbad g4
    have eor : haveB t2.ws (atF 0 1) all.length 32 = haveB s.ws (atF 0 1) all.length 32 ||| BitVec.twoPow 32 k := have_or (by omega) (by omega) g6 g7
    have eb := img_whole g2 hbad g4
    refine vcCond_false lok (rfl) ?_
    conv => whnf
    refine Calls.ret (shave_calls S10 1) ?_
    rintro _ w11 ⟨rfl, x11⟩
    conv => whnf
    rw [eh1, eh2, eor]
    intro y hz
    have hz41 : y = (k : Int) := by rw [hz, wu64]; omega
    clear hz
    subst hz41
    conv => whnf
    refine ⟨by omega, ?_⟩
    intro y2 hz
    have hz42 : y2 = ((BitVec.twoPow 32 k).toNat : Int) := by rw [hz, pow_nat k (by omega)]; exact shl_one k (by omega)
    clear hz
    subst hz42
    conv => whnf
    refine Calls.ret (sbytes_calls (S10.ext x11) 1) ?_
    rintro _ w12 ⟨xa, xc, rfl, hox, x12⟩
    conv => whnf
    rw [eb] at hox ⊢
    have ho12 := (ho10.ext x11).ext x12
    refine vcReg_meet lok (fun β : Bool => [(131, .bool β)]) (fun β w' => w' = w12 ∧ β = false) [131] (fun _ => rfl) rfl ?_ ?_
    · conv => whnf
      intro y3 hz
      have hz45 : y3 = ((haveB s.ws (atF 0 1) all.length 32 ||| BitVec.twoPow 32 k).toNat : Int) := by rw [hz]; exact or32 _ _
      clear hz
      subst hz45
      conv => whnf
      refine bcase (fun k4 => absurd rfl (ne_true k4)) (fun _ => ?_)
      cases hall : allB t2.ws (atF 0 1) all.length 32 with
      | false =>
        conv => whnf
        exact ⟨_, ⟨rfl, trivial⟩, rfl, rfl⟩
      | true =>
        rw [hall, if_pos rfl] at hox
        conv => whnf
        refine ⟨_, run_toStr hox.sl, ?_⟩
        conv => whnf
        have hst := run_toStr (P := Try.prog) (c := ac) ho12.sl
        rw [hal] at hst
        refine ⟨_, hst, ?_⟩
        conv => whnf
        intro γ hγ
        have hγ2 : γ = true := by rw [str_eq hγ rfl rfl]; simp
        clear hγ
        subst hγ2
        exact ⟨_, ⟨rfl, trivial⟩, rfl, rfl⟩
    rintro β w13 ⟨hw13, rfl⟩
    subst hw13
    conv => whnf
    refine vcCond_false lok (rfl) ?_
    conv => whnf
    refine ⟨by omega, ?_⟩
    conv => whnf
    refine ⟨k, ⟨rfl, rfl, rfl, rfl, trivial⟩, ⟨by omega, t2, (S10.ext x11).ext x12, g5.up (by omega), g2, g3, g4, ho12, fun l h1 h2 => ?_, x10.trans (x11.trans x12)⟩, by omega⟩
    by_cases e : l = k
    · subst e; exact g6
    · rw [g7 l (by omega) e]; exact hmk l (by omega) h2
  · have h3 := df h3
    conv => whnf
    have hj0 : j = 0 := by omega
    subst hj0
    have hall : allB s.ws (atF 0 1) all.length 32 = true := allB_iff.2 fun i hi hm => hmk i (Nat.zero_le _) (by omega)
    have eb := img_whole so hbad simg
    rw [hall, if_pos rfl] at eb
    have ehd := headR_img so hbad simg
    have gseal := seal_img so hbad simg hall sl
    obtain ⟨t3, q1, q2⟩ := gseal
    refine Calls.ret (sbytes_calls S7 1) ?_
    rintro _ w8 ⟨xa, xc, rfl, hox, x8⟩
    conv => whnf
    rw [eb] at hox ⊢
    refine Calls.ret (shead_calls (S7.ext x8) 1) ?_
    rintro _ w9 ⟨rfl, x9⟩
    conv => whnf
    rw [ehd]
    have gse := sseal_calls ((S7.ext x8).ext x9) 1 (by rw [slen]; exact sn) (by omega)
    rw [q1] at gse
    refine vcReg_go lok ?_
    conv => whnf
    refine ⟨_, run_toStr ((hox.ext x9).sl), ?_⟩
    conv => whnf
    have hst := run_toStr (P := Try.prog) (c := ac) ((ho7.ext x8).ext x9).sl
    rw [hal] at hst
    refine ⟨_, hst, ?_⟩
    conv => whnf
    intro γ hγ
    have hγ2 : γ = true := by rw [str_eq hγ rfl rfl]; simp
    clear hγ
    subst hγ2
    conv => whnf
    refine Calls.ret (gse) ?_
    rintro _ w10 ⟨rfl, S10, m10⟩
    conv => whnf
    replace S10 : SlAt w.heap.size w10 sb g gw fc 0 t3 := S10
    have gsd := ssealed_calls S10 1
    rw [q2] at gsd
    refine Calls.ret (gsd) ?_
    rintro _ w11 ⟨rfl, x11⟩
    conv => whnf
    refine bcase (fun _ => ?_) (fun k4 => absurd (by rw [hal]) (of_decide_eq_false k4))
    conv => whnf
    refine Calls.ret (known22) ?_
    rintro _ w12 ⟨rfl, x12⟩
    conv => whnf
    exact ⟨rfl, (FlMod.above m10 (x7.trans (x8.trans x9)) (by omega) (by omega)).trans (x11.trans x12)⟩
end Go.Proofs.Ytgipackjnncabaa

/- Walks of layer 22: the document's slots: where they lie, the head, the chunks that are there, sealed, whole. -/
set_option linter.unusedVariables false
namespace Go.Proofs.Ytgipackjnncabaa
open Go.Vc Go.RowKit

/-- the document's slots at block rb -/
structure RsAt (B : Nat) (w : World) (rb g gw c n : Nat) (s : FS) : Prop where
  f : FlAt 81 B w g gw c s
  b : Blk w rb 184 (sC g n)
  n1 : rb ≠ g
  n2 : rb ≠ gw
  room : 256 * (n + 6) ≤ s.ws.length
  small : s.ws.length ≤ 65536

theorem check_dec (s : FS) (slot : Int) : decide (checkF s slot = 0) = (!s.off && !decide (badF slot)) := by
  unfold checkF
  cases s.off with
  | true => rfl
  | false =>
    by_cases h : badF slot
    · rw [if_neg (by simp), if_pos h, decide_eq_true h]; rfl
    · rw [if_neg (by simp), if_neg h, decide_eq_false h]; rfl
theorem headW_cases (ws : List (BitVec 32)) (p : Nat) :
    ((ws.getD (p + 2) 0#32).toNat = 0 ∧ 1 ≤ (ws.getD p 0#32).toNat ∧ (ws.getD p 0#32).toNat ≤ 4294967294 ∧ 1 ≤ (ws.getD (p + 1) 0#32).toNat ∧ (ws.getD (p + 1) 0#32).toNat ≤ 2048 ∧ headW ws p = some (ws.getD p 0#32, (ws.getD (p + 1) 0#32).toNat)) ∨
    (¬ ((ws.getD (p + 2) 0#32).toNat = 0 ∧ 1 ≤ (ws.getD p 0#32).toNat ∧ (ws.getD p 0#32).toNat ≤ 4294967294 ∧ 1 ≤ (ws.getD (p + 1) 0#32).toNat ∧ (ws.getD (p + 1) 0#32).toNat ≤ 2048) ∧ headW ws p = none) := by
  unfold headW canN
  generalize ws.getD p 0#32 = a0
  generalize ws.getD (p + 1) 0#32 = a1
  generalize ws.getD (p + 2) 0#32 = a2
  have h0 : a2 = 0#32 ↔ a2.toNat = 0 := by rw [← BitVec.toNat_inj]; exact Iff.rfl
  have h1 : a0 = 0#32 ↔ a0.toNat = 0 := by rw [← BitVec.toNat_inj]; exact Iff.rfl
  have h2 : a0 = ones ↔ a0.toNat = 4294967295 := by rw [← BitVec.toNat_inj]; exact Iff.rfl
  have hl := a0.isLt
  by_cases q : a2.toNat = 0 ∧ 1 ≤ a0.toNat ∧ a0.toNat ≤ 4294967294 ∧ 1 ≤ a1.toNat ∧ a1.toNat ≤ 2048
  · refine .inl ⟨q.1, q.2.1, q.2.2.1, q.2.2.2.1, q.2.2.2.2, if_pos ⟨h0.2 q.1, fun e => ?_, fun e => ?_, by omega, by omega⟩⟩
    · have := h1.1 e; omega
    · have := h2.1 e; omega
  · refine .inr ⟨q, if_neg fun e => q ?_⟩
    obtain ⟨e0, e1, e2, e3, e4⟩ := e
    have k1 : a0.toNat ≠ 0 := fun e => e1 (h1.2 e)
    have k2 : a0.toNat ≠ 4294967295 := fun e => e2 (h2.2 e)
    exact ⟨h0.1 e0, by omega, by omega, by omega, by omega⟩

section
variable {B : Nat} {w w' : World} {rb g gw c n : Nat} {s t : FS}
theorem RsAt.ext (h : RsAt B w rb g gw c n s) (x : Ext w w') : RsAt B w' rb g gw c n s := ⟨h.f.ext x, h.b.ext x, h.n1, h.n2, h.room, h.small⟩
theorem RsAt.next (h : RsAt B w rb g gw c n s) (f : FlAt 81 B w' g gw c t) (m : FlMod g gw w w') (hl : t.ws.length = s.ws.length) : RsAt B w' rb g gw c n t :=
  ⟨f, m.keepBlk h.b (fun e => by rcases e with e | e; exact h.n1 e; exact h.n2 e), h.n1, h.n2, by rw [hl]; exact h.room, by rw [hl]; exact h.small⟩

/-- place -/
theorem rsplace_calls (h : RsAt B w rb g gw c n s) (slot : Int) (hb : ¬ badF slot) : Calls Try.prog 178 #[.pointer (some ⟨rb, 0, none⟩), .int .i64 slot] w (Ret fun v w' => v = .int .i64 (atF n slot : Nat) ∧ w' = w) := by
  have hr := h.room
  have hs := h.small
  unfold badF at hb
  refine calls_of_vc lok Try.func178 ?_ rfl
  conv => whnf
  refine ⟨_, h.b.cell (i := 1) rfl, ?_⟩
  conv => whnf
  refine ⟨by omega, ?_⟩
  conv => whnf
  refine ⟨by omega, ?_⟩
  conv => whnf
  refine ⟨by omega, ?_⟩
  conv => whnf
  refine ⟨?_, rfl⟩
  show Value.int .i64 _ = Value.int .i64 _
  congr 1
  unfold atF
  omega
/-- bad -/
theorem rsbad_calls {w : World} (slot : Int) : Calls Try.prog 177 #[.int .i64 slot] w (Ret fun v w' => v = .bool (decide (badF slot)) ∧ w' = w) := by
  refine calls_of_vc lok Try.func177 ?_ rfl
  conv => whnf
  refine vcReg_meet lok (fun β : Bool => [(2, .bool β)]) (fun β w' => w' = w ∧ β = decide (badF slot)) [2] (fun _ => rfl) rfl ?_ ?_
  · conv => whnf
    refine bcase (fun k1 => ?_) (fun k1 => ?_)
    · have k1 : ¬ slot = 0 := by simpa using k1
      conv => whnf
      refine ⟨_, ⟨rfl, trivial⟩, rfl, ?_⟩
      have e : (!decide (slot = 1)) = decide (¬ slot = 1) := by simp
      show (!decide (slot = 1)) = _
      rw [e, decide_eq_decide]
      unfold badF; omega
    · have k1 : slot = 0 := by simpa using k1
      conv => whnf
      refine ⟨_, ⟨rfl, trivial⟩, rfl, ?_⟩
      rw [eq_comm, decide_eq_false_iff_not]
      unfold badF; omega
  rintro β w1 ⟨hw1, rfl⟩
  subst hw1
  conv => whnf
  exact ⟨rfl, rfl⟩

set_option maxHeartbeats 2000000 in
/-- Head -/
theorem rshead_calls (h : RsAt B w rb g gw c n s) (slot : Int) : Calls Try.prog 147 #[.pointer (some ⟨rb, 0, none⟩), .int .i64 slot] w
    (Ret fun r w' => r = .tuple #[.int .u32 (headR s n slot).1.toNat, .int .i64 (headR s n slot).2.1, .bool (headR s n slot).2.2] ∧ Ext w w') := by
  refine calls_of_vc lok Try.func147 ?_ rfl
  conv => whnf
  refine vcReg_meet lok (fun β : Bool => [(18, .bool β)]) (fun β w' => w' = w ∧ β = !decide (checkF s slot = 0)) [18] (fun _ => rfl) rfl ?_ ?_
  · conv => whnf
    refine ⟨_, h.b.cell (i := 0) rfl, ?_⟩
    conv => whnf
    refine ⟨_, h.f.blk.cell (i := 1) rfl, ?_⟩
    conv => whnf
    refine bcase (fun k1 => ?_) (fun k1 => ?_)
    · conv => whnf
      exact ⟨_, ⟨rfl, trivial⟩, rfl, by rw [check_dec, k1]; rfl⟩
    · conv => whnf
      refine Calls.ret (rsbad_calls slot) ?_
      rintro _ w1 ⟨rfl, hw1⟩
      conv => whnf
      exact ⟨_, ⟨rfl, trivial⟩, hw1, by rw [check_dec, k1]; cases decide (badF slot) <;> rfl⟩
  rintro β w1 ⟨hw1, hβ⟩
  subst hw1
  conv => whnf
  refine vcCond_split lok rfl (fun h1 => ?_) (fun h1 => ?_)
  · rw [h1] at hβ
    have hz : checkF s slot ≠ 0 := by intro q; rw [decide_eq_true q] at hβ; cases hβ
    rw [headR_bad hz]
    conv => whnf
    exact ⟨rfl, Ext.refl _⟩
  have hz : checkF s slot = 0 := by
    by_cases q : checkF s slot = 0
    · exact q
    · rw [h1, decide_eq_false q] at hβ; cases hβ
  clear h1 hβ
  have hc := check_zero hz
  rw [headR_ok hz]
  have gp : ∃ p, p = atF n slot ∧ p + 768 ≤ s.ws.length := ⟨_, rfl, atF_le hc.2 h.room⟩
  obtain ⟨p, hp, hpl⟩ := gp
  rw [← hp]
  have hsm := h.small
  have hle := h.f.own.le.1
  conv => whnf
  refine vcDraw_go lok mixed (Ext w1) [9, 12] [0, 1, 2, 3, 4, 5, 6, 7, 8, 10, 11, 9, 12, 13, 14, 15] (by kernel_rfl) (fun w2 hw2 => ⟨hw2 ▸ Ext.drew w1, ?_⟩)
  have x2 : Ext w1 w2 := hw2 ▸ Ext.drew w1
  clear hw2
  conv => whnf
  refine ⟨_, fun w' hw' => (h.b.ext hw').cell (i := 0) rfl, ?_⟩
  conv => whnf
  refine ⟨_, fun w' hw' => (h.f.blk.ext hw').cell (i := 0) rfl, ?_⟩
  conv => whnf
  refine Calls.ret (rsplace_calls (h.ext x2) slot hc.2) ?_
  rintro _ w3 ⟨rfl, hw3⟩
  subst hw3
  refine ⟨_, fun _ h => h, x2, ?_⟩
  conv => whnf
  refine Calls.ret (rsplace_calls (h.ext x2) slot hc.2) ?_
  rintro _ w4 ⟨rfl, hw4⟩
  subst hw4
  refine ⟨_, fun _ h => h, x2, ?_⟩
  conv => whnf
  rw [← hp]
  refine ⟨by omega, ?_⟩
  conv => whnf
  refine ⟨⟨by omega, by omega, by omega⟩, ?_⟩
  intro b hb
  have hmid := Sl.mid (h.ext x2).f.own.sl p (p + 36) c (by omega) (by omega) hle
  rw [show p + 36 - p = 36 by omega] at hmid
  have hb : b = if c = p then (some ⟨gw, 0, none⟩ : Option Addr) else (some ⟨gw, 0, none⟩ : Option Addr).map (·.add (p * 1)) := hb
  rw [← hb] at hmid
  clear hb
  have gv : ∃ v, v = (s.ws.drop p).take 36 ∧ v.length = 36 := ⟨_, rfl, by rw [List.length_take, List.length_drop]; omega⟩
  obtain ⟨v, hv, hvl⟩ := gv
  rw [← hv] at hmid
  have e0 : v.getD 0 0#32 = s.ws.getD p 0#32 := by rw [hv, take_get0 _ _ _ (by decide), drop_get0]; rfl
  have e1 : v.getD 1 0#32 = s.ws.getD (p + 1) 0#32 := by rw [hv, take_get0 _ _ _ (by decide), drop_get0]
  have e2 : v.getD 2 0#32 = s.ws.getD (p + 2) 0#32 := by rw [hv, take_get0 _ _ _ (by decide), drop_get0]
  clear hv
  have hcs := headW_cases s.ws p
  rw [← e0, ← e1, ← e2] at hcs
  clear e0 e1 e2
  rw [show (((p : Nat) : Int) + 36).toNat - ((p : Nat) : Int).toNat = v.length by omega]
  conv => whnf
  refine vcReg_meet lok (fun β : Bool => [(61, .bool β)]) (fun β w' => w' = w4 ∧ β = !decide ((v.getD 2 0#32).toNat = 0 ∧ 1 ≤ (v.getD 0 0#32).toNat ∧ (v.getD 0 0#32).toNat ≤ 4294967294 ∧ 1 ≤ (v.getD 1 0#32).toNat ∧ (v.getD 1 0#32).toNat ≤ 2048)) [61] (fun _ => rfl) rfl ?_ ?_
  · conv => whnf
    have g30 := sl_get (hmid) (2) (2) (by omega) (by omega)
    obtain ⟨p30, o30, ha30, hb30, hcell30⟩ := g30
    refine ⟨p30, o30, ha30, hb30, ?_⟩
    conv => whnf
    refine ⟨_, hcell30, ?_⟩
    conv => whnf
    refine bcase (fun k1 => ?_) (fun k1 => ?_)
    · have k1 : ¬ (((v.getD 2 0#32).toNat : Int) = 0) := by simpa using k1
      conv => whnf
      exact ⟨_, ⟨rfl, trivial⟩, rfl, by rw [decide_eq_false (by omega)]; rfl⟩
    have k1 : ((v.getD 2 0#32).toNat : Int) = 0 := by
      by_cases q : ((v.getD 2 0#32).toNat : Int) = 0
      · exact q
      · rw [decide_eq_false q] at k1; cases k1
    conv => whnf
    have g33 := sl_get (hmid) (0) (0) (by omega) (by omega)
    obtain ⟨p33, o33, ha33, hb33, hcell33⟩ := g33
    refine ⟨p33, o33, ha33, hb33, ?_⟩
    conv => whnf
    refine ⟨_, hcell33, ?_⟩
    conv => whnf
    refine bcase (fun k2 => ?_) (fun k2 => ?_)
    · have k2 := dt k2
      conv => whnf
      exact ⟨_, ⟨rfl, trivial⟩, rfl, by rw [decide_eq_false (by omega)]; rfl⟩
    have k2 := df k2
    conv => whnf
    have g36 := sl_get (hmid) (0) (0) (by omega) (by omega)
    obtain ⟨p36, o36, ha36, hb36, hcell36⟩ := g36
    refine ⟨p36, o36, ha36, hb36, ?_⟩
    conv => whnf
    refine ⟨_, hcell36, ?_⟩
    conv => whnf
    refine bcase (fun k3 => ?_) (fun k3 => ?_)
    · have k3 := dt k3
      conv => whnf
      exact ⟨_, ⟨rfl, trivial⟩, rfl, by rw [decide_eq_false (by omega)]; rfl⟩
    have k3 := df k3
    conv => whnf
    have g39 := sl_get (hmid) (1) (1) (by omega) (by omega)
    obtain ⟨p39, o39, ha39, hb39, hcell39⟩ := g39
    refine ⟨p39, o39, ha39, hb39, ?_⟩
    conv => whnf
    refine ⟨_, hcell39, ?_⟩
    conv => whnf
    refine bcase (fun k4 => ?_) (fun k4 => ?_)
    · have k4 := dt k4
      conv => whnf
      exact ⟨_, ⟨rfl, trivial⟩, rfl, by rw [decide_eq_false (by omega)]; rfl⟩
    have k4 := df k4
    conv => whnf
    have g42 := sl_get (hmid) (1) (1) (by omega) (by omega)
    obtain ⟨p42, o42, ha42, hb42, hcell42⟩ := g42
    refine ⟨p42, o42, ha42, hb42, ?_⟩
    conv => whnf
    refine ⟨_, hcell42, ?_⟩
    conv => whnf
    refine ⟨_, ⟨rfl, trivial⟩, rfl, ?_⟩
    by_cases k5 : (v.getD 1 0#32).toNat ≤ 2048
    · rw [decide_eq_false (by omega), decide_eq_true (by omega)]; rfl
    · rw [decide_eq_true (by omega), decide_eq_false (by omega)]; rfl
  rintro β w5 ⟨hw5, hβ⟩
  subst hw5
  rcases hcs with ⟨q1, q2, q3, q4, q5, q6⟩ | ⟨q1, q6⟩
  rotate_left
  · rw [decide_eq_false q1] at hβ
    subst hβ
    rw [q6]
    conv => whnf
    refine vcCond_true lok (rfl) ?_
    conv => whnf
    exact ⟨rfl, x2⟩
  rw [decide_eq_true ⟨q1, q2, q3, q4, q5⟩] at hβ
  subst hβ
  rw [q6]
  conv => whnf
  refine vcCond_false lok (rfl) ?_
  conv => whnf
  refine vcDraw_go lok mixed (fun w' => w' = w5.drew) [] [0, 1, 2, 3, 4, 5, 6, 7, 8, 9] (by kernel_rfl) (fun w6 hw6 => ⟨hw6, ?_⟩)
  have x6 : Ext w5 w6 := hw6 ▸ Ext.drew w5
  have hm6 := hmid.ext x6
  conv => whnf
  have g48 := sl_get (hm6) (0) (0) (by omega) (by omega)
  obtain ⟨p48, o48, ha48, hb48, hcell48⟩ := g48
  refine ⟨p48, o48, ha48, hb48, ?_⟩
  conv => whnf
  refine ⟨_, fun w' hw' => by rw [hw', ← hw6]; exact hcell48, ?_⟩
  conv => whnf
  have g49 := sl_get (hm6) (1) (1) (by omega) (by omega)
  obtain ⟨p49, o49, ha49, hb49, hcell49⟩ := g49
  refine ⟨p49, o49, ha49, hb49, ?_⟩
  conv => whnf
  refine ⟨_, fun w' hw' => by rw [hw', ← hw6]; exact hcell49, ?_⟩
  conv => whnf
  intro z hz
  have hz50 : z = ((v.getD 1 0#32).toNat : Int) := by rw [hz]; exact wi64 (by omega)
  clear hz
  subst hz50
  conv => whnf
  exact ⟨rfl, x2.trans x6⟩
end
end Go.Proofs.Ytgipackjnncabaa
