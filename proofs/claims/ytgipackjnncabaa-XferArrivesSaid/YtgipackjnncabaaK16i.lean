/- Own texts of this claim, joined: W22b, W22c, W22d, W22e, W22f, Pl23b, W23i. -/
import Derived.Test.YtgipackjnncabaaK16h

/- Walks of layer 22, second part: words laid; dropped; begun; the head. -/
set_option linter.unusedVariables false
namespace Go.Proofs.Ytgipackjnncabaa
open Go.Vc Go.RowKit

theorem progF_code {s : FS} {i : Int} {x : BitVec 32} (h0 : 0 ≤ i) (h1 : i < s.ws.length) : (progF s i x).2 = 0 ∨ (progF s i x).2 = 7 := by
  unfold progF
  split
  · exact .inr rfl
  · rw [if_neg (by omega)]
    split
    · exact .inr rfl
    · exact .inl rfl
theorem Num.all {n : Nat} : ∀ (xs : List (BitVec 32)) (s : FS) (i : Nat) (a : Int), Num s n i → Num (progAllF s a xs).1 n (i + xs.length)
  | [], s, i, a, h => h
  | x :: xs, s, i, a, h => by
    have k := h.prog a x
    rw [List.length_cons]
    unfold progAllF
    split
    · exact (Num.all xs _ (i + 1) (a + 1) k).up (by omega)
    · exact k.up (by omega)

section
variable {B : Nat} {w : World} {sb g gw c n i : Nat} {s : FS}
set_option maxHeartbeats 1000000 in
/-- lay -/
theorem slay_calls (h : SlAt B w sb g gw c n s) (slot : Int) (hb : ¬ badF slot) (at_ : Nat) {xa : Option Addr} {xc : Nat} {xs : List (BitVec 32)} (hx : ∀ w', FlMod g gw w w' → Sl u32v w' xa xs) (hat : at_ + xs.length ≤ 768)
    (hop : Num s s.ws.length i) (hi : i ≤ 2305843009213693952) :
    Calls Try.prog 174 #[.pointer (some ⟨sb, 0, none⟩), .int .i64 slot, .int .i64 at_, .slice xa xs.length xc] w
      (Ret fun v w' => v = .int .i64 (progAllF s (atF n slot + at_ : Nat) xs).2 ∧ SlAt B w' sb g gw c n (progAllF s (atF n slot + at_ : Nat) xs).1 ∧ FlMod g gw w w') := by
  have hr := h.room
  have hm := h.small
  have hp := atF_le hb hr
  have hpd : ((n + 3 * slot.toNat : Nat) : Int) * 256 = (atF n slot : Int) := by unfold atF; omega
  refine calls_of_vcS lok Try.func174 ?_ rfl
  conv => whnf
  refine vcLoop_meet 0 (fun e : Int => [(9, .int .i64 e)]) (fun e w' => e = (progAllF s (atF n slot + at_ : Nat) xs).2 ∧ SlAt B w' sb g gw c n (progAllF s (atF n slot + at_ : Nat) xs).1 ∧ FlMod g gw w w') ?_ ?_
  · refine vcLoop_inv lok (σ := Nat)
      (fun k => [(13, .int .i64 k), (12, .int .i64 xs.length), (9, .int .i64 0), (0, .pointer (some ⟨sb, 0, none⟩)), (1, .int .i64 slot), (2, .int .i64 at_), (3, .slice xa xs.length xc)])
      (fun k w' => k ≤ xs.length ∧ ∃ sk, SlAt B w' sb g gw c n sk ∧ Num sk s.ws.length (i + k) ∧ FlMod g gw w w' ∧ progAllF s (atF n slot + at_ : Nat) xs = progAllF sk (atF n slot + at_ + k : Nat) (xs.drop k)) (fun k => xs.length - k)
      0 ⟨rfl, rfl, rfl, rfl, rfl, rfl, rfl, trivial⟩ ⟨Nat.zero_le _, s, h, hop, Mod.refl _ _, by rw [Nat.add_zero, List.drop_zero]⟩ ?_
    rintro k w1 ⟨hk, sk, h1, op1, m1, e1⟩
    have hl1 := op1.len
    conv => whnf
    refine vcCond_split lok rfl (fun h2 => ?_) (fun h2 => ?_)
    rotate_left
    · have h2 := df h2
      conv => whnf
      have hkl : k = xs.length := by omega
      rw [List.drop_of_length_le (by omega), progAllF] at e1
      rw [e1]
      exact ⟨0, ⟨rfl, trivial⟩, rfl, h1, m1⟩
    have h2 := dt h2
    conv => whnf
    have hkl : k < xs.length := by omega
    have edr : xs.drop k = xs.getD k 0#32 :: xs.drop (k + 1) := by
      rw [List.drop_eq_getElem_cons hkl]
      simp [List.getD, List.getElem?_eq_getElem hkl]
    rw [edr, progAllF] at e1
    refine vcDraw_meet lok mixed (Ext w1) [6] [0, 1, 2, 3, 4, 5, 8, 10, 12, 13, 14, 15, 6, 7, 9, 11, 16, 17] (fun e : Int => [(9, .int .i64 e)])
      (fun e w' => e = (progF sk (atF n slot + at_ + k : Nat) (xs.getD k 0#32)).2 ∧ SlAt B w' sb g gw c n (progF sk (atF n slot + at_ + k : Nat) (xs.getD k 0#32)).1 ∧ FlMod g gw w w') [9] (fun _ => rfl) rfl (by kernel_rfl) (fun w2 hw2 => ⟨hw2 ▸ Ext.drew w1, ?_⟩) ?_
    · have x2 : Ext w1 w2 := hw2 ▸ Ext.drew w1
      clear hw2
      have hsb := h1.b
      have hsx := hx w1 m1
      conv => whnf
      refine ⟨_, fun w' hw' => (hsb.ext hw').cell (i := 0) rfl, ?_⟩
      conv => whnf
      have g8 := sl_get (hsx) ((k : Int)) (k) (by omega) (by omega)
      obtain ⟨p8, o8, ha8, hb8, hcell8⟩ := g8
      refine ⟨p8, o8, ha8, hb8, ?_⟩
      conv => whnf
      refine ⟨_, fun w' hw' => Below.cell_of hw' (cell_lt hcell8) hcell8, ?_⟩
      conv => whnf
      refine Calls.ret (ssector_calls (h1.ext x2) slot hb) ?_
      rintro _ w3 ⟨rfl, hw3⟩
      subst hw3
      refine ⟨_, fun _ h => h, x2, ?_⟩
      conv => whnf
      refine ⟨by omega, ?_⟩
      conv => whnf
      refine ⟨by omega, ?_⟩
      conv => whnf
      refine ⟨by omega, ?_⟩
      conv => whnf
      rw [hpd, show (atF n slot : Int) + (at_ : Int) + (k : Int) = ((atF n slot + at_ + k : Nat) : Int) by omega]
      refine Calls.ret (prog_calls (h1.f.ext x2) ((atF n slot + at_ + k : Nat) : Int) (xs.getD k 0#32) (by omega) (op1.ok (by omega))) ?_
      rintro _ w4 ⟨rfl, f4, m4⟩
      conv => whnf
      exact ⟨_, ⟨rfl, trivial⟩, rfl, (h1.ext x2).next f4 m4 (progF_le sk _ _).len, (m1.trans (Mod.ofExt _ x2)).trans m4⟩
    rintro e w2 ⟨he, h3, m3⟩
    conv => whnf
    have hcode := progF_code (s := sk) (i := ((atF n slot + at_ + k : Nat) : Int)) (x := xs.getD k 0#32) (by omega) (by omega)
    refine vcCond_split lok rfl (fun h4 => ?_) (fun h4 => ?_)
    · have h4 := ne_true h4
      rw [he] at h4
      rw [if_neg h4] at e1
      rw [e1]
      conv => whnf
      refine ⟨e, ⟨rfl, trivial⟩, ?_, h3, m3⟩
      rw [he]
      rcases hcode with q | q
      · exact absurd q h4
      · exact q
    · have h4 := ne_false h4
      subst h4
      rw [if_pos he.symm] at e1
      conv => whnf
      refine ⟨by omega, ?_⟩
      conv => whnf
      refine ⟨k + 1, ⟨rfl, rfl, rfl, rfl, rfl, rfl, rfl, trivial⟩, ⟨by omega, _, h3, (op1.prog _ _).up (by omega), m3, by rw [show ((atF n slot + at_ + (k + 1) : Nat) : Int) = ((atF n slot + at_ + k : Nat) : Int) + 1 by omega]; exact e1⟩, by omega⟩
  rintro e w1 ⟨rfl, h1, m1⟩
  conv => whnf
  exact ⟨rfl, h1, m1⟩

/-- Drop -/
theorem sdrop_calls (h : SlAt B w sb g gw c n s) (slot : Int) (hop : Num s s.ws.length i) (hi : i ≤ 2305843009213693952) :
    Calls Try.prog 132 #[.pointer (some ⟨sb, 0, none⟩), .int .i64 slot] w (Ret fun v w' => v = .int .i64 (dropSF s n slot).2 ∧ SlAt B w' sb g gw c n (dropSF s n slot).1 ∧ FlMod g gw w w') := by
  have hr := h.room
  have hm := h.small
  unfold dropSF
  refine calls_of_vc lok Try.func132 ?_ rfl
  conv => whnf
  refine Calls.ret (scheck_calls h slot) ?_
  rintro _ w1 ⟨rfl, hw1⟩
  conv => whnf
  subst hw1
  refine vcCond_split lok rfl (fun h1 => ?_) (fun h1 => ?_)
  · have h1 := ne_true h1
    rw [if_pos h1]
    conv => whnf
    exact ⟨rfl, h, Mod.refl _ _⟩
  have h1 := ne_false h1
  rw [if_neg (fun q => q h1)]
  have hb := (check_zero h1).2
  conv => whnf
  refine vcDraw_go lok mixed (Ext w1) [6] [0, 1, 2, 3, 4, 5, 6, 7, 8] (by kernel_rfl) (fun w2 hw2 => ⟨hw2 ▸ Ext.drew w1, ?_⟩)
  have x2 : Ext w1 w2 := hw2 ▸ Ext.drew w1
  clear hw2
  have hsb := h.b
  conv => whnf
  refine ⟨_, fun w' hw' => (hsb.ext hw').cell (i := 0) rfl, ?_⟩
  conv => whnf
  refine Calls.ret (ssector_calls (h.ext x2) slot hb) ?_
  rintro _ w3 ⟨rfl, hw3⟩
  subst hw3
  refine ⟨_, fun _ h => h, x2, ?_⟩
  conv => whnf
  refine Calls.ret (erase_calls (h.f.ext x2) ((n + 3 * slot.toNat : Nat) : Int) (by omega) (hop.ok (by omega))) ?_
  rintro _ w4 ⟨rfl, f4, m4⟩
  conv => whnf
  have hle := (eraseF_le s ((n + 3 * slot.toNat : Nat) : Int)).len
  exact ⟨rfl, (h.ext x2).next f4 m4 hle, (Mod.ofExt _ x2).trans m4⟩

set_option maxHeartbeats 1000000 in
/-- Begin -/
theorem sbegin_calls (h : SlAt B w sb g gw c n s) (slot : Int) (v : BitVec 32) (m : Int) (hop : Num s s.ws.length i) (hi : i ≤ 1152921504606846976) :
    Calls Try.prog 124 #[.pointer (some ⟨sb, 0, none⟩), .int .i64 slot, .int .u32 v.toNat, .int .i64 m] w (Ret fun r w' => r = .int .i64 (beginSF s n slot v m).2 ∧ SlAt B w' sb g gw c n (beginSF s n slot v m).1 ∧ FlMod g gw w w') := by
  have hr := h.room
  have hm := h.small
  have ecode : ∀ (t : FS) (k : Nat), k < t.ws.length / 256 → (eraseF t k).2 = 0 ∨ (eraseF t k).2 = 7 := by
    intro t k hk
    unfold eraseF
    split
    · exact .inr rfl
    · rw [if_neg (by omega)]
      split
      · exact .inr rfl
      · exact .inl rfl
  unfold beginSF
  refine calls_of_vc lok Try.func124 ?_ rfl
  conv => whnf
  refine Calls.ret (scheck_calls h slot) ?_
  rintro _ w1 ⟨rfl, hw1⟩
  conv => whnf
  subst hw1
  refine vcCond_split lok rfl (fun h1 => ?_) (fun h1 => ?_)
  · have h1 := ne_true h1
    rw [if_pos h1]
    conv => whnf
    exact ⟨rfl, h, Mod.refl _ _⟩
  have h1 := ne_false h1
  rw [if_neg (fun q => q h1)]
  have hb := (check_zero h1).2
  have hp := atF_le hb hr
  conv => whnf
  refine Calls.ret (canBe_calls v m) ?_
  rintro _ w2 ⟨rfl, hw2⟩
  conv => whnf
  subst hw2
  refine vcCond_split lok rfl (fun h2 => ?_) (fun h2 => ?_)
  · have h2 : ¬ canN v m := by
      intro q; rw [decide_eq_true q] at h2; cases h2
    rw [if_pos h2]
    conv => whnf
    exact ⟨rfl, h, Mod.refl _ _⟩
  have h2 : canN v m := by
    by_cases q : canN v m
    · exact q
    · rw [decide_eq_false q] at h2; cases h2
  rw [if_neg (fun q => q h2)]
  have hsl : ∃ k, k = n + 3 * slot.toNat ∧ k + 3 ≤ s.ws.length / 256 := ⟨_, rfl, by unfold badF at hb; omega⟩
  obtain ⟨sec, hsec, hsec2⟩ := hsl
  rw [← hsec]
  generalize hE : eraseAllF s sec 3 = E3
  conv => whnf
  refine vcLoop_inv lok (σ := Nat)
    (fun k => [(22, .int .i64 k), (0, .pointer (some ⟨sb, 0, none⟩)), (1, .int .i64 slot), (2, .int .u32 v.toNat), (3, .int .i64 m)])
    (fun k w' => k ≤ 3 ∧ ∃ sk, SlAt B w' sb g gw c n sk ∧ Num sk s.ws.length (i + k) ∧ FlMod g gw w2 w' ∧ E3 = eraseAllF sk (sec + k) (3 - k)) (fun k => 3 - k)
    0 ⟨rfl, rfl, rfl, rfl, rfl, trivial⟩ ⟨Nat.zero_le _, s, h, hop, Mod.refl _ _, hE.symm⟩ ?_
  rintro k w3 ⟨hk, sk, h3, op3, m3, e3⟩
  have hl3 := op3.len
  conv => whnf
  refine vcCond_split lok rfl (fun h4 => ?_) (fun h4 => ?_)
  · have h4 := dt h4
    conv => whnf
    have hk3 : k < 3 := by omega
    rw [show 3 - k = (3 - (k + 1)) + 1 by omega, eraseAllF] at e3
    refine vcDraw_meet lok mixed (Ext w3) [6] [0, 1, 2, 3, 4, 5, 7, 6, 8, 9, 10] (fun e : Int => [(11, .int .i64 e)])
      (fun e w' => e = (eraseF sk (sec + k : Nat)).2 ∧ SlAt B w' sb g gw c n (eraseF sk (sec + k : Nat)).1 ∧ FlMod g gw w2 w') [11] (fun _ => rfl) rfl (by kernel_rfl) (fun w4 hw4 => ⟨hw4 ▸ Ext.drew w3, ?_⟩) ?_
    · have x4 : Ext w3 w4 := hw4 ▸ Ext.drew w3
      clear hw4
      have hsb := h3.b
      conv => whnf
      refine ⟨_, fun w' hw' => (hsb.ext hw').cell (i := 0) rfl, ?_⟩
      conv => whnf
      refine Calls.ret (ssector_calls (h3.ext x4) slot hb) ?_
      rintro _ w5 ⟨rfl, hw5⟩
      subst hw5
      refine ⟨_, fun _ h => h, x4, ?_⟩
      conv => whnf
      refine ⟨by omega, ?_⟩
      conv => whnf
      rw [← hsec, show (sec : Int) + (k : Int) = ((sec + k : Nat) : Int) by omega]
      refine Calls.ret (erase_calls (h3.f.ext x4) ((sec + k : Nat) : Int) (by omega) (op3.ok (by omega))) ?_
      rintro _ w6 ⟨rfl, f6, m6⟩
      conv => whnf
      exact ⟨_, ⟨rfl, trivial⟩, rfl, (h3.ext x4).next f6 m6 (eraseF_le sk _).len, (m3.trans (Mod.ofExt _ x4)).trans m6⟩
    rintro e w4 ⟨he, h5, m5⟩
    have hcode := ecode sk (sec + k) (by omega)
    conv => whnf
    refine vcCond_split lok rfl (fun h6 => ?_) (fun h6 => ?_)
    · have h6 := ne_true h6
      rw [he] at h6
      rw [if_neg h6] at e3
      rw [e3]
      rw [if_neg h6]
      conv => whnf
      refine ⟨?_, h5, m5⟩
      rw [he]
      rcases hcode with q | q
      · exact absurd q h6
      · rw [q]
    · have h6 := ne_false h6
      subst h6
      rw [if_pos he.symm] at e3
      conv => whnf
      refine ⟨by omega, ?_⟩
      conv => whnf
      exact ⟨k + 1, ⟨rfl, rfl, rfl, rfl, rfl, trivial⟩, ⟨by omega, _, h5, (op3.erase _).up (by omega), m5, e3⟩, by omega⟩
  · have h4 := df h4
    conv => whnf
    have hk3 : k = 3 := by omega
    subst hk3
    rw [show 3 - 3 = 0 from rfl, eraseAllF] at e3
    rw [e3, if_pos rfl]
    have hm2 := h2.2.2
    intro y hz
    have hz52 : y = ((BitVec.ofInt 32 m).toNat : Int) := by rw [hz, wu32, BitVec.toNat_ofInt]; omega
    clear hz
    subst hz52
    conv => whnf
    have g5 := run_buildN (P := Try.prog) (t := 37) (e := 42) e32.toElem [u32v v, u32v (BitVec.ofInt 32 m), u32v 0#32] (by simp [u32v, Value.oneCell']) (by simp) w3
    refine ⟨_, _, g5, ?_⟩
    have ho5 := own_lit (w := w3) [v, BitVec.ofInt 32 m, 0#32] (by simp)
    have x5 : Ext w3 (w3.alloc (.cells ([v, BitVec.ofInt 32 m, 0#32].map u32v).toArray 42)) := Ext.new _ _
    have hg3 := h3.f.lt
    have g6 := slay_calls (xc := 3) (h3.ext x5) slot hb 0 (xs := [v, BitVec.ofInt 32 m, 0#32]) (fun w' m' => (m'.keepOwn ho5 (fun k hk e => by
      have := (ho5.ge k hk).1
      rcases e with e | e <;> omega)).sl) (by simp) (by rw [hl3]; exact op3) (by omega)
    rw [Nat.add_zero] at g6
    conv => whnf
    refine Calls.ret (g6) ?_
    rintro _ w6 ⟨rfl, h6, m6⟩
    conv => whnf
    exact ⟨rfl, h6, (m3.trans (Mod.ofExt _ x5)).trans m6⟩
end
end Go.Proofs.Ytgipackjnncabaa

/- Walks of layer 22, third part: the head; the chunks that are there; sealed; whole; sealing; bytes. -/
set_option linter.unusedVariables false
namespace Go.Proofs.Ytgipackjnncabaa
open Go.Vc Go.RowKit

/-- what Head tells -/
def headR (s : FS) (n : Nat) (slot : Int) : BitVec 32 × Nat × Bool :=
  match headF s n slot with
  | none => (0#32, 0, false)
  | some (v, m) => (v, m, true)
theorem headR_bad {s : FS} {n : Nat} {slot : Int} (h : checkF s slot ≠ 0) : headR s n slot = (0#32, 0, false) := by
  unfold headR headF
  unfold checkF at h
  by_cases h1 : s.off = true
  · rw [if_pos (.inl h1)]
  · by_cases h2 : badF slot
    · rw [if_pos (.inr h2)]
    · rw [if_neg h1, if_neg h2] at h; exact absurd rfl h
theorem headR_ok {s : FS} {n : Nat} {slot : Int} (h : checkF s slot = 0) : headR s n slot = match headW s.ws (atF n slot) with
    | none => (0#32, 0, false)
    | some (v, m) => (v, m, true) := by
  obtain ⟨h1, h2⟩ := check_zero h
  unfold headR headF
  rw [if_neg (by rw [h1]; simp [h2])]
theorem haveF_eq (s : FS) (n : Nat) (slot : Int) : haveF s n slot = if (headR s n slot).2.2 = true then (haveB s.ws (atF n slot) (headR s n slot).2.1 32, allB s.ws (atF n slot) (headR s n slot).2.1 32) else (0#32, false) := by
  by_cases h : checkF s slot = 0
  · have hc := check_zero h
    rw [headR_ok h]
    unfold haveF haveW
    rw [if_neg (by rw [hc.1]; simp [hc.2])]
    cases headW s.ws (atF n slot) with
    | none => rfl
    | some x => rfl
  · rw [headR_bad h]
    unfold haveF
    rw [if_pos]
    · rfl
    · unfold checkF at h
      by_cases h1 : s.off = true
      · exact .inl h1
      · by_cases h2 : badF slot
        · exact .inr h2
        · rw [if_neg h1, if_neg h2] at h; exact absurd rfl h
theorem headR_size (s : FS) (n : Nat) (slot : Int) : (headR s n slot).2.1 ≤ 2048 := by
  by_cases h : checkF s slot = 0
  · rw [headR_ok h]
    split
    · exact Nat.zero_le _
    · rename_i v m hm
      have := (headW_size hm).1.2.2.2
      show m ≤ 2048
      omega
  · rw [headR_bad h]; exact Nat.zero_le _
theorem headR_yes {s : FS} {n : Nat} {slot : Int} (h : (headR s n slot).2.2 = true) : checkF s slot = 0 := by
  by_cases h2 : checkF s slot = 0
  · exact h2
  · rw [headR_bad h2] at h; cases h

theorem shl_one (k : Nat) (hk : k < 32) : IntKind.u32.wrap (1 * 2 ^ (min (k : Int).toNat IntKind.u32.bits)) = ((2 ^ k : Nat) : Int) := by
  have e : min (k : Int).toNat IntKind.u32.bits = k := by
    show min (k : Int).toNat 32 = k
    omega
  have h2 : 2 ^ k < 2 ^ 32 := Nat.pow_lt_pow_right (by decide) hk
  rw [e, wu32, Int.one_mul]
  have e2 : ((2 : Int) ^ k) = ((2 ^ k : Nat) : Int) := by rw [Int.natCast_pow]; rfl
  rw [e2]
  generalize 2 ^ k = m at *
  omega
theorem haveF_yes {s : FS} {n : Nat} {slot : Int} (h : (haveF s n slot).2 = true) : checkF s slot = 0 := by
  rw [haveF_eq] at h
  by_cases h2 : (headR s n slot).2.2 = true
  · exact headR_yes h2
  · rw [if_neg h2] at h; cases h

section
variable {B : Nat} {w : World} {sb g gw c n i : Nat} {s : FS}
set_option maxHeartbeats 1000000 in
/-- Head -/
theorem shead_calls (h : SlAt B w sb g gw c n s) (slot : Int) : Calls Try.prog 128 #[.pointer (some ⟨sb, 0, none⟩), .int .i64 slot] w
    (Ret fun r w' => r = .tuple #[.int .u32 (headR s n slot).1.toNat, .int .i64 (headR s n slot).2.1, .bool (headR s n slot).2.2] ∧ Ext w w') := by
  refine calls_of_vc lok Try.func128 ?_ rfl
  conv => whnf
  refine vcReg_meet lok (fun β : Bool => [(18, .bool β)]) (fun β w' => Ext w w' ∧ β = !decide (checkF s slot = 0 ∧ s.ws.getD (atF n slot + 2) 0#32 = 0#32)) [18] (fun _ => rfl) rfl ?_ ?_
  · conv => whnf
    refine Calls.ret (scheck_calls h slot) ?_
    rintro _ w1 ⟨rfl, hw1⟩
    conv => whnf
    subst hw1
    refine bcase (fun k1 => ?_) (fun k1 => ?_)
    · have k1 := ne_true k1
      conv => whnf
      exact ⟨_, ⟨rfl, trivial⟩, Ext.refl _, by rw [decide_eq_false (fun q => k1 q.1)]; rfl⟩
    have k1 := ne_false k1
    have hz := check_zero k1
    conv => whnf
    refine Calls.ret (sword_calls h slot hz.2 hz.1 2 (by decide) 2 rfl) ?_
    rintro _ w2 ⟨rfl, x2⟩
    conv => whnf
    refine ⟨_, ⟨rfl, trivial⟩, x2, ?_⟩
    congr 1
    rw [decide_eq_decide]
    exact ⟨fun e => ⟨k1, num_zero.1 e⟩, fun q => num_zero.2 q.2⟩
  rintro β w1 ⟨x1, hβ⟩
  have h1 := h.ext x1
  conv => whnf
  refine vcCond_split lok rfl (fun h2 => ?_) (fun h2 => ?_)
  · rw [hβ] at h2
    have h2 : ¬ (checkF s slot = 0 ∧ s.ws.getD (atF n slot + 2) 0#32 = 0#32) := fun q => by rw [decide_eq_true q] at h2; cases h2
    have e : headR s n slot = (0#32, 0, false) := by
      by_cases hc : checkF s slot = 0
      · rw [headR_ok hc, headW_none (.inr fun q => h2 ⟨hc, q⟩)]
      · exact headR_bad hc
    rw [e]
    conv => whnf
    exact ⟨rfl, x1⟩
  rw [hβ] at h2
  have h2 : checkF s slot = 0 ∧ s.ws.getD (atF n slot + 2) 0#32 = 0#32 := by
    by_cases q : checkF s slot = 0 ∧ s.ws.getD (atF n slot + 2) 0#32 = 0#32
    · exact q
    · rw [decide_eq_false q] at h2; cases h2
  have hz := check_zero h2.1
  have er := headR_ok (n := n) h2.1
  unfold headW at er
  conv => whnf
  refine Calls.ret (sword_calls h1 slot hz.2 hz.1 0 (by decide) 0 rfl) ?_
  rintro _ w2 ⟨rfl, x2⟩
  conv => whnf
  refine Calls.ret (sword_calls (h1.ext x2) slot hz.2 hz.1 1 (by decide) 1 rfl) ?_
  rintro _ w3 ⟨rfl, x3⟩
  conv => whnf
  rw [Nat.add_zero]
  generalize s.ws.getD (atF n slot + 1) 0#32 = sz at *
  generalize s.ws.getD (atF n slot) 0#32 = vv at *
  have hlt := sz.isLt
  intro y hz
  have hz13 : y = (sz.toNat : Int) := by rw [hz]; exact wi64 (by omega)
  clear hz
  subst hz13
  conv => whnf
  refine Calls.ret (canBe_calls vv (sz.toNat : Int)) ?_
  rintro _ w4 ⟨rfl, hw4⟩
  conv => whnf
  subst hw4
  have x14 := x1.trans (x2.trans x3)
  refine vcCond_split lok rfl (fun h5 => ?_) (fun h5 => ?_)
  · have h5 : ¬ canN vv sz.toNat := fun q => by rw [decide_eq_true q] at h5; cases h5
    rw [if_neg (fun q => h5 q.2)] at er
    rw [er]
    conv => whnf
    exact ⟨rfl, x14⟩
  · have h5 : canN vv sz.toNat := by
      by_cases q : canN vv sz.toNat
      · exact q
      · rw [decide_eq_false q] at h5; cases h5
    rw [if_pos ⟨h2.2, h5⟩] at er
    rw [er]
    conv => whnf
    exact ⟨rfl, x14⟩

set_option maxHeartbeats 1000000 in
/-- Have -/
theorem shave_calls (h : SlAt B w sb g gw c n s) (slot : Int) : Calls Try.prog 127 #[.pointer (some ⟨sb, 0, none⟩), .int .i64 slot] w
    (Ret fun r w' => r = .tuple #[.int .u32 (haveF s n slot).1.toNat, .bool (haveF s n slot).2] ∧ Ext w w') := by
  rw [haveF_eq]
  have hsz := headR_size s n slot
  have hyes := headR_yes (s := s) (n := n) (slot := slot)
  refine calls_of_vc lok Try.func127 ?_ rfl
  conv => whnf
  refine Calls.ret (shead_calls h slot) ?_
  rintro _ w1 ⟨rfl, x1⟩
  conv => whnf
  generalize headR s n slot = H at *
  obtain ⟨hv, hm, hb⟩ := H
  simp only at hsz hyes
  have h1 := h.ext x1
  conv => whnf
  refine vcCond_split lok rfl (fun h2 => ?_) (fun h2 => ?_)
  · have h2 : hb = false := by simpa using h2
    subst h2
    rw [if_neg (by simp)]
    conv => whnf
    exact ⟨rfl, x1⟩
  have h2 : hb = true := by simpa using h2
  subst h2
  rw [if_pos rfl]
  have hz := check_zero (hyes rfl)
  clear hyes
  conv => whnf
  refine vcLoop_inv lok (σ := Nat)
    (fun k => [(11, .int .i64 k), (9, .int .u32 (haveB s.ws (atF n slot) hm k).toNat), (10, .bool (allB s.ws (atF n slot) hm k)), (7, .int .i64 hm), (0, .pointer (some ⟨sb, 0, none⟩)), (1, .int .i64 slot)])
    (fun k w' => k ≤ 32 ∧ SlAt B w' sb g gw c n s ∧ Ext w w') (fun k => 32 - k)
    0 ⟨rfl, rfl, rfl, rfl, rfl, rfl, trivial⟩ ⟨Nat.zero_le _, h1, x1⟩ ?_
  rintro k w2 ⟨hk, h2, x2⟩
  conv => whnf
  refine ⟨by omega, ?_⟩
  conv => whnf
  refine vcCond_split lok rfl (fun h3 => ?_) (fun h3 => ?_)
  rotate_left
  · have h3 := df h3
    conv => whnf
    have hmk : hm ≤ 64 * k := by omega
    have e1 := haveB_more (ws := s.ws) (p := atF n slot) hmk (32 - k)
    have e2 := allB_more (ws := s.ws) (p := atF n slot) hmk (32 - k)
    rw [show k + (32 - k) = 32 by omega] at e1 e2
    rw [e1, e2]
    exact ⟨rfl, x2⟩
  have h3 := dt h3
  conv => whnf
  have hk32 : k < 32 := by omega
  have ebit : bitB s.ws (atF n slot) hm k = decide (s.ws.getD (atF n slot + 3 + k) 0#32 = 0#32) := by
    unfold bitB
    rw [decide_eq_decide]
    exact ⟨fun q => q.2, fun q => ⟨by omega, q⟩⟩
  have eall : allB s.ws (atF n slot) hm (k + 1) = (allB s.ws (atF n slot) hm k && decide (s.ws.getD (atF n slot + 3 + k) 0#32 = 0#32)) := by
    rw [allB_succ]
    congr 1
    rw [decide_eq_decide]
    exact ⟨fun q => q (by omega), fun q _ => q⟩
  refine ⟨by omega, ?_⟩
  conv => whnf
  refine Calls.ret (sword_calls h2 slot hz.2 hz.1 (3 + k) (by omega) (3 + (k : Int)) (by omega)) ?_
  rintro _ w3 ⟨rfl, x3⟩
  conv => whnf
  rw [← Nat.add_assoc]
  have ed : decide (((s.ws.getD (atF n slot + 3 + k) 0#32).toNat : Int) = 0) = decide (s.ws.getD (atF n slot + 3 + k) 0#32 = 0#32) := decide_eq_decide.2 num_zero
  rw [ed]
  refine vcReg_meet lok (fun β : Bool => [(10, .bool β)]) (fun β w' => w' = w3 ∧ β = allB s.ws (atF n slot) hm (k + 1)) [10] (fun _ => rfl) rfl ?_ ?_
  · conv => whnf
    rw [eall]
    refine bcase (fun k4 => ?_) (fun k4 => ?_)
    · conv => whnf
      exact ⟨_, ⟨rfl, trivial⟩, rfl, by rw [k4]; rfl⟩
    · conv => whnf
      exact ⟨_, ⟨rfl, trivial⟩, rfl, by rw [k4]; rfl⟩
  rintro β w4 ⟨hw4, hβ⟩
  subst hw4
  subst hβ
  have ehave : haveB s.ws (atF n slot) hm (k + 1) = haveB s.ws (atF n slot) hm k ||| (if bitB s.ws (atF n slot) hm k = true then BitVec.twoPow 32 k else 0#32) := rfl
  rw [ebit] at ehave
  conv => whnf
  refine vcCond_meet (fun _ : Unit => [(9, .int .u32 (haveB s.ws (atF n slot) hm (k + 1)).toNat), (11, .int .i64 k), (10, .bool (allB s.ws (atF n slot) hm (k + 1))), (7, .int .i64 hm), (0, .pointer (some ⟨sb, 0, none⟩)), (1, .int .i64 slot)])
    (fun _ w' => w' = w4) ?_ ?_
  · refine vcCond_split lok rfl (fun h5 => ?_) (fun h5 => ?_)
    · rw [h5, if_pos rfl] at ehave
      rw [ehave]
      conv => whnf
      intro y hz
      have hz37 : y = (k : Int) := by rw [hz, wu64]; omega
      clear hz
      subst hz37
      conv => whnf
      refine ⟨by omega, ?_⟩
      intro y2 hz
      have hz38 : y2 = ((BitVec.twoPow 32 k).toNat : Int) := by rw [hz, pow_nat k hk32]; exact shl_one k hk32
      clear hz
      subst hz38
      conv => whnf
      intro y3 hz
      have hz39 : y3 = ((haveB s.ws (atF n slot) hm k ||| BitVec.twoPow 32 k).toNat : Int) := by rw [hz]; exact or32 _ _
      clear hz
      subst hz39
      conv => whnf
      exact ⟨(), ⟨rfl, rfl, rfl, rfl, rfl, rfl, trivial⟩, rfl⟩
    · rw [h5, if_neg (by simp), BitVec.or_zero] at ehave
      rw [ehave]
      conv => whnf
      exact ⟨(), ⟨rfl, rfl, rfl, rfl, rfl, rfl, trivial⟩, rfl⟩
  rintro ⟨⟩ w5 hw5
  subst hw5
  conv => whnf
  refine ⟨by omega, ?_⟩
  conv => whnf
  exact ⟨k + 1, ⟨rfl, rfl, rfl, rfl, rfl, rfl, trivial⟩, ⟨by omega, h2.ext x3, x2.trans x3⟩, by omega⟩
end
end Go.Proofs.Ytgipackjnncabaa

/- Walks of layer 22, fourth part: sealed; whole; sealing; bytes; a chunk written; opened; the fixed calls. -/
set_option linter.unusedVariables false
namespace Go.Proofs.Ytgipackjnncabaa
open Go.Vc Go.RowKit

theorem whole_head {s : FS} {n : Nat} {slot : Int} (h : checkF s slot = 0) : wholeSF s n slot = if (headR s n slot).2.2 = true then (if (haveF s n slot).2 = true then ((headR s n slot).2.1, 0) else (0, 2)) else (0, 8) := by
  have hc := check_zero h
  have eh : haveF s n slot = haveW s.ws (atF n slot) := by unfold haveF; rw [if_neg (by rw [hc.1]; simp [hc.2])]
  unfold wholeSF
  rw [headR_ok h, if_neg (fun q => q h), eh]
  cases headW s.ws (atF n slot) with
  | none => rfl
  | some x => rfl

section
variable {B : Nat} {w : World} {sb g gw c n i : Nat} {s : FS}
/-- Sealed -/
theorem ssealed_calls (h : SlAt B w sb g gw c n s) (slot : Int) : Calls Try.prog 130 #[.pointer (some ⟨sb, 0, none⟩), .int .i64 slot] w (Ret fun r w' => r = .bool (sealedF s n slot) ∧ Ext w w') := by
  have hyes := haveF_yes (s := s) (n := n) (slot := slot)
  unfold sealedF
  refine calls_of_vc lok Try.func130 ?_ rfl
  conv => whnf
  refine Calls.ret (shave_calls h slot) ?_
  rintro _ w1 ⟨rfl, x1⟩
  conv => whnf
  generalize haveF s n slot = H at *
  refine vcReg_go lok ?_
  conv => whnf
  refine bcase (fun k => ?_) (fun k => ?_)
  · have hz := check_zero (hyes k)
    conv => whnf
    refine Calls.ret (sword_calls (h.ext x1) slot hz.2 hz.1 35 (by decide) 35 rfl) ?_
    rintro _ w2 ⟨rfl, x2⟩
    conv => whnf
    refine ⟨?_, x1.trans x2⟩
    rw [k, Bool.true_and]
    congr 1
    exact decide_eq_decide.2 num_zero
  · conv => whnf
    exact ⟨by rw [k]; rfl, x1⟩

/-- whole -/
theorem swhole_calls (h : SlAt B w sb g gw c n s) (slot : Int) : Calls Try.prog 150 #[.pointer (some ⟨sb, 0, none⟩), .int .i64 slot] w
    (Ret fun r w' => r = .tuple #[.int .i64 (wholeSF s n slot).1, .int .i64 (wholeSF s n slot).2] ∧ Ext w w') := by
  refine calls_of_vc lok Try.func150 ?_ rfl
  conv => whnf
  refine Calls.ret (scheck_calls h slot) ?_
  rintro _ w1 ⟨rfl, hw1⟩
  conv => whnf
  subst hw1
  refine vcCond_split lok rfl (fun h1 => ?_) (fun h1 => ?_)
  · have h1 := ne_true h1
    have e : wholeSF s n slot = (0, checkF s slot) := by unfold wholeSF; rw [if_pos h1]
    rw [e]
    conv => whnf
    exact ⟨rfl, Ext.refl _⟩
  have h1 := ne_false h1
  rw [whole_head h1]
  conv => whnf
  refine Calls.ret (shead_calls h slot) ?_
  rintro _ w2 ⟨rfl, x2⟩
  conv => whnf
  generalize headR s n slot = H at *
  refine vcCond_split lok rfl (fun h3 => ?_) (fun h3 => ?_)
  · have h3 : H.2.2 = false := by simpa using h3
    rw [if_neg (by rw [h3]; simp)]
    conv => whnf
    exact ⟨rfl, x2⟩
  have h3 : H.2.2 = true := by simpa using h3
  rw [if_pos h3]
  conv => whnf
  refine Calls.ret (shave_calls (h.ext x2) slot) ?_
  rintro _ w3 ⟨rfl, x3⟩
  conv => whnf
  have x13 := x2.trans x3
  generalize haveF s n slot = V at *
  refine vcCond_split lok rfl (fun h4 => ?_) (fun h4 => ?_)
  · have h4 : V.2 = false := by simpa using h4
    rw [if_neg (by rw [h4]; simp)]
    conv => whnf
    exact ⟨rfl, x13⟩
  · have h4 : V.2 = true := by simpa using h4
    rw [if_pos h4]
    conv => whnf
    exact ⟨rfl, x13⟩

theorem one_zero (w : World) : ∃ w', (Instr.buildSlice 37 1 #[(0, .int .u32 0)]).run Try.prog w = .ok (.slice (some ⟨w.heap.size, 0, none⟩) 1 1) w' ∧ Own 42 u32v w.heap.size w' (some ⟨w.heap.size, 0, none⟩) 1 [0#32] ∧ Ext w w' := by
  have g := run_buildN (P := Try.prog) (t := 37) (e := 42) e32.toElem [u32v 0#32] (by simp [u32v, Value.oneCell']) (by simp) w
  exact ⟨_, g, own_lit (w := w) [0#32] (by simp), Ext.new _ _⟩
theorem progAll_one (s : FS) (a : Int) (h0 : 0 ≤ a) (h1 : a < s.ws.length) (x : BitVec 32) : progAllF s a [x] = progF s a x := by
  have hc := progF_code (s := s) (i := a) (x := x) h0 h1
  unfold progAllF
  rcases hc with e | e
  · rw [if_pos e]
    unfold progAllF
    rw [← e]
  · rw [if_neg (by rw [e]; decide), ← e]

/-- Seal -/
theorem sseal_calls (h : SlAt B w sb g gw c n s) (slot : Int) (hop : Num s s.ws.length i) (hi : i ≤ 2305843009213693952) : Calls Try.prog 129 #[.pointer (some ⟨sb, 0, none⟩), .int .i64 slot] w
    (Ret fun r w' => r = .int .i64 (sealSF s n slot).2 ∧ SlAt B w' sb g gw c n (sealSF s n slot).1 ∧ FlMod g gw w w') := by
  have hr := h.room
  have hw : (wholeSF s n slot).2 = 0 → checkF s slot = 0 := by
    intro q
    unfold wholeSF at q
    by_cases hc : checkF s slot = 0
    · exact hc
    · rw [if_pos hc] at q; exact q
  unfold sealSF
  refine calls_of_vc lok Try.func129 ?_ rfl
  conv => whnf
  refine Calls.ret (swhole_calls h slot) ?_
  rintro _ w1 ⟨rfl, x1⟩
  conv => whnf
  refine vcCond_split lok rfl (fun h1 => ?_) (fun h1 => ?_)
  · have h1 := ne_true h1
    rw [if_neg h1]
    conv => whnf
    exact ⟨rfl, h.ext x1, Mod.ofExt _ x1⟩
  have h1 := ne_false h1
  rw [if_pos h1]
  have hz := check_zero (hw h1)
  have hp := atF_le hz.2 hr
  conv => whnf
  have g2 := one_zero w1
  obtain ⟨w2, hr2, ho2, x2⟩ := g2
  refine ⟨_, _, hr2, ?_⟩
  have x12 := x1.trans x2
  have hlt := (h.ext x1).f.lt
  have g3 := slay_calls (xc := 1) (h.ext x12) slot hz.2 35 (xs := [0#32]) (fun w' m' => (m'.keepOwn ho2 (fun k hk e => by
      have := (ho2.ge k hk).1
      rcases e with e | e <;> omega)).sl) (by simp) hop hi
  rw [progAll_one _ _ (by omega) (by omega)] at g3
  conv => whnf
  refine Calls.ret (g3) ?_
  rintro _ w3 ⟨rfl, h3, m3⟩
  conv => whnf
  exact ⟨rfl, h3, (Mod.ofExt _ x12).trans m3⟩

set_option maxHeartbeats 1000000 in
/-- Bytes -/
theorem sbytes_calls (h : SlAt B w sb g gw c n s) (slot : Int) : Calls Try.prog 89 #[.pointer (some ⟨sb, 0, none⟩), .int .i64 slot] w
    (Ret fun r w' => ∃ a c, r = .tuple #[.slice a (bytesSF s n slot).1.length c, .int .i64 (bytesSF s n slot).2] ∧ Own 5 u8v w.heap.size w' a c (bytesSF s n slot).1 ∧ Ext w w') := by
  have hr := h.room
  have hw : (wholeSF s n slot).2 = 0 → checkF s slot = 0 := by
    intro q
    unfold wholeSF at q
    by_cases hc : checkF s slot = 0
    · exact hc
    · rw [if_pos hc] at q; exact q
  have hsz := headR_size s n slot
  have hm : (wholeSF s n slot).1 ≤ 2048 := by
    by_cases hc : checkF s slot = 0
    · rw [whole_head hc]
      split
      · split
        · exact hsz
        · exact Nat.zero_le _
      · exact Nat.zero_le _
    · unfold wholeSF; rw [if_pos hc]; exact Nat.zero_le _
  unfold bytesSF
  refine calls_of_vc lok Try.func89 ?_ rfl
  conv => whnf
  refine Calls.ret (swhole_calls h slot) ?_
  rintro _ w1 ⟨rfl, x1⟩
  conv => whnf
  refine vcCond_split lok rfl (fun h1 => ?_) (fun h1 => ?_)
  · have h1 := ne_true h1
    rw [if_neg h1]
    conv => whnf
    exact ⟨none, 0, rfl, Own.nil _ _ _ _, x1⟩
  have h1 := ne_false h1
  rw [if_pos h1]
  have hz := check_zero (hw h1)
  have hp := atF_le hz.2 hr
  clear hw hsz
  generalize (wholeSF s n slot).1 = m at *
  have gp : ∃ p, p = atF n slot + 256 := ⟨_, rfl⟩
  obtain ⟨p, hp0⟩ := gp
  rw [← hp0]
  conv => whnf
  refine vcLoop_inv lok (σ := Nat × Option Addr × Nat)
    (fun ⟨k, a, c⟩ => [(9, .int .i64 k), (8, .slice a (sliceF s.ws p k).length c), (6, .int .i64 m), (0, .pointer (some ⟨sb, 0, none⟩)), (1, .int .i64 slot)])
    (fun ⟨k, a, c⟩ w' => k ≤ (m + 3) / 4 ∧ Own 42 u32v w.heap.size w' a c (sliceF s.ws p k) ∧ Ext w w') (fun t => 2048 - t.1)
    (0, none, 0) ⟨rfl, rfl, rfl, rfl, rfl, trivial⟩ ⟨Nat.zero_le _, Own.nil _ _ _ _, x1⟩ ?_
  rintro ⟨k, a2, c2⟩ w2 ⟨hk, ho2, x2⟩
  have hkl : (sliceF s.ws p k).length = k := by unfold sliceF; rw [List.length_take, List.length_drop]; omega
  conv => whnf
  refine ⟨by omega, ?_⟩
  conv => whnf
  refine vcCond_split lok rfl (fun h3 => ?_) (fun h3 => ?_)
  · have h3 := dt h3
    conv => whnf
    refine ⟨by omega, ?_⟩
    conv => whnf
    refine Calls.ret (sword_calls (h.ext x2) slot hz.2 hz.1 (256 + k) (by omega) (256 + (k : Int)) (by omega)) ?_
    rintro _ w3 ⟨rfl, x3⟩
    conv => whnf
    rw [← Nat.add_assoc, ← hp0]
    have g4 := run_buildN (P := Try.prog) (t := 37) (e := 42) e32.toElem [u32v (s.ws.getD (p + k) 0#32)] (by simp [u32v, Value.oneCell']) (by simp) w3
    refine ⟨_, _, g4, ?_⟩
    have ho4 := own_lit (w := w3) [s.ws.getD (p + k) 0#32] (by simp)
    have x4 : Ext w3 (w3.alloc (.cells ([s.ws.getD (p + k) 0#32].map u32v).toArray 42)) := Ext.new _ _
    have z2 := x2.size
    have z3 := x3.size
    have z4 := x4.size
    conv => whnf
    have g7 := run_app (ty := 37) (d := 1) ((ho2.ext x3).ext x4) ho4.sl (by simp; omega) (by omega)
    obtain ⟨a7, c7, w7, hr7, ho7, hg7⟩ := g7
    refine ⟨_, _, hr7, ?_⟩
    have x7 : Ext w w7 := hg7.extOf (x2.trans (x3.trans x4)) (fun g hg => (ho2.ge g hg).1)
    have es : sliceF s.ws p k ++ [s.ws.getD (p + k) 0#32] = sliceF s.ws p (k + 1) := by
      unfold sliceF
      have hi : k < (s.ws.drop p).length := by rw [List.length_drop]; omega
      rw [List.take_succ_eq_append_getElem hi, List.getElem_drop]
      simp [List.getD, List.getElem?_eq_getElem (show p + k < s.ws.length by omega)]
    rw [es] at ho7 ⊢
    conv => whnf
    refine ⟨by omega, ?_⟩
    conv => whnf
    exact ⟨(k + 1, a7, c7), ⟨rfl, rfl, rfl, rfl, rfl, trivial⟩, ⟨by omega, ho7, x7⟩, by show 2048 - (k + 1) < 2048 - k; omega⟩
  · have h3 := df h3
    conv => whnf
    have hkm : k = (m + 3) / 4 := by omega
    rw [← hkm]
    refine Calls.ret (bytes_calls ho2.sl (by omega)) ?_
    rintro _ w3 ⟨a3, c3, rfl, ho3, x3⟩
    conv => whnf
    have hbl := bytesF_len (sliceF s.ws p k)
    have hc3 := ho3.le
    refine ⟨⟨by omega, by omega⟩, ?_⟩
    rw [Int.toNat_natCast]
    have hst := ho3.sl.take m
    have htl : ((bytesF (sliceF s.ws p k)).take m).length = m := by rw [List.length_take]; omega
    have z2 := x2.size
    have z3 := x3.size
    generalize (bytesF (sliceF s.ws p k)).take m = bs at *
    rw [show m = bs.length from htl.symm]
    conv => whnf
    have g5 := (Own.nil 5 u8v w.heap.size w3).append (ty := 22) (d := c3) e8.toElem (fun _ => rfl) hst (by simp; omega) (by omega)
    obtain ⟨a5, c5, w5, hr5, ho5, hg5, _⟩ := g5
    rw [List.nil_append] at hr5 ho5
    refine ⟨_, _, hr5, ?_⟩
    exact ⟨a5, c5, rfl, ho5, x2.trans (x3.trans (Gr.ext hg5))⟩
end
end Go.Proofs.Ytgipackjnncabaa

/- Walks of layer 22, fifth part: a chunk written; slots opened; none. -/
set_option linter.unusedVariables false
namespace Go.Proofs.Ytgipackjnncabaa
open Go.Vc Go.RowKit

/-- long -/
theorem slong_calls {w : World} (m k : Nat) (hm : m ≤ 2048) (hk : 64 * k < m) : Calls Try.prog 175 #[.int .i64 m, .int .i64 k] w (Ret fun r w' => r = .int .i64 (lenC m k) ∧ w' = w) := by
  refine calls_of_vc lok Try.func175 ?_ rfl
  conv => whnf
  refine ⟨by omega, ?_⟩
  conv => whnf
  refine ⟨by omega, ?_⟩
  conv => whnf
  refine ⟨?_, rfl⟩
  congr 1
  unfold lenC
  split <;> omega

section
variable {B : Nat} {w : World} {sb g gw c n i : Nat} {s : FS}
set_option maxHeartbeats 4000000 in
/-- Write -/
theorem swrite_calls (h : SlAt B w sb g gw c n s) (slot chunk : Int) {ba : Option Addr} {bc : Nat} {b : List (BitVec 8)} (hb : Sl u8v w ba b) (hbl : b.length ≤ 9223372036854775807) (hop : Num s s.ws.length i) (hi : i ≤ 1152921504606846976) :
    Calls Try.prog 125 #[.pointer (some ⟨sb, 0, none⟩), .int .i64 slot, .int .i64 chunk, .slice ba b.length bc] w
      (Ret fun r w' => r = .int .i64 (writeSF s n slot chunk b).2 ∧ SlAt B w' sb g gw c n (writeSF s n slot chunk b).1 ∧ FlMod g gw w w') := by
  have hr := h.room
  have hsm := h.small
  have hlt := h.f.lt
  refine calls_of_vc lok Try.func125 ?_ rfl
  conv => whnf
  refine Calls.ret (scheck_calls h slot) ?_
  rintro _ w1 ⟨rfl, hw1⟩
  conv => whnf
  subst hw1
  refine vcCond_split lok rfl (fun h1 => ?_) (fun h1 => ?_)
  · have h1 := ne_true h1
    have e : writeSF s n slot chunk b = (s, checkF s slot) := by unfold writeSF; rw [if_pos h1]
    rw [e]
    conv => whnf
    exact ⟨rfl, h, Mod.refl _ _⟩
  have h1 := ne_false h1
  have hz := check_zero h1
  have hp := atF_le hz.2 hr
  have hh := headR_ok (n := n) h1
  have ew : writeSF s n slot chunk b = match headW s.ws (atF n slot) with
      | none => (s, 8)
      | some (_, m) =>
        if ¬ (0 ≤ chunk ∧ chunk < 32 ∧ 64 * chunk < m ∧ b.length = lenC m chunk.toNat) then (s, 1)
        else if sealedF s n slot = true then (s, 25)
        else if s.ws.getD (atF n slot + 3 + chunk.toNat) 0#32 = 0#32 then (s, 0)
        else if (progAllF s ((atF n slot + 256 + 16 * chunk.toNat : Nat) : Int) (wordsF b)).2 = 0 then
          if sliceF (progAllF s ((atF n slot + 256 + 16 * chunk.toNat : Nat) : Int) (wordsF b)).1.ws (atF n slot + 256 + 16 * chunk.toNat) (wordsF b).length = wordsF b then
            progF (progAllF s ((atF n slot + 256 + 16 * chunk.toNat : Nat) : Int) (wordsF b)).1 ((atF n slot + 3 + chunk.toNat : Nat) : Int) 0#32
          else ((progAllF s ((atF n slot + 256 + 16 * chunk.toNat : Nat) : Int) (wordsF b)).1, 4)
        else ((progAllF s ((atF n slot + 256 + 16 * chunk.toNat : Nat) : Int) (wordsF b)).1, 7) := by
    unfold writeSF; rw [if_neg (fun q => q h1)]; rfl
  conv => whnf
  refine Calls.ret (shead_calls h slot) ?_
  rintro _ w2 ⟨rfl, x2⟩
  conv => whnf
  cases hW : headW s.ws (atF n slot) with
  | none =>
    rw [hW] at ew hh
    have e1 := congrArg Prod.fst hh
    have e2 := congrArg (fun x => x.2.1) hh
    have e3 := congrArg (fun x => x.2.2) hh
    dsimp only at ew e1 e2 e3
    rw [e1, e2, e3]
    rw [ew]
    refine vcCond_true lok (rfl) ?_
    conv => whnf
    exact ⟨rfl, h.ext x2, Mod.ofExt _ x2⟩
  | some vm =>
  obtain ⟨v, m⟩ := vm
  have hcan := (headW_size hW).1
  have hm0 : 1 ≤ m ∧ m ≤ 2048 := by have := hcan.2.2; simp only at this; omega
  rw [hW] at ew hh
  have e1 := congrArg Prod.fst hh
  have e2 := congrArg (fun x => x.2.1) hh
  have e3 := congrArg (fun x => x.2.2) hh
  dsimp only at ew e1 e2 e3
  rw [e1, e2, e3]
  clear hh hcan hW e1 e2 e3
  refine vcCond_false lok (rfl) ?_
  conv => whnf
  refine vcReg_meet lok (fun β : Bool => [(34, .bool β)]) (fun β w' => w' = w2 ∧ β = !decide (0 ≤ chunk ∧ chunk < 32 ∧ 64 * chunk < m ∧ b.length = lenC m chunk.toNat)) [34] (fun _ => rfl) rfl ?_ ?_
  · conv => whnf
    refine bcase (fun k1 => ?_) (fun k1 => ?_)
    · have k1 := dt k1
      conv => whnf
      exact ⟨_, ⟨rfl, trivial⟩, rfl, by rw [decide_eq_false (by omega)]; rfl⟩
    have k1 := df k1
    conv => whnf
    refine bcase (fun k2 => ?_) (fun k2 => ?_)
    · have k2 := dt k2
      conv => whnf
      exact ⟨_, ⟨rfl, trivial⟩, rfl, by rw [decide_eq_false (by omega)]; rfl⟩
    have k2 := df k2
    conv => whnf
    refine ⟨by omega, ?_⟩
    conv => whnf
    refine bcase (fun k3 => ?_) (fun k3 => ?_)
    · have k3 := dt k3
      conv => whnf
      exact ⟨_, ⟨rfl, trivial⟩, rfl, by rw [decide_eq_false (by omega)]; rfl⟩
    have k3 := df k3
    conv => whnf
    obtain ⟨k, rfl⟩ := Int.eq_ofNat_of_zero_le (show 0 ≤ chunk by omega)
    refine Calls.ret (slong_calls m k hm0.2 (by omega)) ?_
    rintro _ w3 ⟨rfl, rfl⟩
    conv => whnf
    refine ⟨_, ⟨rfl, trivial⟩, rfl, ?_⟩
    congr 1
    rw [decide_eq_decide]
    exact ⟨fun e => ⟨by omega, by omega, by omega, by rw [Int.toNat_natCast]; omega⟩, fun q => by have := q.2.2.2; rw [Int.toNat_natCast] at this; omega⟩
  rintro β w3 ⟨hw3, hβ⟩
  subst hw3
  conv => whnf
  refine vcCond_split lok rfl (fun h2 => ?_) (fun h2 => ?_)
  · rw [hβ] at h2
    have h2 : ¬ (0 ≤ chunk ∧ chunk < 32 ∧ 64 * chunk < m ∧ b.length = lenC m chunk.toNat) := fun q => by rw [decide_eq_true q] at h2; cases h2
    rw [if_pos h2] at ew
    rw [ew]
    conv => whnf
    exact ⟨rfl, h.ext x2, Mod.ofExt _ x2⟩
  rw [hβ] at h2
  have h2 : 0 ≤ chunk ∧ chunk < 32 ∧ 64 * chunk < m ∧ b.length = lenC m chunk.toNat := by
    by_cases q : 0 ≤ chunk ∧ chunk < 32 ∧ 64 * chunk < m ∧ b.length = lenC m chunk.toNat
    · exact q
    · rw [decide_eq_false q] at h2; cases h2
  clear hβ
  rw [if_neg (fun q => q h2)] at ew
  obtain ⟨k, rfl⟩ := Int.eq_ofNat_of_zero_le h2.1
  rw [Int.toNat_natCast] at ew h2
  obtain ⟨_, hk32, hkm, hblen⟩ := h2
  have hk32 : k < 32 := by omega
  have hlc := lenC_le m k
  have hwl : (wordsF b).length ≤ 16 := by rw [wordsF_len]; omega
  conv => whnf
  refine Calls.ret (ssealed_calls (h.ext x2) slot) ?_
  rintro _ w4 ⟨rfl, x4⟩
  conv => whnf
  have x14 := x2.trans x4
  refine vcCond_split lok rfl (fun h3 => ?_) (fun h3 => ?_)
  · rw [if_pos h3] at ew
    rw [ew]
    conv => whnf
    exact ⟨rfl, h.ext x14, Mod.ofExt _ x14⟩
  rw [h3, if_neg Bool.false_ne_true] at ew
  conv => whnf
  refine ⟨by omega, ?_⟩
  conv => whnf
  refine Calls.ret (sword_calls (h.ext x14) slot hz.2 hz.1 (3 + k) (by omega) (3 + (k : Int)) (by omega)) ?_
  rintro _ w5 ⟨rfl, x5⟩
  conv => whnf
  rw [← Nat.add_assoc]
  have x15 := x14.trans x5
  refine vcCond_split lok rfl (fun h4 => ?_) (fun h4 => ?_)
  · have h4 := num_zero.1 (dt h4)
    rw [if_pos h4] at ew
    rw [ew]
    conv => whnf
    exact ⟨rfl, h.ext x15, Mod.ofExt _ x15⟩
  have h4 := fun e => df h4 (num_zero.2 e)
  rw [if_neg h4] at ew
  conv => whnf
  refine Calls.ret (words_calls (hb.ext x15) (by omega)) ?_
  rintro _ w6 ⟨a6, c6, rfl, ho6, x6⟩
  conv => whnf
  have x16 := x15.trans x6
  have z15 := x15.size
  refine ⟨by omega, ?_⟩
  conv => whnf
  refine ⟨by omega, ?_⟩
  conv => whnf
  rw [show (256 : Int) + (k : Int) * 16 = ((256 + 16 * k : Nat) : Int) by omega]
  have gS : ∀ {w'}, FlMod g gw w6 w' → Own 42 u32v w5.heap.size w' a6 c6 (wordsF b) := fun m' => m'.keepOwn ho6 (fun q hq e => by
      have := (ho6.ge q hq).1
      rcases e with e | e <;> omega)
  have g7 := slay_calls (xc := c6) (h.ext x16) slot hz.2 (256 + 16 * k) (xs := wordsF b) (fun w' m' => (gS m').sl) (by omega) hop (by omega)
  rw [← Nat.add_assoc] at g7
  have hpa := progAll_cases (wordsF b) s (atF n slot + 256 + 16 * k) hz.1 (by omega)
  have nums := Num.all (wordsF b) s i ((atF n slot + 256 + 16 * k : Nat) : Int) hop
  have gA : ∃ A, A = progAllF s ((atF n slot + 256 + 16 * k : Nat) : Int) (wordsF b) := ⟨_, rfl⟩
  obtain ⟨A, hA⟩ := gA
  rw [← hA] at g7 hpa nums ew
  clear hA
  conv => whnf
  refine Calls.ret (g7) ?_
  rintro _ w7 ⟨rfl, h7, m7⟩
  conv => whnf
  have m17 := (Mod.ofExt (fun k => k = g ∨ k = gw) x16).trans m7
  have ho7 := gS m7
  refine vcCond_split lok rfl (fun h5 => ?_) (fun h5 => ?_)
  · have h5 := ne_true h5
    rw [if_neg h5] at ew
    rw [ew]
    conv => whnf
    refine ⟨?_, h7, m17⟩
    rcases hpa with ⟨t, e, _⟩ | ⟨t, j, e, _⟩
    · rw [e] at h5; exact absurd rfl h5
    · rw [e]
  have h5 := ne_false h5
  rw [if_pos h5] at ew
  have hoff : A.1.off = false := by
    rcases hpa with ⟨t, e, _, e3, _⟩ | ⟨t, j, e, _⟩
    · rw [e]; exact e3
    · rw [e] at h5; cases h5
  clear hpa g7
  have gat : ∃ a, a = atF n slot + 256 + 16 * k := ⟨_, rfl⟩
  obtain ⟨a, ha⟩ := gat
  rw [← ha] at ew
  have hlen7 := nums.len
  have hloc : ∀ j, j < (wordsF b).length → (sliceF A.1.ws a (wordsF b).length).getD j 0#32 = A.1.ws.getD (a + j) 0#32 := fun j hj => by
    unfold sliceF; rw [take_get0 _ _ _ hj, drop_get0]
  have hsll : (sliceF A.1.ws a (wordsF b).length).length = (wordsF b).length := by unfold sliceF; rw [List.length_take, List.length_drop]; omega
  conv => whnf
  refine vcLoop_inv lok (σ := Nat)
    (fun j => [(81, .int .i64 j), (79, .slice a6 (wordsF b).length c6), (80, .int .i64 (wordsF b).length), (14, .int .i64 (256 + 16 * k : Nat)), (0, .pointer (some ⟨sb, 0, none⟩)), (1, .int .i64 slot), (2, .int .i64 k)])
    (fun j w' => j ≤ (wordsF b).length ∧ Ext w7 w' ∧ ∀ l, l < j → A.1.ws.getD (a + l) 0#32 = (wordsF b).getD l 0#32) (fun j => (wordsF b).length - j)
    0 ⟨rfl, rfl, rfl, rfl, rfl, rfl, rfl, trivial⟩ ⟨Nat.zero_le _, Ext.refl _, fun l hl => absurd hl (Nat.not_lt_zero _)⟩ ?_
  rintro j w8 ⟨hj, x8, hall⟩
  conv => whnf
  refine vcCond_split lok rfl (fun h6 => ?_) (fun h6 => ?_)
  · have h6 := dt h6
    conv => whnf
    have hjl : j < (wordsF b).length := by omega
    have g45 := sl_get ((ho7.ext x8).sl) ((j : Int)) (j) (by omega) (by omega)
    obtain ⟨p45, o45, ha45, hb45, hcell45⟩ := g45
    refine ⟨p45, o45, ha45, hb45, ?_⟩
    conv => whnf
    refine ⟨_, hcell45, ?_⟩
    conv => whnf
    refine ⟨by omega, ?_⟩
    conv => whnf
    refine Calls.ret (sword_calls (h7.ext x8) slot hz.2 hoff (256 + 16 * k + j) (by omega) (((256 + 16 * k : Nat) : Int) + (j : Int)) (by omega)) ?_
    rintro _ w9 ⟨rfl, x9⟩
    conv => whnf
    rw [show atF n slot + (256 + 16 * k + j) = a + j by omega]
    refine vcCond_split lok rfl (fun h8 => ?_) (fun h8 => ?_)
    · have h8 := ne_true h8
      have hne : ¬ sliceF A.1.ws a (wordsF b).length = wordsF b := by
        intro e
        have := hloc j hjl
        rw [e] at this
        exact h8 (by rw [this])
      rw [if_neg hne] at ew
      rw [ew]
      conv => whnf
      exact ⟨rfl, h7.ext (x8.trans x9), m17.trans (Mod.ofExt _ (x8.trans x9))⟩
    · have h8 := int_eq.1 (ne_false h8)
      conv => whnf
      refine ⟨by omega, ?_⟩
      conv => whnf
      refine ⟨j + 1, ⟨rfl, rfl, rfl, rfl, rfl, rfl, rfl, trivial⟩, ⟨by omega, x8.trans x9, fun l hl => ?_⟩, by omega⟩
      by_cases e : l = j
      · subst e; exact h8
      · exact hall l (by omega)
  · have h6 := df h6
    conv => whnf
    have heq : sliceF A.1.ws a (wordsF b).length = wordsF b := by
      apply ext0 hsll
      intro l hl
      rw [hsll] at hl
      rw [hloc l hl]
      exact hall l (by omega)
    rw [if_pos heq] at ew
    refine ⟨by omega, ?_⟩
    conv => whnf
    have g9 := one_zero w8
    obtain ⟨w9, hr9, ho9, x9⟩ := g9
    refine ⟨_, _, hr9, ?_⟩
    have x79 := x8.trans x9
    have hlt8 := (h7.ext x8).f.lt
    have hl7 := h7.small
    rw [show (3 : Int) + (k : Int) = ((3 + k : Nat) : Int) by omega]
    have g10 := slay_calls (xc := 1) (h7.ext x79) slot hz.2 (3 + k) (xs := [0#32]) (fun w' m' => (m'.keepOwn ho9 (fun q hq e => by
        have := (ho9.ge q hq).1
        rcases e with e | e <;> omega)).sl) (by simp; omega) (by rw [hlen7]; exact nums) (by omega)
    rw [progAll_one _ _ (by omega) (by omega), ← Nat.add_assoc] at g10
    rw [ew]
    conv => whnf
    refine Calls.ret (g10) ?_
    rintro _ w11 ⟨rfl, h11, m11⟩
    conv => whnf
    exact ⟨rfl, h11, m17.trans ((Mod.ofExt _ x79).trans m11)⟩

/-- Open -/
theorem sopen_calls (f : FlAt 181 B w g gw c s) (hl : s.ws.length ≤ 65536) (n : Int) :
    Calls Try.prog 72 #[.pointer (some ⟨g, 0, none⟩), .int .i64 n] w (Ret fun r w' => (¬ (0 ≤ n ∧ 256 * (n + 6) ≤ s.ws.length) ∧ r = .tuple #[.pointer none, .int .i64 10] ∧ w' = w) ∨
      (∃ m : Nat, n = m ∧ 256 * (m + 6) ≤ s.ws.length ∧ ∃ sb, r = .tuple #[.pointer (some ⟨sb, 0, none⟩), .int .i64 0] ∧ w.heap.size ≤ sb ∧ SlAt B w' sb g gw c m s ∧ Ext w w')) := by
  refine calls_of_vc lok Try.func72 ?_ rfl
  conv => whnf
  refine vcCond_false lok (rfl) ?_
  conv => whnf
  refine vcReg_meet lok (fun β : Bool => [(9, .bool β)]) (fun β w' => w' = w ∧ β = !decide (0 ≤ n ∧ 256 * (n + 6) ≤ s.ws.length)) [9] (fun _ => rfl) rfl ?_ ?_
  · conv => whnf
    refine bcase (fun k1 => ?_) (fun k1 => ?_)
    · have k1 := dt k1
      conv => whnf
      exact ⟨_, ⟨rfl, trivial⟩, rfl, by rw [decide_eq_false (by omega)]; rfl⟩
    have k1 := df k1
    conv => whnf
    refine Calls.ret (len_calls f) ?_
    rintro _ w2 ⟨rfl, rfl⟩
    conv => whnf
    refine ⟨by decide, ?_⟩
    intro z hz
    have hz62 : z = ((s.ws.length / 256 : Nat) : Int) := by rw [hz]; exact quo256 _ (by omega)
    clear hz
    subst hz62
    conv => whnf
    refine ⟨by omega, ?_⟩
    conv => whnf
    refine ⟨_, ⟨rfl, trivial⟩, rfl, ?_⟩
    by_cases k2 : 256 * (n + 6) ≤ s.ws.length
    · rw [decide_eq_false (by omega), decide_eq_true ⟨by omega, k2⟩]; rfl
    · rw [decide_eq_true (by omega), decide_eq_false (fun q => k2 q.2)]; rfl
  rintro β w2 ⟨hw2, hβ⟩
  subst hw2
  conv => whnf
  refine vcCond_split lok rfl (fun h2 => ?_) (fun h2 => ?_)
  · subst h2
    conv => whnf
    exact .inl ⟨(fun q => by rw [decide_eq_true q] at hβ; cases hβ), rfl, rfl⟩
  subst h2
  have hn : 0 ≤ n ∧ 256 * (n + 6) ≤ s.ws.length := by
    by_cases q : 0 ≤ n ∧ 256 * (n + 6) ≤ s.ws.length
    · exact q
    · rw [decide_eq_false q] at hβ; cases hβ
  clear hβ
  obtain ⟨m, rfl⟩ := Int.eq_ofNat_of_zero_le hn.1
  have hlt := f.lt
  conv => whnf
  refine ⟨_, fun w => run_build w 162 _ _ (show Try.prog.built 162 [(0, .pointer (some ⟨g, 0, none⟩)), (1, .int .i64 m)] = some #[.pointer (some ⟨g, 0, none⟩), .int .i64 m] by kernel_rfl), ?_⟩
  conv => whnf
  intro w3 hw3
  have hb3 : Blk w3 w2.heap.size 162 (sC g m) := by rw [hw3]; exact Blk.new w2 162 _
  have x3 : Ext w2 w3 := by rw [hw3]; exact Ext.new _ _
  clear hw3
  exact .inr ⟨m, rfl, by omega, _, rfl, Nat.le_refl _, ⟨f.ext x3, hb3, by omega, by omega, by omega, hl⟩, x3⟩
end
end Go.Proofs.Ytgipackjnncabaa

/- Layer 22: numbers that are kept; a fixed image. -/
set_option linter.unusedVariables false
namespace Go.Proofs.Ytgipackjnncabaa
open Go.Vc Go.RowKit

section
variable {n i : Nat} {s : FS}
theorem Num.eraseAll : ∀ (k : Nat) (s : FS) (i m : Nat), Num s n i → Num (eraseAllF s m k).1 n (i + k)
  | 0, s, i, m, h => h
  | k + 1, s, i, m, h => by
    have g := h.erase (m : Int)
    unfold eraseAllF
    split
    · exact (Num.eraseAll k _ (i + 1) (m + 1) g).up (by omega)
    · exact g.up (by omega)
theorem drop_num {at_ : Nat} {slot : Int} (h : Num s n i) : Num (dropSF s at_ slot).1 n (i + 17) := by
  unfold dropSF
  split
  · exact h.up (by omega)
  · exact (h.erase _).up (by omega)
theorem begin_num {at_ : Nat} {slot : Int} {v : BitVec 32} {m : Int} (h : Num s n i) : Num (beginSF s at_ slot v m).1 n (i + 17) := by
  unfold beginSF
  split
  · exact h.up (by omega)
  · split
    · exact h.up (by omega)
    · have g := Num.eraseAll 3 s i (at_ + 3 * slot.toNat) h
      split
      · exact (Num.all _ _ _ _ g).up (by show i + 3 + 3 ≤ _; omega)
      · exact g.up (by omega)
theorem write_num {at_ : Nat} {slot chunk : Int} {b : List (BitVec 8)} (h : Num s n i) : Num (writeSF s at_ slot chunk b).1 n (i + 17) := by
  unfold writeSF
  split
  · exact h.up (by omega)
  · split
    · exact h.up (by omega)
    · split
      · exact h.up (by omega)
      · rename_i h1
        have h1 := Decidable.not_not.1 h1
        have hb : (wordsF b).length ≤ 16 := by rw [wordsF_len, h1.2.2.2]; have := lenC_le; rename_i m _ _; have := lenC_le m chunk.toNat; omega
        have g := Num.all (wordsF b) s i ((atF at_ slot + 256 + 16 * chunk.toNat : Nat) : Int) h
        split
        · exact h.up (by omega)
        · split
          · exact h.up (by omega)
          · split
            · split
              · exact (g.prog _ _).up (by omega)
              · exact g.up (by omega)
            · exact g.up (by omega)
theorem seal_num {at_ : Nat} {slot : Int} (h : Num s n i) : Num (sealSF s at_ slot).1 n (i + 17) := by
  unfold sealSF
  split
  · exact (h.prog _ _).up (by omega)
  · exact h.up (by omega)
end

/-- the image of the fixed calls -/
def k22A : List (BitVec 8) := List.replicate 64 0#8 ++ [97#8, 98#8, 99#8, 100#8, 101#8, 102#8]
theorem k22_plain {s : FS} (hs : s.off = false) (hl : s.left < 0) (hn : s.ws.length = 1536) :
    ∃ t u, beginSF s 0 0 7#32 70 = (t, 0) ∧ writeSF t 0 0 1 [97#8, 98#8, 99#8, 100#8, 101#8, 102#8] = (u, 0) ∧ haveF u 0 0 = (2#32, false) ∧ bytesSF u 0 0 = ([], 2) ∧ (writeSF u 0 0 2 []).2 = 1 := by
  have hb : ¬ badF 0 := by decide
  have hat : atF 0 0 = 0 := rfl
  have g := begin_cases (n := 0) (slot := 0) (v := 7#32) (m := 70) hs hb (by decide) (by rw [hat, hn]; decide)
  rcases g with ⟨t, g1, g2, g3, g4⟩ | ⟨t, _, _, g3, _⟩
  rotate_left
  · omega
  have hout := begin_out (s := s) (n := 0) (slot := 0) 7#32 70
  rw [g1] at hout
  have hlt : t.ws.length = 1536 := hout.1.trans hn
  have hA : k22A.length = 70 := by decide +kernel
  have g2 : Fresh t.ws (atF 0 0) 7#32 k22A.length := by rw [hA]; exact g2
  have himg := g2.img (all := k22A) (by rw [hat, hlt]; decide)
  have hck : chunkF k22A 1 = [97#8, 98#8, 99#8, 100#8, 101#8, 102#8] := by decide +kernel
  have k := write_img g3 hb himg 1 (by rw [hA]; decide)
  rw [hck] at k
  rcases k with ⟨u, k1, k2, k3, k4, k5, k6, k7⟩ | ⟨u, _, _, k3, _⟩
  rotate_left
  · have := g4 hl; omega
  have hm0 : u.ws.getD (atF 0 0 + 3 + 0) 0#32 = ones := by
    rw [k7 0 (by decide) (by decide)]
    have := g2.rest 3 (by decide) (by decide)
    exact this
  have hall : allB u.ws (atF 0 0) k22A.length 32 = false := by
    cases e : allB u.ws (atF 0 0) k22A.length 32 with
    | false => rfl
    | true =>
      have := allB_iff.1 e 0 (by decide) (by rw [hA]; decide)
      rw [hm0] at this
      exact absurd this (by decide)
  have hhv : haveB u.ws (atF 0 0) k22A.length 32 = 2#32 := by
    have e := haveB_more (ws := u.ws) (p := atF 0 0) (m := k22A.length) (K := 2) (by rw [hA]; decide) 30
    rw [e]
    unfold haveB haveB haveB
    have b0 : bitB u.ws (atF 0 0) k22A.length 0 = false := by
      unfold bitB
      apply decide_eq_false
      rintro ⟨_, q⟩
      rw [hm0] at q
      exact absurd q (by decide)
    have b1 : bitB u.ws (atF 0 0) k22A.length 1 = true := by
      unfold bitB
      exact decide_eq_true ⟨by rw [hA]; decide, k6⟩
    rw [b0, b1]
    decide
  refine ⟨t, u, g1, k1, ?_, ?_, ?_⟩
  · rw [img_have k2 hb k5, hhv, hall]
  · rw [img_whole k2 hb k5, hall, if_neg (by simp)]
  · unfold writeSF
    rw [check_ok k2 hb, if_neg (by simp), k5.head]
    dsimp only
    rw [if_pos]
    rw [hA]
    rintro ⟨_, _, q, _⟩
    exact absurd q (by decide)
end Go.Proofs.Ytgipackjnncabaa

/- Plain laws of layer 23: a receiver; a sender and a receiver that hear one another. No program in sight. -/
set_option linter.unusedSimpArgs false
set_option linter.unusedVariables false
namespace Go.Proofs.Ytgipackjnncabaa
open Go.Vc Go.RowKit

/-! ### a receiver -/
/-- an Ack -/
def ackP (ver hv : BitVec 32) (st : Int) : Pk := ⟨3, ver, 0, 0, st, hv, []⟩
def ackF (ver hv : BitVec 32) (st : Int) : List (BitVec 8) := (packF (ackP ver hv st)).1
def standsF (s : FS) (n : Nat) (slot : Int) (ver : BitVec 32) : List (BitVec 8) := ackF ver (haveF s n slot).1 (if (haveF s n slot).2 = true then 2 else 1)
def offerF (s : FS) (n : Nat) (slot : Int) (p : Pk) : FS × List (BitVec 8) × Int :=
  if p.ver = ones then (s, ackF p.ver 0#32 0, 0)
  else if (headR s n slot).2.2 = true ∧ (headR s n slot).1 = p.ver ∧ ((headR s n slot).2.1 : Int) = p.size then (s, standsF s n slot p.ver, 0)
  else if (beginSF s n slot p.ver p.size).2 = 0 then ((beginSF s n slot p.ver p.size).1, standsF (beginSF s n slot p.ver p.size).1 n slot p.ver, 0)
  else ((beginSF s n slot p.ver p.size).1, [], (beginSF s n slot p.ver p.size).2)
def dataF (s : FS) (n : Nat) (slot : Int) (p : Pk) : FS × List (BitVec 8) × Int :=
  if ¬ ((headR s n slot).2.2 = true ∧ (headR s n slot).1 = p.ver) then (s, ackF p.ver 0#32 0, 0)
  else if (writeSF s n slot p.chunk p.data).2 = 0 ∨ (writeSF s n slot p.chunk p.data).2 = 25 then
    ((writeSF s n slot p.chunk p.data).1, standsF (writeSF s n slot p.chunk p.data).1 n slot p.ver, 0)
  else if (writeSF s n slot p.chunk p.data).2 = 4 then
    (if (dropSF (writeSF s n slot p.chunk p.data).1 n slot).2 = 0 then ((dropSF (writeSF s n slot p.chunk p.data).1 n slot).1, ackF p.ver 0#32 0, 0)
    else ((dropSF (writeSF s n slot p.chunk p.data).1 n slot).1, [], (dropSF (writeSF s n slot p.chunk p.data).1 n slot).2))
  else ((writeSF s n slot p.chunk p.data).1, [], (writeSF s n slot p.chunk p.data).2)
/-- what comes of bytes: the flash, the answer, the error -/
def rcvF (s : FS) (n : Nat) (slot : Int) (least : BitVec 32) (busy : Bool) (b : List (BitVec 8)) : FS × List (BitVec 8) × Int :=
  if (unpackF b).2 ≠ 0 then (s, [], (unpackF b).2)
  else if (unpackF b).1.kind = 3 then (s, [], 4)
  else if busy = true ∨ (unpackF b).1.ver.toNat ≤ least.toNat then (s, ackF (unpackF b).1.ver 0#32 0, 0)
  else if (unpackF b).1.kind = 1 then offerF s n slot (unpackF b).1
  else dataF s n slot (unpackF b).1

theorem up_of {p : Pk} (h : canP p = true) : unpackF (packF p).1 = (p, 0) := by
  unfold packF
  rw [if_pos h]
  exact unpack_pack h
theorem pack_ne {p : Pk} (h : canP p = true) : (packF p).1 ≠ [] := by
  intro e
  have := congrArg List.length e
  unfold packF at this
  rw [if_pos h] at this
  have h2 : (sealF (bodyF p)).length = 0 := this
  rw [sealF_len] at h2
  omega
theorem up_nil : (unpackF []).2 ≠ 0 := by
  unfold unpackF openF
  simp
theorem can_ack (ver hv : BitVec 32) (st : Int) (h : 0 ≤ st ∧ st ≤ 2) : canP (ackP ver hv st) = true := by
  unfold canP ackP
  apply decide_eq_true
  exact .inr (.inr ⟨rfl, rfl, rfl, h, rfl⟩)
theorem up_ack (ver hv : BitVec 32) (st : Int) (h : 0 ≤ st ∧ st ≤ 2) : unpackF (ackF ver hv st) = (ackP ver hv st, 0) := up_of (can_ack ver hv st h)

/-! ### a sender and a receiver -/
section
variable {all : List (BitVec 8)} {s t : FS} {ss : SS}
theorem chunk_same (all : List (BitVec 8)) (k : Nat) : chunkS all k = chunkF all k := by
  unfold chunkS chunkF
  rw [List.take_eq_take_iff, List.length_drop]
  omega
def offerP (all : List (BitVec 8)) : Pk := ⟨1, 3#32, all.length, 0, 0, 0#32, []⟩
def dataP (all : List (BitVec 8)) (k : Nat) : Pk := ⟨2, 3#32, 0, k, 0, 0#32, chunkS all k⟩
theorem can_offer (h : 1 ≤ all.length ∧ all.length ≤ 2048) : canP (offerP all) = true := by
  unfold canP offerP
  apply decide_eq_true
  exact .inl ⟨rfl, ⟨by show (1 : Int) ≤ (all.length : Int); omega, by show (all.length : Int) ≤ 2048; omega⟩, rfl, rfl, rfl, rfl⟩
theorem can_data {k : Nat} (h : all.length ≤ 2048) (hk : 64 * k < all.length) : canP (dataP all k) = true := by
  have hl : (chunkS all k).length = lenC all.length k := by rw [chunk_same, chunkF_len]
  unfold lenC at hl
  unfold canP dataP
  apply decide_eq_true
  exact .inr (.inl ⟨rfl, rfl, ⟨by show (0 : Int) ≤ (k : Int); omega, by show (k : Int) ≤ 31; omega⟩, rfl, rfl, by show 1 ≤ (chunkS all k).length; omega, by show (chunkS all k).length ≤ 64; omega⟩)

theorem missF_some {len : Nat} {hav : BitVec 32} {j : Nat} : ∀ fuel k, missF len hav fuel k = some j → k ≤ j ∧ 64 * j < len ∧ hav.getLsbD j = false ∧ ∀ i, k ≤ i → i < j → hav.getLsbD i = true
  | 0, k, h => by cases h
  | fuel + 1, k, h => by
    unfold missF at h
    split at h
    · rename_i h1
      split at h
      · rename_i h2
        have g := missF_some fuel (k + 1) h
        refine ⟨by omega, g.2.1, g.2.2.1, fun i h3 h4 => ?_⟩
        by_cases e : i = k
        · rw [e]; exact h2
        · exact g.2.2.2 i (by omega) h4
      · rename_i h2
        have e : k = j := Option.some.inj h
        subst e
        exact ⟨Nat.le_refl _, h1, by simpa using h2, fun i h3 h4 => absurd h4 (by omega)⟩
    · cases h
theorem missF_none {len : Nat} {hav : BitVec 32} : ∀ fuel k, len ≤ 64 * (k + fuel) → missF len hav fuel k = none → ∀ i, k ≤ i → 64 * i < len → hav.getLsbD i = true
  | 0, k, hl, _, i, h1, h2 => by omega
  | fuel + 1, k, hl, h, i, h1, h2 => by
    unfold missF at h
    rw [if_pos (show 64 * k < len by omega)] at h
    split at h
    · rename_i h3
      by_cases e : i = k
      · rw [e]; exact h3
      · exact missF_none fuel (k + 1) (by omega) h i (by omega) h2
    · cases h

/-- a receiver's slot: begun with the image, or not begun -/
def RYes (all : List (BitVec 8)) (s : FS) : Prop := s.off = false ∧ s.left < 0 ∧ Img s.ws (atF 0 1) 3#32 all
def RNo (s : FS) : Prop := s.off = false ∧ s.left < 0 ∧ headW s.ws (atF 0 1) = none ∧ atF 0 1 + 768 ≤ s.ws.length
def ROk (all : List (BitVec 8)) (s : FS) : Prop := RNo s ∨ RYes all s
def bitR (s : FS) (k : Nat) : Prop := s.ws.getD (atF 0 1 + 3 + k) 0#32 = 0#32
instance (s : FS) (k : Nat) : Decidable (bitR s k) := by unfold bitR; infer_instance
def wholeR (all : List (BitVec 8)) (s : FS) : Prop := RYes all s ∧ ∀ k, 64 * k < all.length → bitR s k
theorem not_bad1 : ¬ badF 1 := by unfold badF; omega

theorem RYes.head (h : RYes all s) : headR s 0 1 = (3#32, all.length, true) := by
  rw [headR_ok (check_ok h.1 not_bad1), h.2.2.head]
theorem RNo.head (h : RNo s) : headR s 0 1 = (0#32, 0, false) := by
  rw [headR_ok (check_ok h.1 not_bad1), h.2.2.1]
theorem RYes.have (h : RYes all s) : haveF s 0 1 = (haveB s.ws (atF 0 1) all.length 32, allB s.ws (atF 0 1) all.length 32) := img_have h.1 not_bad1 h.2.2
theorem RYes.len (h : RYes all s) : 1 ≤ all.length ∧ all.length ≤ 2048 := h.2.2.many
theorem RYes.bit (h : RYes all s) {k : Nat} (hk : 64 * k < all.length) : (haveB s.ws (atF 0 1) all.length 32).getLsbD k = decide (bitR s k) := by
  have hl := h.len
  rw [haveB_bit _ _ _ _ _ (Nat.le_refl _) (by omega), decide_eq_true (show k < 32 by omega), Bool.true_and]
  unfold bitB
  rw [decide_eq_decide]
  exact ⟨fun q => q.2, fun q => ⟨hk, q⟩⟩
theorem RYes.whole (h : RYes all s) : allB s.ws (atF 0 1) all.length 32 = true ↔ wholeR all s := by
  have hl := h.len
  rw [allB_iff]
  exact ⟨fun q => ⟨h, fun k hk => q k (by omega) hk⟩, fun q i _ hi => q.2 i hi⟩
theorem wholeR.bytes (h : wholeR all s) : bytesSF s 0 1 = (all, 0) := by
  rw [img_whole h.1.1 not_bad1 h.1.2.2, if_pos (h.1.whole.2 h)]

/-- what may be in the air -/
def AirOk (all x : List (BitVec 8)) : Prop := x = [] ∨ x = (packF (offerP all)).1 ∨ ∃ k, 64 * k < all.length ∧ x = (packF (dataP all k)).1
def BackOk (all : List (BitVec 8)) (s : FS) (y : List (BitVec 8)) : Prop :=
  y = [] ∨ y = ackF 3#32 0#32 0 ∨ (RYes all s ∧ ∃ hv j, 64 * j < all.length ∧ BitVec.getLsbD hv j = false ∧ y = ackF 3#32 hv 1) ∨ (wholeR all s ∧ ∃ hv, y = ackF 3#32 hv 2)
/-- a receiver goes on -/
structure On (all : List (BitVec 8)) (s t : FS) : Prop where
  yes : RYes all s → RYes all t
  whole : wholeR all s → wholeR all t
theorem On.refl (all : List (BitVec 8)) (s : FS) : On all s s := ⟨id, id⟩
theorem BackOk.on {y : List (BitVec 8)} (h : BackOk all s y) (o : On all s t) : BackOk all t y := by
  rcases h with h | h | ⟨h1, h2⟩ | ⟨h1, h2⟩
  · exact .inl h
  · exact .inr (.inl h)
  · exact .inr (.inr (.inl ⟨o.yes h1, h2⟩))
  · exact .inr (.inr (.inr ⟨o.whole h1, h2⟩))

/-- how the slot stands, told -/
theorem stands_back (h : RYes all s) : BackOk all s (standsF s 0 1 3#32) := by
  unfold standsF
  rw [h.have]
  by_cases hw : allB s.ws (atF 0 1) all.length 32 = true
  · rw [if_pos hw]
    exact .inr (.inr (.inr ⟨h.whole.1 hw, _, rfl⟩))
  · rw [if_neg hw]
    refine .inr (.inr (.inl ⟨h, haveB s.ws (atF 0 1) all.length 32, ?_⟩))
    by_cases q : ∃ j, 64 * j < all.length ∧ ¬ bitR s j
    · obtain ⟨j, h1, h2⟩ := q
      exact ⟨j, h1, by rw [h.bit h1]; exact decide_eq_false h2, rfl⟩
    · exact absurd (h.whole.2 ⟨h, fun k hk => Decidable.byContradiction fun e => q ⟨k, hk, e⟩⟩) hw

/-- an offer comes -/
theorem rcv_offer (hl : 1 ≤ all.length ∧ all.length ≤ 2048) (h : ROk all s) : ∃ t, rcvF s 0 1 2#32 false (packF (offerP all)).1 = (t, standsF t 0 1 3#32, 0) ∧ RYes all t ∧ On all s t := by
  have e : rcvF s 0 1 2#32 false (packF (offerP all)).1 = offerF s 0 1 (offerP all) := by
    unfold rcvF
    rw [up_of (can_offer hl), if_neg (by simp)]
    dsimp only
    rw [if_neg (show ¬ ((offerP all).kind = 3) from (by decide : ¬ ((1 : Int) = 3))), if_neg (show ¬ (false = true ∨ (offerP all).ver.toNat ≤ (2#32).toNat) from (by decide : ¬ (false = true ∨ (3#32).toNat ≤ (2#32).toNat))), if_pos (show ((offerP all).kind) = 1 from rfl)]
  rw [e]
  unfold offerF
  rw [if_neg (show ¬ ((offerP all).ver = ones) from (by decide : ¬ (3#32 = ones)))]
  rcases h with h | h
  · rw [h.head, if_neg (fun q => by cases q.1)]
    have hc : canN 3#32 (all.length : Int) := ⟨by decide, by decide, by omega, by omega⟩
    have g := begin_cases (n := 0) (slot := 1) h.1 not_bad1 hc h.2.2.2
    rcases g with ⟨t, g1, g2, g3, g4⟩ | ⟨t, g1, _, g2, _⟩
    · have g1 : beginSF s 0 1 (offerP all).ver (offerP all).size = (t, 0) := g1
      have hlen : s.ws.length = t.ws.length := by
        have := (begin_out (s := s) (n := 0) (slot := 1) 3#32 (all.length : Int)).1
        rw [show beginSF s 0 1 3#32 (all.length : Int) = (t, 0) from g1] at this
        exact this.symm
      rw [g1, if_pos rfl]
      rw [Int.toNat_natCast] at g2
      have hy : RYes all t := ⟨g3, g4 h.2.1, g2.img (by rw [← hlen]; exact h.2.2.2)⟩
      refine ⟨t, rfl, hy, fun _ => hy, fun q => ?_⟩
      have := q.1.2.2.head
      rw [h.2.2.1] at this
      cases this
    · exact absurd g2 (by have := h.2.1; omega)
  · rw [h.head, if_pos ⟨rfl, rfl, rfl⟩]
    exact ⟨s, rfl, h, On.refl _ _⟩

/-- a chunk comes -/
theorem rcv_data {k : Nat} (hl : all.length ≤ 2048) (hk : 64 * k < all.length) (h : RYes all s) :
    ∃ t, rcvF s 0 1 2#32 false (packF (dataP all k)).1 = (t, standsF t 0 1 3#32, 0) ∧ RYes all t ∧ On all s t ∧ bitR t k ∧ ∀ j, 64 * j < all.length → bitR s j → bitR t j := by
  have e : rcvF s 0 1 2#32 false (packF (dataP all k)).1 = dataF s 0 1 (dataP all k) := by
    unfold rcvF
    rw [up_of (can_data hl hk), if_neg (by simp)]
    dsimp only
    rw [if_neg (show ¬ ((dataP all k).kind = 3) from (by decide : ¬ ((2 : Int) = 3))), if_neg (show ¬ (false = true ∨ (dataP all k).ver.toNat ≤ (2#32).toNat) from (by decide : ¬ (false = true ∨ (3#32).toNat ≤ (2#32).toNat))), if_neg (show ¬ ((dataP all k).kind = 1) from (by decide : ¬ ((2 : Int) = 1)))]
  rw [e]
  unfold dataF
  rw [h.head, if_neg (fun q => q ⟨rfl, rfl⟩)]
  have g := write_img h.1 not_bad1 h.2.2 k hk
  rw [← chunk_same] at g
  rcases g with ⟨t, g1, g2, g3, _, g5, g6, g7⟩ | ⟨t, g1, _, g2, _⟩
  · have g1 : writeSF s 0 1 (dataP all k).chunk (dataP all k).data = (t, 0) := g1
    rw [g1, if_pos (.inl rfl)]
    have hy : RYes all t := ⟨g2, g3 h.2.1, g5⟩
    have hb : ∀ j, 64 * j < all.length → bitR s j → bitR t j := fun j hj q => by
      by_cases c : j = k
      · subst c; exact g6
      · unfold bitR
        rw [g7 j (by omega) c]; exact q
    exact ⟨t, rfl, hy, ⟨fun _ => hy, fun q => ⟨hy, fun j hj => hb j hj (q.2 j hj)⟩⟩, g6, hb⟩
  · exact absurd g2 (by have := h.2.1; omega)
theorem rcv_data_no {k : Nat} (hl : all.length ≤ 2048) (hk : 64 * k < all.length) (h : RNo s) : rcvF s 0 1 2#32 false (packF (dataP all k)).1 = (s, ackF 3#32 0#32 0, 0) := by
  unfold rcvF
  rw [up_of (can_data hl hk), if_neg (by simp)]
  dsimp only
  rw [if_neg (show ¬ ((dataP all k).kind = 3) from (by decide : ¬ ((2 : Int) = 3))), if_neg (show ¬ (false = true ∨ (dataP all k).ver.toNat ≤ (2#32).toNat) from (by decide : ¬ (false = true ∨ (3#32).toNat ≤ (2#32).toNat))), if_neg (show ¬ ((dataP all k).kind = 1) from (by decide : ¬ ((2 : Int) = 1)))]
  unfold dataF
  rw [h.head, if_pos (fun q => by cases q.1)]
  rfl
/-- whatever comes -/
theorem rcv_any {x : List (BitVec 8)} (hl : 1 ≤ all.length ∧ all.length ≤ 2048) (h : ROk all s) (hx : AirOk all x) :
    ROk all (rcvF s 0 1 2#32 false x).1 ∧ On all s (rcvF s 0 1 2#32 false x).1 ∧ BackOk all (rcvF s 0 1 2#32 false x).1 (rcvF s 0 1 2#32 false x).2.1 := by
  rcases hx with rfl | rfl | ⟨k, hk, rfl⟩
  · unfold rcvF
    rw [if_pos up_nil]
    exact ⟨h, On.refl _ _, .inl rfl⟩
  · obtain ⟨t, e, h1, h2⟩ := rcv_offer hl h
    rw [e]
    exact ⟨.inr h1, h2, stands_back h1⟩
  · rcases h with h | h
    · rw [rcv_data_no hl.2 hk h]
      exact ⟨.inl h, On.refl _ _, .inr (.inl rfl)⟩
    · obtain ⟨t, e, h1, h2, _⟩ := rcv_data hl.2 hk h
      rw [e]
      exact ⟨.inr h1, h2, stands_back h1⟩

/-- a sender of these bytes -/
structure SOk (all : List (BitVec 8)) (s : FS) (ss : SS) : Prop where
  ver : ss.ver = 3#32
  data : ss.data = all
  w0 : 0 ≤ ss.wait
  w1 : ss.wait ≤ 4
  done : ss.done = true → wholeR all s
  want : ss.wanted = true → RYes all s ∧ ∃ j, 64 * j < all.length ∧ BitVec.getLsbD ss.hav j = false
theorem SOk.on (h : SOk all s ss) (o : On all s t) : SOk all t ss := ⟨h.ver, h.data, h.w0, h.w1, fun q => o.whole (h.done q), fun q => ⟨o.yes (h.want q).1, (h.want q).2⟩⟩
theorem SOk.send (h : SOk all s ss) : SOk all s (sendF ss) := ⟨h.ver, h.data, by show (0 : Int) ≤ 4; decide, by show (4 : Int) ≤ 4; decide, h.done, h.want⟩
/-- the first chunk that the other side has not -/
theorem miss_of {len : Nat} {hav : BitVec 32} (hl : len ≤ 2048) (h : ∃ j, 64 * j < len ∧ BitVec.getLsbD hav j = false) : ∃ j, missF len hav 40 0 = some j ∧ 64 * j < len ∧ BitVec.getLsbD hav j = false ∧ ∀ i, i < j → BitVec.getLsbD hav i = true := by
  obtain ⟨j, h1, h2⟩ := h
  cases e : missF len hav 40 0 with
  | none =>
    have := missF_none 40 0 (by omega) e j (Nat.zero_le _) h1
    rw [h2] at this
    cases this
  | some i =>
    have g := missF_some 40 0 e
    exact ⟨i, rfl, g.2.1, g.2.2.1, fun k hk => g.2.2.2 k (Nat.zero_le _) hk⟩
/-- what it sends -/
theorem SOk.out (hl : 1 ≤ all.length ∧ all.length ≤ 2048) (h : SOk all s ss) :
    (ss.wanted = false ∧ outF ss = (packF (offerP all)).1) ∨ (RYes all s ∧ ∃ j, 64 * j < all.length ∧ BitVec.getLsbD ss.hav j = false ∧ (∀ i, i < j → BitVec.getLsbD ss.hav i = true) ∧ outF ss = (packF (dataP all j)).1) := by
  cases hw : ss.wanted with
  | false =>
    left
    refine ⟨rfl, ?_⟩
    have e : nextF ss = (offerP all, true) := by
      unfold nextF
      rw [hw, if_neg Bool.false_ne_true, h.ver, h.data]
      rfl
    unfold outF
    rw [e, if_pos rfl]
  | true =>
    right
    have g := miss_of hl.2 (h.want hw).2
    obtain ⟨j, g1, g2, g3, g4⟩ := g
    refine ⟨(h.want hw).1, j, g2, g3, g4, ?_⟩
    have e : nextF ss = (dataP all j, true) := by
      unfold nextF
      rw [hw, if_pos rfl, h.data, g1, h.ver]
      rfl
    unfold outF
    rw [e, if_pos rfl]
theorem SOk.air (hl : 1 ≤ all.length ∧ all.length ≤ 2048) (h : SOk all s ss) : AirOk all (outF ss) := by
  rcases h.out hl with ⟨_, e⟩ | ⟨_, j, h1, _, _, e⟩
  · exact .inr (.inl e)
  · exact .inr (.inr ⟨j, h1, e⟩)
theorem SOk.tick (hl : 1 ≤ all.length ∧ all.length ≤ 2048) (h : SOk all s ss) : SOk all s (tickF ss).1 ∧ AirOk all (tickF ss).2 := by
  unfold tickF
  split
  · exact ⟨h, .inl rfl⟩
  · split
    · have := h.w1
      exact ⟨⟨h.ver, h.data, by show 0 ≤ ss.wait - 1; omega, by show ss.wait - 1 ≤ 4; omega, h.done, h.want⟩, .inl rfl⟩
    · exact ⟨h.send, h.air hl⟩
theorem recv_ack (hv : BitVec 32) {st : Int} (hst : 0 ≤ st ∧ st ≤ 2) (h : SOk all s ss) (hd : ss.done = false) :
    recvF ss (ackF 3#32 hv st) = if st = 1 then (sendF (takeF ss (ackP 3#32 hv st)), outF (takeF ss (ackP 3#32 hv st))) else (takeF ss (ackP 3#32 hv st), []) := by
  unfold recvF
  rw [up_ack _ _ _ hst, hd, h.ver, if_neg (by rintro (q | q | q | q); cases q; exact q rfl; exact q rfl; exact q rfl)]
  rfl
theorem SOk.recv {y : List (BitVec 8)} (hl : 1 ≤ all.length ∧ all.length ≤ 2048) (h : SOk all s ss) (hy : BackOk all s y) : SOk all s (recvF ss y).1 ∧ AirOk all (recvF ss y).2 := by
  cases hd : ss.done with
  | true =>
    unfold recvF
    rw [if_pos (.inl hd)]
    exact ⟨h, .inl rfl⟩
  | false =>
    rcases hy with rfl | rfl | ⟨h1, hv, j, h2, h3, rfl⟩ | ⟨h1, hv, rfl⟩
    · unfold recvF
      rw [if_pos (.inr (.inl up_nil))]
      exact ⟨h, .inl rfl⟩
    · rw [recv_ack 0#32 (by decide) h hd, if_neg (by decide)]
      refine ⟨⟨h.ver, h.data, h.w0, h.w1, fun q => ?_, fun q => ?_⟩, .inl rfl⟩
      · exact h.done q
      · cases q
    · rw [recv_ack hv (by decide) h hd, if_pos rfl]
      have k : SOk all s (takeF ss (ackP 3#32 hv 1)) := ⟨h.ver, h.data, h.w0, h.w1, h.done, fun _ => ⟨h1, j, h2, h3⟩⟩
      exact ⟨k.send, k.air hl⟩
    · rw [recv_ack hv (by decide) h hd, if_neg (by decide)]
      refine ⟨⟨h.ver, h.data, h.w0, h.w1, fun _ => h1, fun q => ?_⟩, .inl rfl⟩
      cases q
/-- how the slot stands comes to a sender -/
theorem recv_stands (hl : 1 ≤ all.length ∧ all.length ≤ 2048) (h : SOk all s ss) (hd : ss.done = false) (hy : RYes all s) :
    ((recvF ss (standsF s 0 1 3#32)).1.done = true ∧ (recvF ss (standsF s 0 1 3#32)).2 = []) ∨
    ((recvF ss (standsF s 0 1 3#32)).1.done = false ∧ ∃ j, 64 * j < all.length ∧ ¬ bitR s j ∧ (∀ i, i < j → bitR s i) ∧ (recvF ss (standsF s 0 1 3#32)).2 = (packF (dataP all j)).1) := by
  have hb := stands_back hy
  unfold standsF at hb ⊢
  rw [hy.have] at hb ⊢
  by_cases hw : allB s.ws (atF 0 1) all.length 32 = true
  · rw [if_pos hw, recv_ack _ (by decide) h hd, if_neg (by decide)]
    exact .inl ⟨rfl, rfl⟩
  · right
    rw [if_neg hw, recv_ack _ (by decide) h hd, if_pos rfl]
    have hm : ∃ j, 64 * j < all.length ∧ (haveB s.ws (atF 0 1) all.length 32).getLsbD j = false := by
      by_cases q : ∃ j, 64 * j < all.length ∧ ¬ bitR s j
      · obtain ⟨j, h1, h2⟩ := q
        exact ⟨j, h1, by rw [hy.bit h1]; exact decide_eq_false h2⟩
      · exact absurd (hy.whole.2 ⟨hy, fun k hk => Decidable.byContradiction fun e => q ⟨k, hk, e⟩⟩) hw
    have k : SOk all s (takeF ss (ackP 3#32 (haveB s.ws (atF 0 1) all.length 32) 1)) := ⟨h.ver, h.data, h.w0, h.w1, h.done, fun _ => ⟨hy, hm⟩⟩
    refine ⟨hd, ?_⟩
    rcases k.out hl with ⟨q, _⟩ | ⟨_, j, h1, h2, h3, e⟩
    · cases q
    · have h2 : (haveB s.ws (atF 0 1) all.length 32).getLsbD j = false := h2
      have h3 : ∀ i, i < j → (haveB s.ws (atF 0 1) all.length 32).getLsbD i = true := h3
      refine ⟨j, h1, ?_, fun i hi => ?_, e⟩
      · rw [hy.bit h1] at h2
        exact of_decide_eq_false h2
      · have := h3 i hi
        rw [hy.bit (by omega)] at this
        exact of_decide_eq_true this

/-- the talk of a tick: round k of it, x is what the sender said last -/
def Talk (all : List (BitVec 8)) (i k : Nat) (s : FS) (ss : SS) (x : List (BitVec 8)) : Prop :=
  ROk all s ∧ SOk all s ss ∧ ((x = [] ∧ (ss.done = true ∨ (i : Int) + 1 + ss.wait ≤ 4)) ∨ (ss.done = false ∧ k = 0 ∧ x = (packF (offerP all)).1) ∨
    (ss.done = false ∧ RYes all s ∧ ∃ j, 64 * j < all.length ∧ x = (packF (dataP all j)).1 ∧ (k = 0 ∨ (k ≤ j + 1 ∧ ∀ i, i < j → bitR s i))))
theorem Talk.begin {i : Nat} (hl : 1 ≤ all.length ∧ all.length ≤ 2048) (hr : ROk all s) (h : SOk all s ss) (hd : ss.done = false) (hi : (i : Int) + ss.wait ≤ 4) : Talk all i 0 s (tickF ss).1 (tickF ss).2 := by
  refine ⟨hr, (h.tick hl).1, ?_⟩
  unfold tickF
  rw [if_neg (by rw [hd, h.ver]; rintro (q | q); cases q; exact absurd q (by decide))]
  split
  · exact .inl ⟨rfl, .inr (by show (i : Int) + 1 + (ss.wait - 1) ≤ 4; omega)⟩
  · rcases h.out hl with ⟨_, e⟩ | ⟨h1, j, h2, _, _, e⟩
    · exact .inr (.inl ⟨hd, rfl, e⟩)
    · exact .inr (.inr ⟨hd, h1, j, h2, e, .inl rfl⟩)
theorem Talk.next {i k : Nat} {x : List (BitVec 8)} (hl : 1 ≤ all.length ∧ all.length ≤ 2048) (h : Talk all i k s ss x) (hx : x ≠ []) :
    (rcvF s 0 1 2#32 false x).2.2 = 0 ∧ Talk all i (k + 1) (rcvF s 0 1 2#32 false x).1 (recvF ss (rcvF s 0 1 2#32 false x).2.1).1 (recvF ss (rcvF s 0 1 2#32 false x).2.1).2 := by
  obtain ⟨hr, hs, h⟩ := h
  rcases h with ⟨h, _⟩ | ⟨hd, hk, rfl⟩ | ⟨hd, hy, j, hj, rfl, hjk⟩
  · exact absurd h hx
  · obtain ⟨t, e, h1, h2⟩ := rcv_offer hl hr
    rw [e]
    have hs2 := hs.on h2
    refine ⟨rfl, .inr h1, (hs2.recv hl (stands_back h1)).1, ?_⟩
    rcases recv_stands hl hs2 hd h1 with ⟨q1, q2⟩ | ⟨q1, j, q2, q3, q4, q5⟩
    · exact .inl ⟨q2, .inl q1⟩
    · exact .inr (.inr ⟨q1, h1, j, q2, q5, .inr ⟨by omega, q4⟩⟩)
  · obtain ⟨t, e, h1, h2, h3, h4⟩ := rcv_data hl.2 hj hy
    rw [e]
    have hs2 := hs.on h2
    refine ⟨rfl, .inr h1, (hs2.recv hl (stands_back h1)).1, ?_⟩
    rcases recv_stands hl hs2 hd h1 with ⟨q1, q2⟩ | ⟨q1, l, q2, q3, q4, q5⟩
    · exact .inl ⟨q2, .inl q1⟩
    · refine .inr (.inr ⟨q1, h1, l, q2, q5, .inr ⟨?_, q4⟩⟩)
      rcases hjk with rfl | ⟨g1, g2⟩
      · omega
      · have : j < l := by
          rcases Nat.lt_or_ge j l with q | q
          · exact q
          · exfalso
            apply q3
            by_cases c : l = j
            · rw [c]; exact h3
            · exact h4 l q2 (g2 l (by omega))
        omega
theorem Talk.end_ {i k : Nat} {x : List (BitVec 8)} (hl : 1 ≤ all.length ∧ all.length ≤ 2048) (h : Talk all i k s ss x) (hx : x = [] ∨ 80 ≤ k) : ss.done = true ∨ (i : Int) + 1 + ss.wait ≤ 4 := by
  obtain ⟨_, _, h⟩ := h
  rcases h with ⟨_, h⟩ | ⟨hd, hk, rfl⟩ | ⟨hd, hy, j, hj, rfl, hjk⟩
  · exact h
  · rcases hx with hx | hx
    · exact absurd hx (pack_ne (can_offer hl))
    · omega
  · rcases hx with hx | hx
    · exact absurd hx (pack_ne (can_data hl.2 hj))
    · omega
end
end Go.Proofs.Ytgipackjnncabaa

/- Walks of layer 23, ninth part: a receiver. -/
set_option linter.unusedVariables false
namespace Go.Proofs.Ytgipackjnncabaa
open Go.Vc Go.RowKit

theorem built112a (v h st : Int) : Try.prog.built 112 [(0, .int .i64 3), (1, .int .u32 v), (5, .int .u32 h), (4, .int .i64 st)] = some #[.int .i64 3, .int .u32 v, .int .i64 0, .int .i64 0, .int .i64 st, .int .u32 h, .slice none 0 0] := by kernel_rfl
/-- answer -/
theorem answer_calls {w : World} (ver hv : BitVec 32) (st : Int) : Calls Try.prog 144 #[.int .u32 ver.toNat, .int .u32 hv.toNat, .int .i64 st] w (Ret (BytesPost (ackF ver hv st) w)) := by
  refine calls_of_vc lok Try.func144 ?_ rfl
  conv => whnf
  refine ⟨_, fun w => run_build w 112 _ _ (built112a _ _ _), ?_⟩
  conv => whnf
  refine Calls.ret (pack_calls (ackP ver hv st) (a := none) (c := 0) (.inl rfl)) ?_
  rintro _ w1 ⟨a1, c1, rfl, ho1, x1⟩
  conv => whnf
  exact ⟨a1, c1, rfl, ho1, x1⟩

section
variable {B : Nat} {w w' : World} {sb g gw c n i : Nat} {s t : FS}
/-- stands -/
theorem stands_calls (h : SlAt B w sb g gw c n s) (slot : Int) (ver : BitVec 32) :
    Calls Try.prog 182 #[.agg #[.pointer (some ⟨sb, 0, none⟩), .int .i64 slot], .int .u32 ver.toNat] w (Ret (BytesPost (standsF s n slot ver) w)) := by
  unfold standsF
  refine calls_of_vc lok Try.func182 ?_ rfl
  conv => whnf
  intro w1 hw1
  have hb1 : Blk w1 w.heap.size 187 [.pointer (some ⟨sb, 0, none⟩), .int .i64 slot] := by rw [hw1]; exact Blk.new w 187 _
  have x1 : Ext w w1 := by rw [hw1]; exact Ext.new _ _
  clear hw1
  conv => whnf
  refine ⟨_, hb1.cell (i := 0) rfl, ?_⟩
  conv => whnf
  refine ⟨_, hb1.cell (i := 1) rfl, ?_⟩
  conv => whnf
  refine Calls.ret (shave_calls (h.ext x1) slot) ?_
  rintro _ w2 ⟨rfl, x2⟩
  conv => whnf
  have x02 := x1.trans x2
  have z := x02.size
  have gV : ∃ V, V = haveF s n slot := ⟨_, rfl⟩
  obtain ⟨V, hV⟩ := gV
  rw [← hV]
  clear hV
  obtain ⟨va, vb⟩ := V
  conv => whnf
  refine vcCond_split lok rfl (fun h3 => ?_) (fun h3 => ?_)
  · have h3 : vb = true := h3
    rw [h3, if_pos rfl]
    conv => whnf
    refine Calls.ret (answer_calls ver va 2) ?_
    rintro _ w3 ⟨a3, c3, rfl, ho3, x3⟩
    conv => whnf
    exact ⟨a3, c3, rfl, ho3.base z, x02.trans x3⟩
  · have h3 : vb = false := h3
    rw [h3, if_neg Bool.false_ne_true]
    conv => whnf
    refine Calls.ret (answer_calls ver va 1) ?_
    rintro _ w3 ⟨a3, c3, rfl, ho3, x3⟩
    conv => whnf
    exact ⟨a3, c3, rfl, ho3.base z, x02.trans x3⟩

/-- what comes of bytes -/
def RcvPost (B sb g gw c n : Nat) (r : FS × List (BitVec 8) × Int) (w : World) (v : Value) (w' : World) : Prop :=
  ∃ a' c', v = .tuple #[.slice a' r.2.1.length c', .int .i64 r.2.2] ∧ Own 5 u8v w.heap.size w' a' c' r.2.1 ∧ SlAt B w' sb g gw c n r.1 ∧ FlMod g gw w w'

theorem fl_size {w w' : World} {g gw : Nat} (m : FlMod g gw w w') : w.heap.size ≤ w'.heap.size := m.size

set_option maxHeartbeats 4000000 in
/-- data -/
theorem rdata_calls (h : SlAt B w sb g gw c n s) (slot : Int) (p : Pk) {a : Option Addr} {pc : Nat} (hp : Sl u8v w a p.data) (hpl : p.data.length ≤ 9223372036854775807) (hop : Num s s.ws.length i) (hi : i ≤ 1000000) :
    Calls Try.prog 145 #[.agg #[.pointer (some ⟨sb, 0, none⟩), .int .i64 slot], .agg (p.cells a pc).toArray] w (Ret (RcvPost B sb g gw c n (dataF s n slot p) w)) := by
  unfold dataF
  refine calls_of_vc lok Try.func145 ?_ rfl
  conv => whnf
  intro w1 hw1
  have hb1 : Blk w1 w.heap.size 187 [.pointer (some ⟨sb, 0, none⟩), .int .i64 slot] := by rw [hw1]; exact Blk.new w 187 _
  have x1 : Ext w w1 := by rw [hw1]; exact Ext.new _ _
  clear hw1
  conv => whnf
  intro w2 hw2
  have hq2 : Blk w2 w1.heap.size 112 (p.cells a pc) := by rw [hw2]; exact Blk.new w1 112 _
  have x2 : Ext w1 w2 := by rw [hw2]; exact Ext.new _ _
  clear hw2
  have hb2 := hb1.ext x2
  have x02 := x1.trans x2
  have lt1 := hb1.lt
  have lth := h.f.lt
  have lts := h.b.lt
  have z1 := x1.size
  conv => whnf
  refine ⟨_, hb2.cell (i := 0) rfl, ?_⟩
  conv => whnf
  refine ⟨_, hb2.cell (i := 1) rfl, ?_⟩
  conv => whnf
  refine Calls.ret (shead_calls (h.ext x02) slot) ?_
  rintro _ w3 ⟨rfl, x3⟩
  conv => whnf
  have x03 := x02.trans x3
  have hb3 := hb2.ext x3
  have hq3 := hq2.ext x3
  have h3 := h.ext x03
  have gH : ∃ H, H = headR s n slot := ⟨_, rfl⟩
  obtain ⟨H, hH⟩ := gH
  rw [← hH]
  clear hH
  obtain ⟨ha, hb, hc⟩ := H
  conv => whnf
  refine vcReg_meet lok (fun β : Bool => [(27, .bool β)]) (fun β w' => w' = w3 ∧ β = !decide (hc = true ∧ ha = p.ver)) [27] (fun _ => rfl) rfl ?_ ?_
  · conv => whnf
    refine bcase (fun k1 => ?_) (fun k1 => ?_)
    · have k1 : hc = false := by simpa using k1
      conv => whnf
      exact ⟨_, ⟨rfl, trivial⟩, rfl, by rw [k1, decide_eq_false (fun q => by cases q.1)]; rfl⟩
    · have k1 : hc = true := by simpa using k1
      conv => whnf
      refine ⟨_, hq3.cell (i := 1) rfl, ?_⟩
      conv => whnf
      refine ⟨_, ⟨rfl, trivial⟩, rfl, ?_⟩
      show (!decide ((ha.toNat : Int) = (p.ver.toNat : Int))) = _
      congr 1
      rw [decide_eq_decide]
      exact ⟨fun q => ⟨k1, ver_ne.1 q⟩, fun q => ver_ne.2 q.2⟩
  rintro β w4 ⟨hw4, hβ⟩
  subst hw4
  conv => whnf
  refine vcCond_split lok rfl (fun k1 => ?_) (fun k1 => ?_)
  · rw [k1] at hβ
    have k2 : ¬ (hc = true ∧ ha = p.ver) := fun q => by rw [decide_eq_true q] at hβ; cases hβ
    rw [if_pos k2]
    conv => whnf
    refine ⟨_, hq3.cell (i := 1) rfl, ?_⟩
    conv => whnf
    refine Calls.ret (answer_calls p.ver 0#32 0) ?_
    rintro _ w5 ⟨a5, c5, rfl, ho5, x5⟩
    conv => whnf
    have z := x03.size
    exact ⟨a5, c5, rfl, ho5.base z, h3.ext x5, Mod.ofExt _ (x03.trans x5)⟩
  rw [k1] at hβ
  have k2 : hc = true ∧ ha = p.ver := by
    by_cases q : hc = true ∧ ha = p.ver
    · exact q
    · rw [decide_eq_false q] at hβ; cases hβ
  rw [if_neg (fun q => q k2)]
  clear k2 hβ k1
  conv => whnf
  refine ⟨_, hb3.cell (i := 0) rfl, ?_⟩
  conv => whnf
  refine ⟨_, hb3.cell (i := 1) rfl, ?_⟩
  conv => whnf
  refine ⟨_, hq3.cell (i := 3) rfl, ?_⟩
  conv => whnf
  refine ⟨_, hq3.cell (i := 6) rfl, ?_⟩
  conv => whnf
  refine Calls.ret (swrite_calls h3 slot p.chunk (hp.ext x03) hpl hop (by omega)) ?_
  rintro _ w5 ⟨rfl, h5, m5⟩
  conv => whnf
  have sn5 := write_num (at_ := n) (slot := slot) (chunk := p.chunk) (b := p.data) hop
  have z3 := x03.size
  have hb5 := m5.keepBlk hb3 (fun e => by rcases e with e | e <;> omega)
  have hq5 := m5.keepBlk hq3 (fun e => by rcases e with e | e <;> omega)
  have m05 := (Mod.ofExt (fun k => k = g ∨ k = gw) x03).trans m5
  have z5 := m05.size
  have gW : ∃ W, W = writeSF s n slot p.chunk p.data := ⟨_, rfl⟩
  obtain ⟨W, hW⟩ := gW
  rw [← hW] at h5 sn5 ⊢
  clear hW
  obtain ⟨t, e⟩ := W
  have h5 : SlAt B w5 sb g gw c n t := h5
  have sn5 : Num t s.ws.length (i + 17) := sn5
  have tl := sn5.len
  rw [← tl] at sn5
  dsimp only
  conv => whnf
  refine vcCond_split lok rfl (fun k1 => ?_) (fun k1 => ?_)
  · have k1 : e = 0 := by simpa using k1
    rw [if_pos (.inl k1)]
    conv => whnf
    refine vcCond_split lok rfl (fun _ => ?_) (fun q => absurd (decide_eq_true k1) (by rw [q]; decide))
    conv => whnf
    refine ⟨_, rfl, hb5.cells, ?_⟩
    conv => whnf
    refine ⟨_, hq5.cell (i := 1) rfl, ?_⟩
    conv => whnf
    refine Calls.ret (stands_calls h5 slot p.ver) ?_
    rintro _ w6 ⟨a6, c6, rfl, ho6, x6⟩
    conv => whnf
    exact ⟨a6, c6, rfl, ho6.base z5, h5.ext x6, m05.trans (Mod.ofExt _ x6)⟩
  have k1 : ¬ e = 0 := by simpa using k1
  conv => whnf
  refine vcCond_split lok rfl (fun k2 => ?_) (fun k2 => ?_)
  · have k2 : e = 25 := by simpa using k2
    rw [if_pos (.inr k2)]
    conv => whnf
    refine ⟨_, rfl, hb5.cells, ?_⟩
    conv => whnf
    refine ⟨_, hq5.cell (i := 1) rfl, ?_⟩
    conv => whnf
    refine Calls.ret (stands_calls h5 slot p.ver) ?_
    rintro _ w6 ⟨a6, c6, rfl, ho6, x6⟩
    conv => whnf
    exact ⟨a6, c6, rfl, ho6.base z5, h5.ext x6, m05.trans (Mod.ofExt _ x6)⟩
  have k2 : ¬ e = 25 := by simpa using k2
  rw [if_neg (fun q => by rcases q with q | q; exact k1 q; exact k2 q)]
  conv => whnf
  refine vcCond_split lok rfl (fun k3 => ?_) (fun k3 => ?_)
  · have k3 : e = 4 := by simpa using k3
    rw [if_pos k3]
    conv => whnf
    refine ⟨_, hb5.cell (i := 0) rfl, ?_⟩
    conv => whnf
    refine ⟨_, hb5.cell (i := 1) rfl, ?_⟩
    conv => whnf
    refine Calls.ret (sdrop_calls h5 slot sn5 (by omega)) ?_
    rintro _ w6 ⟨rfl, h6, m6⟩
    conv => whnf
    have hq6 := m6.keepBlk hq5 (fun e => by rcases e with e | e <;> omega)
    have m06 := m05.trans m6
    have z6 := m06.size
    have gD : ∃ D, D = dropSF t n slot := ⟨_, rfl⟩
    obtain ⟨D, hD⟩ := gD
    rw [← hD] at h6 ⊢
    clear hD
    obtain ⟨u, d⟩ := D
    have h6 : SlAt B w6 sb g gw c n u := h6
    dsimp only
    conv => whnf
    refine vcCond_split lok rfl (fun k4 => ?_) (fun k4 => ?_)
    · have k4 := ne_true k4
      rw [if_neg k4]
      conv => whnf
      exact ⟨none, 0, rfl, Own.nil _ _ _ _, h6, m06⟩
    · have k4 := ne_false k4
      rw [if_pos k4]
      conv => whnf
      refine ⟨_, hq6.cell (i := 1) rfl, ?_⟩
      conv => whnf
      refine Calls.ret (answer_calls p.ver 0#32 0) ?_
      rintro _ w7 ⟨a7, c7, rfl, ho7, x7⟩
      conv => whnf
      exact ⟨a7, c7, rfl, ho7.base z6, h6.ext x7, m06.trans (Mod.ofExt _ x7)⟩
  · have k3 : ¬ e = 4 := by simpa using k3
    rw [if_neg k3]
    conv => whnf
    exact ⟨none, 0, rfl, Own.nil _ _ _ _, h5, m05⟩

set_option maxHeartbeats 4000000 in
/-- offer -/
theorem roffer_calls (h : SlAt B w sb g gw c n s) (slot : Int) (p : Pk) {a : Option Addr} {pc : Nat} (hop : Num s s.ws.length i) (hi : i ≤ 1000000) :
    Calls Try.prog 146 #[.agg #[.pointer (some ⟨sb, 0, none⟩), .int .i64 slot], .agg (p.cells a pc).toArray] w (Ret (RcvPost B sb g gw c n (offerF s n slot p) w)) := by
  unfold offerF
  refine calls_of_vc lok Try.func146 ?_ rfl
  conv => whnf
  intro w1 hw1
  have hb1 : Blk w1 w.heap.size 187 [.pointer (some ⟨sb, 0, none⟩), .int .i64 slot] := by rw [hw1]; exact Blk.new w 187 _
  have x1 : Ext w w1 := by rw [hw1]; exact Ext.new _ _
  clear hw1
  conv => whnf
  intro w2 hw2
  have hq2 : Blk w2 w1.heap.size 112 (p.cells a pc) := by rw [hw2]; exact Blk.new w1 112 _
  have x2 : Ext w1 w2 := by rw [hw2]; exact Ext.new _ _
  clear hw2
  have hb2 := hb1.ext x2
  have x02 := x1.trans x2
  have lt1 := hb1.lt
  have lth := h.f.lt
  have lts := h.b.lt
  have z1 := x1.size
  have z2 := x02.size
  conv => whnf
  refine ⟨_, hq2.cell (i := 1) rfl, ?_⟩
  conv => whnf
  refine vcCond_split lok rfl (fun k1 => ?_) (fun k1 => ?_)
  · have k1 : p.ver = ones := ver_ne.1 (dt k1)
    rw [if_pos k1]
    conv => whnf
    refine ⟨_, hq2.cell (i := 1) rfl, ?_⟩
    conv => whnf
    refine Calls.ret (answer_calls p.ver 0#32 0) ?_
    rintro _ w5 ⟨a5, c5, rfl, ho5, x5⟩
    conv => whnf
    exact ⟨a5, c5, rfl, ho5.base z2, (h.ext x02).ext x5, Mod.ofExt _ (x02.trans x5)⟩
  have k1 : ¬ p.ver = ones := fun q => df k1 (ver_ne.2 q)
  rw [if_neg k1]
  conv => whnf
  refine ⟨_, hb2.cell (i := 0) rfl, ?_⟩
  conv => whnf
  refine ⟨_, hb2.cell (i := 1) rfl, ?_⟩
  conv => whnf
  refine Calls.ret (shead_calls (h.ext x02) slot) ?_
  rintro _ w3 ⟨rfl, x3⟩
  conv => whnf
  have x03 := x02.trans x3
  have hb3 := hb2.ext x3
  have hq3 := hq2.ext x3
  have h3 := h.ext x03
  have gH : ∃ H, H = headR s n slot := ⟨_, rfl⟩
  obtain ⟨H, hH⟩ := gH
  rw [← hH]
  clear hH
  obtain ⟨ha, hb, hc⟩ := H
  conv => whnf
  refine vcReg_meet lok (fun β : Bool => [(38, .bool β)]) (fun β w' => w' = w3 ∧ β = !decide (hc = true ∧ ha = p.ver ∧ (hb : Int) = p.size)) [38] (fun _ => rfl) rfl ?_ ?_
  · conv => whnf
    refine bcase (fun k1 => ?_) (fun k1 => ?_)
    · have k1 : hc = false := by simpa using k1
      conv => whnf
      exact ⟨_, ⟨rfl, trivial⟩, rfl, by rw [k1, decide_eq_false (fun q => by cases q.1)]; rfl⟩
    · have k1 : hc = true := by simpa using k1
      conv => whnf
      refine ⟨_, hq3.cell (i := 1) rfl, ?_⟩
      conv => whnf
      refine bcase (fun k2 => ?_) (fun k2 => ?_)
      · have k2 := ne_true k2
        conv => whnf
        exact ⟨_, ⟨rfl, trivial⟩, rfl, by rw [decide_eq_false (fun q => k2 (ver_ne.2 q.2.1))]; rfl⟩
      · have k2 := ver_ne.1 (ne_false k2)
        conv => whnf
        refine ⟨_, hq3.cell (i := 2) rfl, ?_⟩
        conv => whnf
        refine ⟨_, ⟨rfl, trivial⟩, rfl, ?_⟩
        congr 1
        rw [decide_eq_decide]
        exact ⟨fun q => ⟨k1, k2, q⟩, fun q => q.2.2⟩
  rintro β w4 ⟨hw4, hβ⟩
  subst hw4
  have z3 := x03.size
  conv => whnf
  refine vcCond_split lok rfl (fun k2 => ?_) (fun k2 => ?_)
  · rw [k2] at hβ
    have k3 : ¬ (hc = true ∧ ha = p.ver ∧ (hb : Int) = p.size) := fun q => by rw [decide_eq_true q] at hβ; cases hβ
    rw [if_neg k3]
    conv => whnf
    refine ⟨_, hb3.cell (i := 0) rfl, ?_⟩
    conv => whnf
    refine ⟨_, hb3.cell (i := 1) rfl, ?_⟩
    conv => whnf
    refine ⟨_, hq3.cell (i := 1) rfl, ?_⟩
    conv => whnf
    refine ⟨_, hq3.cell (i := 2) rfl, ?_⟩
    conv => whnf
    refine Calls.ret (sbegin_calls h3 slot p.ver p.size hop (by omega)) ?_
    rintro _ w5 ⟨rfl, h5, m5⟩
    conv => whnf
    have hb5 := m5.keepBlk hb3 (fun e => by rcases e with e | e <;> omega)
    have hq5 := m5.keepBlk hq3 (fun e => by rcases e with e | e <;> omega)
    have m05 := (Mod.ofExt (fun k => k = g ∨ k = gw) x03).trans m5
    have z5 := m05.size
    have gW : ∃ W, W = beginSF s n slot p.ver p.size := ⟨_, rfl⟩
    obtain ⟨W, hW⟩ := gW
    rw [← hW] at h5 ⊢
    clear hW
    obtain ⟨t, e⟩ := W
    have h5 : SlAt B w5 sb g gw c n t := h5
    dsimp only
    conv => whnf
    refine vcCond_split lok rfl (fun k4 => ?_) (fun k4 => ?_)
    · have k4 := ne_true k4
      rw [if_neg k4]
      conv => whnf
      exact ⟨none, 0, rfl, Own.nil _ _ _ _, h5, m05⟩
    · have k4 := ne_false k4
      rw [if_pos k4]
      conv => whnf
      refine ⟨_, rfl, hb5.cells, ?_⟩
      conv => whnf
      refine ⟨_, hq5.cell (i := 1) rfl, ?_⟩
      conv => whnf
      refine Calls.ret (stands_calls h5 slot p.ver) ?_
      rintro _ w6 ⟨a6, c6, rfl, ho6, x6⟩
      conv => whnf
      exact ⟨a6, c6, rfl, ho6.base z5, h5.ext x6, m05.trans (Mod.ofExt _ x6)⟩
  · rw [k2] at hβ
    have k3 : hc = true ∧ ha = p.ver ∧ (hb : Int) = p.size := by
      by_cases q : hc = true ∧ ha = p.ver ∧ (hb : Int) = p.size
      · exact q
      · rw [decide_eq_false q] at hβ; cases hβ
    rw [if_pos k3]
    conv => whnf
    refine ⟨_, rfl, hb3.cells, ?_⟩
    conv => whnf
    refine ⟨_, hq3.cell (i := 1) rfl, ?_⟩
    conv => whnf
    refine Calls.ret (stands_calls h3 slot p.ver) ?_
    rintro _ w6 ⟨a6, c6, rfl, ho6, x6⟩
    conv => whnf
    exact ⟨a6, c6, rfl, ho6.base z3, h3.ext x6, Mod.ofExt _ (x03.trans x6)⟩

set_option maxHeartbeats 4000000 in
/-- Receive -/
theorem rcv_calls (h : SlAt B w sb g gw c n s) (slot : Int) (least : BitVec 32) (busy : Bool) {a : Option Addr} {bc : Nat} {b : List (BitVec 8)} (hb : Sl u8v w a b) (hbl : b.length ≤ 16777216) (hbc : b.length ≤ bc) (hop : Num s s.ws.length i) (hi : i ≤ 1000000) :
    Calls Try.prog 77 #[.pointer (some ⟨sb, 0, none⟩), .int .i64 slot, .int .u32 least.toNat, .bool busy, .slice a b.length bc] w (Ret (RcvPost B sb g gw c n (rcvF s n slot least busy b) w)) := by
  unfold rcvF
  refine calls_of_vc lok Try.func77 ?_ rfl
  conv => whnf
  refine vcCond_false lok (rfl) ?_
  conv => whnf
  refine Calls.ret (unpack_calls hb hbl hbc) ?_
  rintro _ w1 ⟨a1, c1, rfl, ho1, x1⟩
  conv => whnf
  have hcan := unpack_can (b := b)
  have gU : ∃ U, U = unpackF b := ⟨_, rfl⟩
  obtain ⟨U, hU⟩ := gU
  rw [← hU] at ho1 hcan ⊢
  clear hU
  obtain ⟨p, e⟩ := U
  have ho1 : Own 5 u8v w.heap.size w1 a1 c1 p.data := ho1
  have hcan : e = 0 → canP p = true := hcan
  have lt1 := h.f.lt
  have ltb := h.b.lt
  have z1 := x1.size
  dsimp only
  conv => whnf
  intro w2 hw2
  have hb2 : Blk w2 w1.heap.size 112 (Pk.zero.cells none 0) := by rw [hw2]; exact Blk.new w1 112 _
  have x2 : Ext w1 w2 := by rw [hw2]; exact Ext.new _ _
  clear hw2
  conv => whnf
  have k3 := Blk.storeAgg lok hb2 (t := 112) (us := p.cells a1 c1) rfl 0 (Nat.le_refl 7) (Pk.one _ _ _)
  obtain ⟨w3, hr3, hb3, g3⟩ := k3
  have hb3 : Blk w3 w1.heap.size 112 (p.cells a1 c1) := hb3
  have x3 : Ext w1 w3 := g3.extOf x2 (fun g hg => by cases hg; exact Nat.le_refl _)
  refine ⟨w3, hr3, ?_⟩
  have x03 := x1.trans x3
  have h3 := h.ext x03
  have hs3 := (ho1.ext x3).sl
  clear hr3 g3 hb2 x2
  have z3 := x03.size
  conv => whnf
  refine vcCond_split lok rfl (fun k1 => ?_) (fun k1 => ?_)
  · have k1 := ne_true k1
    rw [if_pos k1]
    conv => whnf
    exact ⟨none, 0, rfl, Own.nil _ _ _ _, h3, Mod.ofExt _ x03⟩
  have k1 := ne_false k1
  have hcan := hcan k1
  rw [if_neg (fun q => q k1)]
  conv => whnf
  refine ⟨_, hb3.cell (i := 0) rfl, ?_⟩
  conv => whnf
  refine vcCond_split lok rfl (fun k2 => ?_) (fun k2 => ?_)
  · have k2 := dt k2
    rw [if_pos k2]
    conv => whnf
    exact ⟨none, 0, rfl, Own.nil _ _ _ _, h3, Mod.ofExt _ x03⟩
  have k2 := df k2
  rw [if_neg k2]
  conv => whnf
  refine vcReg_meet lok (fun β : Bool => [(31, .bool β)]) (fun β w' => w' = w3 ∧ β = decide (busy = true ∨ p.ver.toNat ≤ least.toNat)) [31] (fun _ => rfl) rfl ?_ ?_
  · conv => whnf
    refine bcase (fun k3 => ?_) (fun k3 => ?_)
    · conv => whnf
      exact ⟨_, ⟨rfl, trivial⟩, rfl, by rw [decide_eq_true (.inl k3)]⟩
    · conv => whnf
      refine ⟨_, hb3.cell (i := 1) rfl, ?_⟩
      conv => whnf
      refine ⟨_, ⟨rfl, trivial⟩, rfl, ?_⟩
      rw [decide_eq_decide]
      exact ⟨fun q => .inr (by omega), fun q => by rcases q with q | q; rw [k3] at q; cases q; omega⟩
  rintro β w4 ⟨hw4, hβ⟩
  subst hw4
  conv => whnf
  refine vcCond_split lok rfl (fun k3 => ?_) (fun k3 => ?_)
  · rw [k3] at hβ
    rw [if_pos (dt hβ.symm)]
    conv => whnf
    refine ⟨_, hb3.cell (i := 1) rfl, ?_⟩
    conv => whnf
    refine Calls.ret (answer_calls p.ver 0#32 0) ?_
    rintro _ w5 ⟨a5, c5, rfl, ho5, x5⟩
    conv => whnf
    exact ⟨a5, c5, rfl, ho5.base z3, h3.ext x5, Mod.ofExt _ (x03.trans x5)⟩
  rw [k3] at hβ
  rw [if_neg (df hβ.symm)]
  clear hβ k3
  conv => whnf
  refine ⟨_, fun w => run_build w 187 _ _ (show Try.prog.built 187 [(0, .pointer (some ⟨sb, 0, none⟩)), (1, .int .i64 slot)] = some #[.pointer (some ⟨sb, 0, none⟩), .int .i64 slot] by kernel_rfl), ?_⟩
  conv => whnf
  intro w5 hw5
  have hr5 : Blk w5 w4.heap.size 187 [.pointer none, .int .i64 0] := by rw [hw5]; exact Blk.new w4 187 _
  have x5 : Ext w4 w5 := by rw [hw5]; exact Ext.new _ _
  clear hw5
  conv => whnf
  have k6 := Blk.storeAgg lok hr5 (t := 187) (us := [.pointer (some ⟨sb, 0, none⟩), .int .i64 slot]) rfl 0 (Nat.le_refl 2) (by intro u hu; simp only [List.mem_cons, List.not_mem_nil, or_false] at hu; rcases hu with rfl | rfl <;> rfl)
  obtain ⟨w6, hr6, hv6, g6⟩ := k6
  have hv6 : Blk w6 w4.heap.size 187 [.pointer (some ⟨sb, 0, none⟩), .int .i64 slot] := hv6
  have x6 : Ext w4 w6 := g6.extOf x5 (fun g hg => by cases hg; exact Nat.le_refl _)
  refine ⟨w6, hr6, ?_⟩
  have x06 := x03.trans x6
  have h6 := h.ext x06
  have hb6 := hb3.ext x6
  have hs6 := hs3.ext x6
  have hdl : p.data.length ≤ 9223372036854775807 := by
    rcases canP_cases hcan with ⟨q, _⟩ | ⟨_, _, _, q⟩ | ⟨q, _⟩
    · rw [q]; exact Nat.zero_le _
    · omega
    · rw [q]; exact Nat.zero_le _
  have z6 := x06.size
  clear hr6 g6 hr5 x5
  conv => whnf
  refine ⟨_, rfl, hv6.cells, ?_⟩
  conv => whnf
  refine ⟨_, hb6.cell (i := 0) rfl, ?_⟩
  conv => whnf
  refine vcCond_split lok rfl (fun k3 => ?_) (fun k3 => ?_)
  · have k3 := dt k3
    rw [if_pos k3]
    conv => whnf
    refine ⟨_, rfl, hv6.cells, ?_⟩
    conv => whnf
    refine ⟨_, rfl, hb6.cells, ?_⟩
    conv => whnf
    refine Calls.ret (roffer_calls h6 slot p hop hi) ?_
    rintro _ w7 ⟨a7, c7, rfl, ho7, h7, m7⟩
    conv => whnf
    exact ⟨a7, c7, rfl, ho7.base z6, h7, (Mod.ofExt _ x06).trans m7⟩
  · have k3 := df k3
    rw [if_neg k3]
    conv => whnf
    refine ⟨_, rfl, hb6.cells, ?_⟩
    conv => whnf
    refine Calls.ret (rdata_calls h6 slot p hs6 hdl hop hi) ?_
    rintro _ w7 ⟨a7, c7, rfl, ho7, h7, m7⟩
    conv => whnf
    exact ⟨a7, c7, rfl, ho7.base z6, h7, (Mod.ofExt _ x06).trans m7⟩
/-- without slots -/
theorem rcvNil_calls {w : World} (slot least : Int) (busy : Bool) (v : Value) : Calls Try.prog 77 #[.pointer none, .int .i64 slot, .int .u32 least, .bool busy, v] w (Ret fun r w' => r = .tuple #[.slice none 0 0, .int .i64 26] ∧ w' = w) := by
  refine calls_of_vc lok Try.func77 ?_ rfl
  conv => whnf
  refine vcCond_true lok (rfl) ?_
  conv => whnf
  exact ⟨rfl, rfl⟩
end
end Go.Proofs.Ytgipackjnncabaa
