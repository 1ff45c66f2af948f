/- Walks of layer 22, second part: words laid; dropped; begun; the head. -/
import Derived.Test.YtgipackjnncabaaW22a
set_option linter.unusedVariables false
namespace Go.Proofs.Ytgipackjnncabaa
open Go.Vc Go.RowKit

theorem progF_code {s : FS} {i : Int} {x : BitVec 32} (h0 : 0 ≤ i) (h1 : i < s.ws.length) : (progF s i x).2 = 0 ∨ (progF s i x).2 = 7 := by
  unfold progF
  split
  · exact .inr rfl
  · rw [if_neg (by omega)]
    split
    · exact .inr rfl
    · exact .inl rfl
theorem Num.all {n : Nat} : ∀ (xs : List (BitVec 32)) (s : FS) (i : Nat) (a : Int), Num s n i → Num (progAllF s a xs).1 n (i + xs.length)
  | [], s, i, a, h => h
  | x :: xs, s, i, a, h => by
    have k := h.prog a x
    rw [List.length_cons]
    unfold progAllF
    split
    · exact (Num.all xs _ (i + 1) (a + 1) k).up (by omega)
    · exact k.up (by omega)

section
variable {B : Nat} {w : World} {sb g gw c n i : Nat} {s : FS}
set_option maxHeartbeats 1000000 in
/-- lay -/
theorem slay_calls (h : SlAt B w sb g gw c n s) (slot : Int) (hb : ¬ badF slot) (at_ : Nat) {xa : Option Addr} {xc : Nat} {xs : List (BitVec 32)} (hx : ∀ w', FlMod g gw w w' → Sl u32v w' xa xs) (hat : at_ + xs.length ≤ 768)
    (hop : Num s s.ws.length i) (hi : i ≤ 2305843009213693952) :
    Calls Try.prog 174 #[.pointer (some ⟨sb, 0, none⟩), .int .i64 slot, .int .i64 at_, .slice xa xs.length xc] w
      (Ret fun v w' => v = .int .i64 (progAllF s (atF n slot + at_ : Nat) xs).2 ∧ SlAt B w' sb g gw c n (progAllF s (atF n slot + at_ : Nat) xs).1 ∧ FlMod g gw w w') := by
  have hr := h.room
  have hm := h.small
  have hp := atF_le hb hr
  have hpd : ((n + 3 * slot.toNat : Nat) : Int) * 256 = (atF n slot : Int) := by unfold atF; omega
  refine calls_of_vcS lok Try.func174 ?_ rfl
  conv => whnf
  refine vcLoop_meet 0 (fun e : Int => [(9, .int .i64 e)]) (fun e w' => e = (progAllF s (atF n slot + at_ : Nat) xs).2 ∧ SlAt B w' sb g gw c n (progAllF s (atF n slot + at_ : Nat) xs).1 ∧ FlMod g gw w w') ?_ ?_
  · refine vcLoop_inv lok (σ := Nat)
      (fun k => [(13, .int .i64 k), (12, .int .i64 xs.length), (9, .int .i64 0), (0, .pointer (some ⟨sb, 0, none⟩)), (1, .int .i64 slot), (2, .int .i64 at_), (3, .slice xa xs.length xc)])
      (fun k w' => k ≤ xs.length ∧ ∃ sk, SlAt B w' sb g gw c n sk ∧ Num sk s.ws.length (i + k) ∧ FlMod g gw w w' ∧ progAllF s (atF n slot + at_ : Nat) xs = progAllF sk (atF n slot + at_ + k : Nat) (xs.drop k)) (fun k => xs.length - k)
      0 ⟨rfl, rfl, rfl, rfl, rfl, rfl, rfl, trivial⟩ ⟨Nat.zero_le _, s, h, hop, Mod.refl _ _, by rw [Nat.add_zero, List.drop_zero]⟩ ?_
    rintro k w1 ⟨hk, sk, h1, op1, m1, e1⟩
    have hl1 := op1.len
    conv => whnf
    refine vcCond_split lok rfl (fun h2 => ?_) (fun h2 => ?_)
    rotate_left
    · have h2 := df h2
      conv => whnf
      have hkl : k = xs.length := by omega
      rw [List.drop_of_length_le (by omega), progAllF] at e1
      rw [e1]
      exact ⟨0, ⟨rfl, trivial⟩, rfl, h1, m1⟩
    have h2 := dt h2
    conv => whnf
    have hkl : k < xs.length := by omega
    have edr : xs.drop k = xs.getD k 0#32 :: xs.drop (k + 1) := by
      rw [List.drop_eq_getElem_cons hkl]
      simp [List.getD, List.getElem?_eq_getElem hkl]
    rw [edr, progAllF] at e1
    refine vcDraw_meet lok mixed (Ext w1) [6] [0, 1, 2, 3, 4, 5, 8, 10, 12, 13, 14, 15, 6, 7, 9, 11, 16, 17] (fun e : Int => [(9, .int .i64 e)])
      (fun e w' => e = (progF sk (atF n slot + at_ + k : Nat) (xs.getD k 0#32)).2 ∧ SlAt B w' sb g gw c n (progF sk (atF n slot + at_ + k : Nat) (xs.getD k 0#32)).1 ∧ FlMod g gw w w') [9] (fun _ => rfl) rfl (by kernel_rfl) (fun w2 hw2 => ⟨hw2 ▸ Ext.drew w1, ?_⟩) ?_
    · have x2 : Ext w1 w2 := hw2 ▸ Ext.drew w1
      clear hw2
      have hsb := h1.b
      have hsx := hx w1 m1
      conv => whnf
      refine ⟨_, fun w' hw' => (hsb.ext hw').cell (i := 0) rfl, ?_⟩
      conv => whnf
      have g8 := sl_get (hsx) ((k : Int)) (k) (by omega) (by omega)
      obtain ⟨p8, o8, ha8, hb8, hcell8⟩ := g8
      refine ⟨p8, o8, ha8, hb8, ?_⟩
      conv => whnf
      refine ⟨_, fun w' hw' => Below.cell_of hw' (cell_lt hcell8) hcell8, ?_⟩
      conv => whnf
      refine Calls.ret (ssector_calls (h1.ext x2) slot hb) ?_
      rintro _ w3 ⟨rfl, hw3⟩
      subst hw3
      refine ⟨_, fun _ h => h, x2, ?_⟩
      conv => whnf
      refine ⟨by omega, ?_⟩
      conv => whnf
      refine ⟨by omega, ?_⟩
      conv => whnf
      refine ⟨by omega, ?_⟩
      conv => whnf
      rw [hpd, show (atF n slot : Int) + (at_ : Int) + (k : Int) = ((atF n slot + at_ + k : Nat) : Int) by omega]
      refine Calls.ret (prog_calls (h1.f.ext x2) ((atF n slot + at_ + k : Nat) : Int) (xs.getD k 0#32) (by omega) (op1.ok (by omega))) ?_
      rintro _ w4 ⟨rfl, f4, m4⟩
      conv => whnf
      exact ⟨_, ⟨rfl, trivial⟩, rfl, (h1.ext x2).next f4 m4 (progF_le sk _ _).len, (m1.trans (Mod.ofExt _ x2)).trans m4⟩
    rintro e w2 ⟨he, h3, m3⟩
    conv => whnf
    have hcode := progF_code (s := sk) (i := ((atF n slot + at_ + k : Nat) : Int)) (x := xs.getD k 0#32) (by omega) (by omega)
    refine vcCond_split lok rfl (fun h4 => ?_) (fun h4 => ?_)
    · have h4 := ne_true h4
      rw [he] at h4
      rw [if_neg h4] at e1
      rw [e1]
      conv => whnf
      refine ⟨e, ⟨rfl, trivial⟩, ?_, h3, m3⟩
      rw [he]
      rcases hcode with q | q
      · exact absurd q h4
      · exact q
    · have h4 := ne_false h4
      subst h4
      rw [if_pos he.symm] at e1
      conv => whnf
      refine ⟨by omega, ?_⟩
      conv => whnf
      refine ⟨k + 1, ⟨rfl, rfl, rfl, rfl, rfl, rfl, rfl, trivial⟩, ⟨by omega, _, h3, (op1.prog _ _).up (by omega), m3, by rw [show ((atF n slot + at_ + (k + 1) : Nat) : Int) = ((atF n slot + at_ + k : Nat) : Int) + 1 by omega]; exact e1⟩, by omega⟩
  rintro e w1 ⟨rfl, h1, m1⟩
  conv => whnf
  exact ⟨rfl, h1, m1⟩

/-- Drop -/
theorem sdrop_calls (h : SlAt B w sb g gw c n s) (slot : Int) (hop : Num s s.ws.length i) (hi : i ≤ 2305843009213693952) :
    Calls Try.prog 132 #[.pointer (some ⟨sb, 0, none⟩), .int .i64 slot] w (Ret fun v w' => v = .int .i64 (dropSF s n slot).2 ∧ SlAt B w' sb g gw c n (dropSF s n slot).1 ∧ FlMod g gw w w') := by
  have hr := h.room
  have hm := h.small
  unfold dropSF
  refine calls_of_vc lok Try.func132 ?_ rfl
  conv => whnf
  refine Calls.ret (scheck_calls h slot) ?_
  rintro _ w1 ⟨rfl, hw1⟩
  conv => whnf
  subst hw1
  refine vcCond_split lok rfl (fun h1 => ?_) (fun h1 => ?_)
  · have h1 := ne_true h1
    rw [if_pos h1]
    conv => whnf
    exact ⟨rfl, h, Mod.refl _ _⟩
  have h1 := ne_false h1
  rw [if_neg (fun q => q h1)]
  have hb := (check_zero h1).2
  conv => whnf
  refine vcDraw_go lok mixed (Ext w1) [6] [0, 1, 2, 3, 4, 5, 6, 7, 8] (by kernel_rfl) (fun w2 hw2 => ⟨hw2 ▸ Ext.drew w1, ?_⟩)
  have x2 : Ext w1 w2 := hw2 ▸ Ext.drew w1
  clear hw2
  have hsb := h.b
  conv => whnf
  refine ⟨_, fun w' hw' => (hsb.ext hw').cell (i := 0) rfl, ?_⟩
  conv => whnf
  refine Calls.ret (ssector_calls (h.ext x2) slot hb) ?_
  rintro _ w3 ⟨rfl, hw3⟩
  subst hw3
  refine ⟨_, fun _ h => h, x2, ?_⟩
  conv => whnf
  refine Calls.ret (erase_calls (h.f.ext x2) ((n + 3 * slot.toNat : Nat) : Int) (by omega) (hop.ok (by omega))) ?_
  rintro _ w4 ⟨rfl, f4, m4⟩
  conv => whnf
  have hle := (eraseF_le s ((n + 3 * slot.toNat : Nat) : Int)).len
  exact ⟨rfl, (h.ext x2).next f4 m4 hle, (Mod.ofExt _ x2).trans m4⟩

set_option maxHeartbeats 1000000 in
/-- Begin -/
theorem sbegin_calls (h : SlAt B w sb g gw c n s) (slot : Int) (v : BitVec 32) (m : Int) (hop : Num s s.ws.length i) (hi : i ≤ 1152921504606846976) :
    Calls Try.prog 124 #[.pointer (some ⟨sb, 0, none⟩), .int .i64 slot, .int .u32 v.toNat, .int .i64 m] w (Ret fun r w' => r = .int .i64 (beginSF s n slot v m).2 ∧ SlAt B w' sb g gw c n (beginSF s n slot v m).1 ∧ FlMod g gw w w') := by
  have hr := h.room
  have hm := h.small
  have ecode : ∀ (t : FS) (k : Nat), k < t.ws.length / 256 → (eraseF t k).2 = 0 ∨ (eraseF t k).2 = 7 := by
    intro t k hk
    unfold eraseF
    split
    · exact .inr rfl
    · rw [if_neg (by omega)]
      split
      · exact .inr rfl
      · exact .inl rfl
  unfold beginSF
  refine calls_of_vc lok Try.func124 ?_ rfl
  conv => whnf
  refine Calls.ret (scheck_calls h slot) ?_
  rintro _ w1 ⟨rfl, hw1⟩
  conv => whnf
  subst hw1
  refine vcCond_split lok rfl (fun h1 => ?_) (fun h1 => ?_)
  · have h1 := ne_true h1
    rw [if_pos h1]
    conv => whnf
    exact ⟨rfl, h, Mod.refl _ _⟩
  have h1 := ne_false h1
  rw [if_neg (fun q => q h1)]
  have hb := (check_zero h1).2
  have hp := atF_le hb hr
  conv => whnf
  refine Calls.ret (canBe_calls v m) ?_
  rintro _ w2 ⟨rfl, hw2⟩
  conv => whnf
  subst hw2
  refine vcCond_split lok rfl (fun h2 => ?_) (fun h2 => ?_)
  · have h2 : ¬ canN v m := by
      intro q; rw [decide_eq_true q] at h2; cases h2
    rw [if_pos h2]
    conv => whnf
    exact ⟨rfl, h, Mod.refl _ _⟩
  have h2 : canN v m := by
    by_cases q : canN v m
    · exact q
    · rw [decide_eq_false q] at h2; cases h2
  rw [if_neg (fun q => q h2)]
  have hsl : ∃ k, k = n + 3 * slot.toNat ∧ k + 3 ≤ s.ws.length / 256 := ⟨_, rfl, by unfold badF at hb; omega⟩
  obtain ⟨sec, hsec, hsec2⟩ := hsl
  rw [← hsec]
  generalize hE : eraseAllF s sec 3 = E3
  conv => whnf
  refine vcLoop_inv lok (σ := Nat)
    (fun k => [(22, .int .i64 k), (0, .pointer (some ⟨sb, 0, none⟩)), (1, .int .i64 slot), (2, .int .u32 v.toNat), (3, .int .i64 m)])
    (fun k w' => k ≤ 3 ∧ ∃ sk, SlAt B w' sb g gw c n sk ∧ Num sk s.ws.length (i + k) ∧ FlMod g gw w2 w' ∧ E3 = eraseAllF sk (sec + k) (3 - k)) (fun k => 3 - k)
    0 ⟨rfl, rfl, rfl, rfl, rfl, trivial⟩ ⟨Nat.zero_le _, s, h, hop, Mod.refl _ _, hE.symm⟩ ?_
  rintro k w3 ⟨hk, sk, h3, op3, m3, e3⟩
  have hl3 := op3.len
  conv => whnf
  refine vcCond_split lok rfl (fun h4 => ?_) (fun h4 => ?_)
  · have h4 := dt h4
    conv => whnf
    have hk3 : k < 3 := by omega
    rw [show 3 - k = (3 - (k + 1)) + 1 by omega, eraseAllF] at e3
    refine vcDraw_meet lok mixed (Ext w3) [6] [0, 1, 2, 3, 4, 5, 7, 6, 8, 9, 10] (fun e : Int => [(11, .int .i64 e)])
      (fun e w' => e = (eraseF sk (sec + k : Nat)).2 ∧ SlAt B w' sb g gw c n (eraseF sk (sec + k : Nat)).1 ∧ FlMod g gw w2 w') [11] (fun _ => rfl) rfl (by kernel_rfl) (fun w4 hw4 => ⟨hw4 ▸ Ext.drew w3, ?_⟩) ?_
    · have x4 : Ext w3 w4 := hw4 ▸ Ext.drew w3
      clear hw4
      have hsb := h3.b
      conv => whnf
      refine ⟨_, fun w' hw' => (hsb.ext hw').cell (i := 0) rfl, ?_⟩
      conv => whnf
      refine Calls.ret (ssector_calls (h3.ext x4) slot hb) ?_
      rintro _ w5 ⟨rfl, hw5⟩
      subst hw5
      refine ⟨_, fun _ h => h, x4, ?_⟩
      conv => whnf
      refine ⟨by omega, ?_⟩
      conv => whnf
      rw [← hsec, show (sec : Int) + (k : Int) = ((sec + k : Nat) : Int) by omega]
      refine Calls.ret (erase_calls (h3.f.ext x4) ((sec + k : Nat) : Int) (by omega) (op3.ok (by omega))) ?_
      rintro _ w6 ⟨rfl, f6, m6⟩
      conv => whnf
      exact ⟨_, ⟨rfl, trivial⟩, rfl, (h3.ext x4).next f6 m6 (eraseF_le sk _).len, (m3.trans (Mod.ofExt _ x4)).trans m6⟩
    rintro e w4 ⟨he, h5, m5⟩
    have hcode := ecode sk (sec + k) (by omega)
    conv => whnf
    refine vcCond_split lok rfl (fun h6 => ?_) (fun h6 => ?_)
    · have h6 := ne_true h6
      rw [he] at h6
      rw [if_neg h6] at e3
      rw [e3]
      rw [if_neg h6]
      conv => whnf
      refine ⟨?_, h5, m5⟩
      rw [he]
      rcases hcode with q | q
      · exact absurd q h6
      · rw [q]
    · have h6 := ne_false h6
      subst h6
      rw [if_pos he.symm] at e3
      conv => whnf
      refine ⟨by omega, ?_⟩
      conv => whnf
      exact ⟨k + 1, ⟨rfl, rfl, rfl, rfl, rfl, trivial⟩, ⟨by omega, _, h5, (op3.erase _).up (by omega), m5, e3⟩, by omega⟩
  · have h4 := df h4
    conv => whnf
    have hk3 : k = 3 := by omega
    subst hk3
    rw [show 3 - 3 = 0 from rfl, eraseAllF] at e3
    rw [e3, if_pos rfl]
    have hm2 := h2.2.2
    intro y hz
    have hz52 : y = ((BitVec.ofInt 32 m).toNat : Int) := by rw [hz, wu32, BitVec.toNat_ofInt]; omega
    clear hz
    subst hz52
    conv => whnf
    have g5 := run_buildN (P := Try.prog) (t := 37) (e := 42) e32.toElem [u32v v, u32v (BitVec.ofInt 32 m), u32v 0#32] (by simp [u32v, Value.oneCell']) (by simp) w3
    refine ⟨_, _, g5, ?_⟩
    have ho5 := own_lit (w := w3) [v, BitVec.ofInt 32 m, 0#32] (by simp)
    have x5 : Ext w3 (w3.alloc (.cells ([v, BitVec.ofInt 32 m, 0#32].map u32v).toArray 42)) := Ext.new _ _
    have hg3 := h3.f.lt
    have g6 := slay_calls (xc := 3) (h3.ext x5) slot hb 0 (xs := [v, BitVec.ofInt 32 m, 0#32]) (fun w' m' => (m'.keepOwn ho5 (fun k hk e => by
      have := (ho5.ge k hk).1
      rcases e with e | e <;> omega)).sl) (by simp) (by rw [hl3]; exact op3) (by omega)
    rw [Nat.add_zero] at g6
    conv => whnf
    refine Calls.ret (g6) ?_
    rintro _ w6 ⟨rfl, h6, m6⟩
    conv => whnf
    exact ⟨rfl, h6, (m3.trans (Mod.ofExt _ x5)).trans m6⟩
end
end Go.Proofs.Ytgipackjnncabaa
