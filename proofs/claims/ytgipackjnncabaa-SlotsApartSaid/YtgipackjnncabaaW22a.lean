/- Walks of layer 22, first part: slots, their words, laid, begun, dropped. -/
import Derived.Test.YtgipackjnncabaaW07a
import Derived.Test.YtgipackjnncabaaVcX
import Derived.Test.YtgipackjnncabaaPl22
set_option linter.unusedVariables false
namespace Go.Proofs.Ytgipackjnncabaa
open Go.Vc Go.RowKit

/-- slots' cells -/
def sC (g n : Nat) : List Value := [.pointer (some ⟨g, 0, none⟩), .int .i64 n]
/-- two slots at block sb, on a flash -/
structure SlAt (B : Nat) (w : World) (sb g gw c n : Nat) (s : FS) : Prop where
  f : FlAt 181 B w g gw c s
  b : Blk w sb 162 (sC g n)
  n1 : sb ≠ g
  n2 : sb ≠ gw
  room : 256 * (n + 6) ≤ s.ws.length
  small : s.ws.length ≤ 65536
section
variable {B : Nat} {w w' : World} {sb g gw c n : Nat} {s t : FS}
theorem SlAt.ext (h : SlAt B w sb g gw c n s) (x : Ext w w') : SlAt B w' sb g gw c n s := ⟨h.f.ext x, h.b.ext x, h.n1, h.n2, h.room, h.small⟩
theorem SlAt.next (h : SlAt B w sb g gw c n s) (f : FlAt 181 B w' g gw c t) (m : FlMod g gw w w') (hl : t.ws.length = s.ws.length) : SlAt B w' sb g gw c n t :=
  ⟨f, m.keepBlk h.b (fun e => by rcases e with e | e; exact h.n1 e; exact h.n2 e), h.n1, h.n2, by rw [hl]; exact h.room, by rw [hl]; exact h.small⟩
end
theorem atF_le {n : Nat} {slot : Int} (hb : ¬ badF slot) {l : Nat} (h : 256 * (n + 6) ≤ l) : atF n slot + 768 ≤ l := by
  unfold atF
  unfold badF at hb
  omega

section
variable {B : Nat} {w : World} {sb g gw c n : Nat} {s : FS}
/-- check -/
theorem scheck_calls (h : SlAt B w sb g gw c n s) (slot : Int) : Calls Try.prog 171 #[.pointer (some ⟨sb, 0, none⟩), .int .i64 slot] w (Ret fun v w' => v = .int .i64 (checkF s slot) ∧ w' = w) := by
  refine calls_of_vc lok Try.func171 ?_ rfl
  conv => whnf
  refine vcReg_go lok ?_
  conv => whnf
  refine ⟨_, h.b.cell (i := 0) rfl, ?_⟩
  conv => whnf
  refine vcCond_false lok (rfl) ?_
  conv => whnf
  refine ⟨_, h.b.cell (i := 0) rfl, ?_⟩
  conv => whnf
  refine Calls.ret (fon_calls h.f) ?_
  rintro _ w1 ⟨rfl, rfl⟩
  conv => whnf
  unfold checkF
  refine vcCond_split lok rfl (fun h1 => ?_) (fun h1 => ?_)
  · rw [Bool.not_not] at h1
    rw [if_pos h1]
    conv => whnf
    exact ⟨rfl, rfl⟩
  rw [Bool.not_not] at h1
  rw [h1, if_neg Bool.false_ne_true]
  conv => whnf
  refine vcReg_meet lok (fun β : Bool => [(22, .bool β)]) (fun β w' => w' = w1 ∧ β = decide (badF slot)) [22] (fun _ => rfl) rfl ?_ ?_
  · conv => whnf
    refine bcase (fun k1 => ?_) (fun k1 => ?_)
    · have k1 := dt k1
      conv => whnf
      exact ⟨_, ⟨rfl, trivial⟩, rfl, (decide_eq_true (show badF slot from .inl k1)).symm⟩
    have k1 := df k1
    conv => whnf
    refine ⟨_, ⟨rfl, trivial⟩, rfl, ?_⟩
    rw [decide_eq_decide]
    exact ⟨fun e => .inr e, fun e => by rcases e with e | e; exact absurd e k1; exact e⟩
  rintro β w2 ⟨hw2, hβ⟩
  subst hw2
  conv => whnf
  refine vcCond_split lok rfl (fun h2 => ?_) (fun h2 => ?_)
  · rw [hβ] at h2
    rw [if_pos (dt h2)]
    conv => whnf
    exact ⟨rfl, rfl⟩
  · rw [hβ] at h2
    rw [if_neg (df h2)]
    conv => whnf
    exact ⟨rfl, rfl⟩

/-- canBe -/
theorem canBe_calls {w : World} (v : BitVec 32) (m : Int) : Calls Try.prog 172 #[.int .u32 v.toNat, .int .i64 m] w (Ret fun r w' => r = .bool (decide (canN v m)) ∧ w' = w) := by
  have hv0 : ((v.toNat : Int) = 0) ↔ v = 0#32 := num_zero
  have hv1 : ((v.toNat : Int) = 4294967295) ↔ v = ones := ones_eq
  refine calls_of_vc lok Try.func172 ?_ rfl
  conv => whnf
  refine vcReg_go lok ?_
  conv => whnf
  refine bcase (fun k1 => ?_) (fun k1 => ?_)
  rotate_left
  · have k1 := hv0.1 (ne_false k1)
    conv => whnf
    exact ⟨by rw [decide_eq_false (fun q : canN v m => q.1 k1)], rfl⟩
  have k1 := fun e => ne_true k1 (hv0.2 e)
  conv => whnf
  refine bcase (fun k2 => ?_) (fun k2 => ?_)
  rotate_left
  · have k2 := hv1.1 (ne_false k2)
    conv => whnf
    exact ⟨by rw [decide_eq_false (fun q : canN v m => q.2.1 k2)], rfl⟩
  have k2 := fun e => ne_true k2 (hv1.2 e)
  conv => whnf
  refine bcase (fun k3 => ?_) (fun k3 => ?_)
  rotate_left
  · have k3 := df k3
    conv => whnf
    exact ⟨by rw [decide_eq_false (fun q : canN v m => k3 q.2.2.1)], rfl⟩
  have k3 := dt k3
  conv => whnf
  refine ⟨?_, rfl⟩
  congr 1
  rw [decide_eq_decide]
  exact ⟨fun e => ⟨k1, k2, k3, e⟩, fun q => q.2.2.2⟩

/-- sector -/
theorem ssector_calls (h : SlAt B w sb g gw c n s) (slot : Int) (hb : ¬ badF slot) : Calls Try.prog 173 #[.pointer (some ⟨sb, 0, none⟩), .int .i64 slot] w (Ret fun v w' => v = .int .i64 (n + 3 * slot.toNat : Nat) ∧ w' = w) := by
  unfold badF at hb
  have hr := h.room
  have hm := h.small
  refine calls_of_vc lok Try.func173 ?_ rfl
  conv => whnf
  refine ⟨_, h.b.cell (i := 1) rfl, ?_⟩
  conv => whnf
  refine ⟨by omega, ?_⟩
  conv => whnf
  refine ⟨by omega, ?_⟩
  conv => whnf
  refine ⟨?_, rfl⟩
  congr 1
  omega

/-- a word of a slot -/
theorem sword_calls (h : SlAt B w sb g gw c n s) (slot : Int) (hb : ¬ badF slot) (hoff : s.off = false) (at_ : Nat) (hat : at_ < 768) (z : Int) (hz : z = at_) :
    Calls Try.prog 151 #[.pointer (some ⟨sb, 0, none⟩), .int .i64 slot, .int .i64 z] w (Ret fun v w' => v = .int .u32 (s.ws.getD (atF n slot + at_) 0#32).toNat ∧ Ext w w') := by
  subst hz
  have hr := h.room
  have hm := h.small
  have hp := atF_le hb hr
  have hpd : ((n + 3 * slot.toNat : Nat) : Int) * 256 = (atF n slot : Int) := by unfold atF; omega
  refine calls_of_vc lok Try.func151 ?_ rfl
  conv => whnf
  refine vcDraw_go lok mixed (Ext w) [6] [0, 1, 2, 3, 4, 5, 8, 6, 7, 9, 10, 11, 12, 13, 14, 15] (by kernel_rfl) (fun w1 hw1 => ⟨hw1 ▸ Ext.drew w, ?_⟩)
  have x1 : Ext w w1 := hw1 ▸ Ext.drew w
  clear hw1
  have hsb := h.b
  conv => whnf
  refine ⟨_, fun w' hw' => (hsb.ext hw').cell (i := 0) rfl, ?_⟩
  conv => whnf
  refine Calls.ret (ssector_calls (h.ext x1) slot hb) ?_
  rintro _ w2 ⟨rfl, hw2⟩
  subst hw2
  refine ⟨_, fun _ h => h, x1, ?_⟩
  conv => whnf
  refine ⟨by omega, ?_⟩
  conv => whnf
  refine ⟨by omega, ?_⟩
  conv => whnf
  rw [hpd, show (atF n slot : Int) + (at_ : Int) = ((atF n slot + at_ : Nat) : Int) by omega]
  have er : readF s ((atF n slot + at_ : Nat) : Int) = (s.ws.getD (atF n slot + at_) 0#32, 0) := by
    unfold readF
    rw [hoff, if_neg Bool.false_ne_true, if_neg (by omega), Int.toNat_natCast]
  have g3 := read_calls (h.f.ext x1) ((atF n slot + at_ : Nat) : Int)
  rw [er] at g3
  refine Calls.ret (g3) ?_
  rintro _ w3 ⟨rfl, hw3⟩
  conv => whnf
  subst hw3
  exact ⟨rfl, x1⟩
end
end Go.Proofs.Ytgipackjnncabaa
