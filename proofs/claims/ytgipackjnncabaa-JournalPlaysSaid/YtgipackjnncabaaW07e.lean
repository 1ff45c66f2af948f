/- Walks of layer 7, fifth part: the reference's journal. -/
import Derived.Test.YtgipackjnncabaaW07d
set_option linter.unusedVariables false
namespace Go.Proofs.Ytgipackjnncabaa
open Go.Vc Go.RowKit

/-- the reference's journal's cells -/
def rC (g : Nat) (n : Nat) (d : Bool) (q : BitVec 32) (rn : Nat) (ra : Option Addr) (rc : Nat) : List Value :=
  [.pointer (some ⟨g, 0, none⟩), .int .i64 n, .bool d, .slice ra rn rc, u32v q]
def JS.rcells (j : JS) (g : Nat) : Option Addr → Nat → List Value := rC g j.sec j.dead j.num j.words.length
abbrev RAt (N : Nat → Prop) (B : Nat) (w : World) (p g : Nat) (j : JS) : Prop := JRec 143 (j.rcells g) N B w p j.words

theorem built143a (a : Option Addr) : Try.prog.built 143 [(0, .pointer a), (2, .bool true)] = some #[.pointer a, .int .i64 0, .bool true, .slice none 0 0, .int .u32 0] := by kernel_rfl
theorem built143b (a : Option Addr) (n : Int) : Try.prog.built 143 [(0, .pointer a), (1, .int .i64 n)] = some #[.pointer a, .int .i64 n, .bool false, .slice none 0 0, .int .u32 0] := by kernel_rfl

def ROpenPost (g : Nat) (s : FS) (n : Int) (w : World) (v : Value) (w' : World) : Prop :=
  (s.off = true ∧ (∃ p, v = .tuple #[.pointer (some ⟨p, 0, none⟩), .int .i64 7]) ∧ Ext w w') ∨
  (s.off = false ∧ ¬ (0 ≤ n ∧ 256 * (n + 2) ≤ s.ws.length) ∧ (∃ p, v = .tuple #[.pointer (some ⟨p, 0, none⟩), .int .i64 10]) ∧ Ext w w') ∨
  (s.off = false ∧ 0 ≤ n ∧ 256 * (n + 2) ≤ s.ws.length ∧ ∃ p, v = .tuple #[.pointer (some ⟨p, 0, none⟩), .int .i64 0] ∧ RAt (fun k => k < w.heap.size ∨ k = p) w.heap.size w' p g (jopF s.ws n.toNat) ∧ Ext w w')
theorem ROpenPost.mk {g : Nat} {s : FS} {n : Int} {w w' : World} (h1 : s.off = false) (h2 : 0 ≤ n) (h3 : 256 * (n + 2) ≤ s.ws.length) {p : Nat} (h4 : RAt (fun k => k < w.heap.size ∨ k = p) w.heap.size w' p g (jopF s.ws n.toNat)) (h5 : Ext w w') :
    ROpenPost g s n w (.tuple #[.pointer (some ⟨p, 0, none⟩), .int .i64 0]) w' := .inr (.inr ⟨h1, h2, h3, p, rfl, h4, h5⟩)

set_option maxHeartbeats 4000000 in
theorem rjopen_calls {B : Nat} {w : World} {g gw c : Nat} {s : FS} (h : FlAt 81 B w g gw c s) (hl : s.ws.length ≤ 65536) (n : Int) :
    Calls Try.prog 118 #[.pointer (some ⟨g, 0, none⟩), .int .i64 n] w (Ret (ROpenPost g s n w)) := by
  refine calls_of_vc lok Try.func118 ?_ rfl
  conv => whnf
  refine ⟨_, h.blk.cell (i := 1) rfl, ?_⟩
  conv => whnf
  refine vcCond_split lok rfl (fun h1 => ?_) (fun h1 => ?_)
  · conv => whnf
    refine ⟨_, fun w => run_build w 143 _ _ (built143a _), ?_⟩
    conv => whnf
    intro w1 hw1
    have x1 : Ext w w1 := by rw [hw1]; exact Ext.new _ _
    exact .inl ⟨h1, ⟨_, rfl⟩, x1⟩
  have hoff : s.off = false := h1
  clear h1
  conv => whnf
  refine vcReg_meet lok (fun β : Bool => [(34, .bool β)]) (fun β w' => w' = w ∧ β = !decide (0 ≤ n ∧ 256 * (n + 2) ≤ s.ws.length)) [34] (fun _ => rfl) rfl ?_ ?_
  · conv => whnf
    refine bcase (fun k1 => ?_) (fun k1 => ?_)
    · have k1 := dt k1
      conv => whnf
      exact ⟨_, ⟨rfl, trivial⟩, rfl, by rw [decide_eq_false (by omega)]; rfl⟩
    have k1 := df k1
    conv => whnf
    refine ⟨_, h.blk.cell0 rfl, ?_⟩
    conv => whnf
    refine ⟨by decide, ?_⟩
    intro z hz
    have hz11 : z = ((s.ws.length / 256 : Nat) : Int) := by rw [hz]; exact quo256 _ (by omega)
    clear hz
    subst hz11
    conv => whnf
    refine ⟨by omega, ?_⟩
    conv => whnf
    refine ⟨_, ⟨rfl, trivial⟩, rfl, ?_⟩
    by_cases k2 : 256 * (n + 2) ≤ s.ws.length
    · rw [decide_eq_false (by omega), decide_eq_true ⟨by omega, k2⟩]; rfl
    · rw [decide_eq_true (by omega), decide_eq_false (fun q => k2 q.2)]; rfl
  rintro β w2 ⟨hw2, hβ⟩
  subst hw2
  conv => whnf
  refine vcCond_split lok rfl (fun h2 => ?_) (fun h2 => ?_)
  · rw [h2] at hβ
    conv => whnf
    refine ⟨_, fun w => run_build w 143 _ _ (built143a _), ?_⟩
    conv => whnf
    intro w1 hw1
    have x1 : Ext w2 w1 := by rw [hw1]; exact Ext.new _ _
    refine .inr (.inl ⟨hoff, fun q => ?_, ⟨_, rfl⟩, x1⟩)
    rw [decide_eq_true q] at hβ; cases hβ
  rw [h2] at hβ
  have hn : 0 ≤ n ∧ 256 * (n + 2) ≤ s.ws.length := by
    by_cases q : 0 ≤ n ∧ 256 * (n + 2) ≤ s.ws.length
    · exact q
    · rw [decide_eq_false q] at hβ; cases hβ
  clear hβ
  obtain ⟨m, rfl⟩ := Int.eq_ofNat_of_zero_le hn.1
  conv => whnf
  refine ⟨_, fun w => run_build w 143 _ _ (built143b _ _), ?_⟩
  conv => whnf
  intro w3 hw3
  have hp3 : Blk w3 w2.heap.size 143 (rC g m false 0#32 0 none 0) := by rw [hw3]; exact Blk.new w2 143 _
  have x3 : Ext w2 w3 := by rw [hw3]; exact Ext.new _ _
  clear hw3
  have hlt := h.lt
  have hcl := h.own.le
  have hcm : maxLen ≤ 9223372036854775807 := by decide
  have lA : (secF s.ws m).length = 256 := secF_len (by omega)
  have lB : (secF s.ws (m + 1)).length = 256 := secF_len (by omega)
  generalize hp : w2.heap.size = p at *
  have hf3 := h.ext x3
  conv => whnf
  refine Calls.ret (secs_calls hf3 (by omega) m (by omega)) ?_
  rintro _ w4 ⟨aA, rfl, hsA, hw4⟩
  conv => whnf
  subst hw4
  refine Calls.ret (rwalk_calls (hsA _ hf3.sl) (by omega) (by omega) (by omega)) ?_
  rintro _ w5 ⟨rA, cA, rfl, hrA, x5⟩
  conv => whnf
  refine ⟨by omega, ?_⟩
  conv => whnf
  refine Calls.ret (secs_calls (hf3.ext x5) (by omega) (m + 1) (by omega)) ?_
  rintro _ w6 ⟨aB, rfl, hsB, hw6⟩
  conv => whnf
  subst hw6
  refine Calls.ret (rwalk_calls (hsB _ (hf3.ext x5).sl) (by omega) (by omega) (by omega)) ?_
  rintro _ w7 ⟨rB, cB, rfl, hrB, x7⟩
  conv => whnf
  have hA : SubSl (some ⟨gw, 0, none⟩) s.ws rA (tellF (secF s.ws m)).words := fun w0 h0 => hrA w0 (hsA w0 h0)
  have hB : SubSl (some ⟨gw, 0, none⟩) s.ws rB (tellF (secF s.ws (m + 1))).words := fun w0 h0 => hrB w0 (hsB w0 h0)
  have okA := tell_ok (secF s.ws m)
  have okB := tell_ok (secF s.ws (m + 1))
  have hJ : jopF s.ws m = if (tellF (secF s.ws m)).number.toNat < (tellF (secF s.ws (m + 1))).number.toNat then mkJ m 1 (tellF (secF s.ws (m + 1))) else mkJ m 0 (tellF (secF s.ws m)) := rfl
  have x37 := x5.trans x7
  have hp7 := hp3.ext x37
  have hf7 := hf3.ext x37
  have x27 := x3.trans x37
  have z7 := x27.size
  clear hrA hrB hsA hsB
  generalize tellF (secF s.ws m) = A at *
  generalize tellF (secF s.ws (m + 1)) = B' at *
  have hpg : p ≠ gw := by omega
  have own : ∀ w', Mod (fun k => k = p) w7 w' → Sl u32v w' (some ⟨gw, 0, none⟩) s.ws := fun w' m => (m.keepOwn hf7.own fun k hk q => by cases hk; exact hpg q.symm).sl
  have S1 : ∀ k, some p = some k → k = p := fun k hk => (Option.some.inj hk).symm
  conv => whnf
  refine ⟨hp7.can 4 (by simp [rC]) _ rfl, fun w8 hw8 => ?_⟩
  have hp8 : Blk w8 p 143 (rC g m false A.number 0 none 0) := by rw [hw8]; exact hp7.set 4 _
  have m8 : Mod (fun k => k = p) w7 w8 := Mod.ofGr (gr_of_set hw8) S1
  clear hw8
  conv => whnf
  refine ⟨_, hp8.cell (i := 3) rfl, ?_⟩
  conv => whnf
  have g9 := (Own.nil 42 u32v w8.heap.size w8).append (ty := 37) (d := cA) e32.toElem (fun _ => rfl) (hA w8 (own w8 m8)) (by simp; omega) (Nat.le_refl _)
  obtain ⟨a9, c9, w9, hr9, ho9, g9, _⟩ := g9
  rw [List.nil_append] at hr9 ho9
  refine ⟨_, _, hr9, ?_⟩
  have x9 : Ext w8 w9 := Gr.ext g9
  have hp9 := hp8.ext x9
  conv => whnf
  refine ⟨hp9.can 3 (by simp [rC]) _ rfl, fun w10 hw10 => ?_⟩
  have hp10 : Blk w10 p 143 (rC g m false A.number A.words.length a9 c9) := by rw [hw10]; exact hp9.set 3 _
  have g10 := gr_of_set hw10
  clear hw10
  have hlt8 := hp8.lt
  have ho10 := g10.keepOwn ho9 (fun k hk e => by have := (ho9.ge k hk).1; have e := Option.some.inj e; omega)
  have m10 : Mod (fun k => k = p) w7 w10 := (m8.trans (Mod.ofExt _ x9)).trans (Mod.ofGr g10 S1)
  have z8 := m8.size
  have z810 : w8.heap.size ≤ w10.heap.size := Nat.le_trans x9.size g10.size
  clear g10 x9 hp9 ho9 hr9
  conv => whnf
  have fin : ∀ w11 a11 c11, Blk w11 p 143 (rC g m false (jopF s.ws m).num (jopF s.ws m).words.length a11 c11) → Own 42 u32v w8.heap.size w11 a11 c11 (jopF s.ws m).words → Mod (fun k => k = p) w7 w11 → ROpenPost g s (m : Int) w2 (.tuple #[.pointer (some ⟨p, 0, none⟩), .int .i64 0]) w11 := by
    intro w11 a11 c11 h11 o11 m11
    have x11 := m11.above x27 (fun k hk => by omega)
    refine ROpenPost.mk hoff hn.1 hn.2 (p := p) ?_ x11
    rw [Int.toNat_natCast]
    have eS : (jopF s.ws m).sec = m ∧ (jopF s.ws m).dead = false := by rw [hJ]; split <;> exact ⟨rfl, rfl⟩
    refine ⟨⟨a11, c11, ?_, o11.base (by omega), fun k hk q => ?_⟩, by omega, fun k hk => ?_, .inr rfl⟩
    · unfold JS.rcells
      rw [eS.1, eS.2]
      exact h11
    · have := (o11.ge k hk).1
      rcases q with q | q <;> omega
    · have := h11.lt
      have := x11.size
      rcases hk with q | q <;> omega
  refine vcCond_meet (fun _ : Unit => [(6, .pointer (some ⟨p, 0, none⟩))]) (fun _ w' => ∃ a11 c11, Blk w' p 143 (rC g m false (jopF s.ws m).num (jopF s.ws m).words.length a11 c11) ∧ Own 42 u32v w8.heap.size w' a11 c11 (jopF s.ws m).words ∧ Mod (fun k => k = p) w7 w') ?_ ?_
  · refine vcCond_split lok rfl (fun h3 => ?_) (fun h3 => ?_)
    · have h3 := dt h3
      conv => whnf
      rw [if_pos (by omega)] at hJ
      have e1 : (jopF s.ws m).num = B'.number ∧ (jopF s.ws m).words = B'.words := by rw [hJ]; exact ⟨rfl, rfl⟩
      rw [e1.1, e1.2]
      refine ⟨hp10.can 4 (by simp [rC]) _ rfl, fun w11 hw11 => ?_⟩
      have hp11 : Blk w11 p 143 (rC g m false B'.number A.words.length a9 c9) := by rw [hw11]; exact hp10.set 4 _
      have ma : Mod (fun k => k = p) w10 w11 := Mod.ofGr (gr_of_set hw11) S1
      have m11 := m10.trans ma
      clear hw11
      conv => whnf
      refine ⟨hp11.can 3 (by simp [rC]) _ rfl, fun w12 hw12 => ?_⟩
      have hp12 : Blk w12 p 143 (rC g m false B'.number 0 none 0) := by rw [hw12]; exact hp11.set 3 _
      have ma := ma.trans (Mod.ofGr (gr_of_set hw12) S1)
      have m12 := m10.trans ma
      clear hw12
      conv => whnf
      refine ⟨_, hp12.cell (i := 3) rfl, ?_⟩
      conv => whnf
      have g13 := (Own.nil 42 u32v w12.heap.size w12).append (ty := 37) (d := cB) e32.toElem (fun _ => rfl) (hB w12 (own w12 m12)) (by simp; omega) (Nat.le_refl _)
      obtain ⟨a13, c13, w13, hr13, ho13, g13, _⟩ := g13
      rw [List.nil_append] at hr13 ho13
      refine ⟨_, _, hr13, ?_⟩
      have x13 : Ext w12 w13 := Gr.ext g13
      have hp13 := hp12.ext x13
      conv => whnf
      refine ⟨hp13.can 3 (by simp [rC]) _ rfl, fun w14 hw14 => ?_⟩
      have hp14 : Blk w14 p 143 (rC g m false B'.number B'.words.length a13 c13) := by rw [hw14]; exact hp13.set 3 _
      have g14 := gr_of_set hw14
      clear hw14
      have z12 : w8.heap.size ≤ w12.heap.size := Nat.le_trans z810 ma.size
      have ho14 := g14.keepOwn ho13 (fun k hk e => by have := (ho13.ge k hk).1; have e := Option.some.inj e; omega)
      exact ⟨(), ⟨rfl, trivial⟩, a13, c13, hp14, ho14.base z12, (m12.trans (Mod.ofExt _ x13)).trans (Mod.ofGr g14 S1)⟩
    · have h3 := df h3
      conv => whnf
      rw [if_neg (by omega)] at hJ
      have e1 : (jopF s.ws m).num = A.number ∧ (jopF s.ws m).words = A.words := by rw [hJ]; exact ⟨rfl, rfl⟩
      rw [e1.1, e1.2]
      exact ⟨(), ⟨rfl, trivial⟩, a9, c9, hp10, ho10, m10⟩
  rintro ⟨⟩ w11 ⟨a11, c11, h11, o11, m11⟩
  conv => whnf
  exact fin w11 a11 c11 h11 o11 m11
end Go.Proofs.Ytgipackjnncabaa
