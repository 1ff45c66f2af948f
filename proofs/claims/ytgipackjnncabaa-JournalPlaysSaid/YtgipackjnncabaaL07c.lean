/- The law JournalAny, walked. -/
import Derived.Test.YtgipackjnncabaaL07a
import Derived.Test.YtgipackjnncabaaW07f
set_option linter.unusedVariables false
namespace Go.Proofs.Ytgipackjnncabaa
open Go.Vc Go.RowKit

/-- Last, whether there is one or none -/
theorem last2_calls {N : Nat → Prop} {B : Nat} {w : World} {p g : Nat} {j : JS} (h : JAt N B w p g j) (hl : j.words.length ≤ 64) (hz : j.num = 0#32 → j.words = []) :
    Calls Try.prog 112 #[.pointer (some ⟨p, 0, none⟩)] w (Ret fun v w' => Ext w w' ∧ ∃ a c, v = .tuple #[.slice a j.words.length c, .int .u32 j.num.toNat, .bool (decide (0 < (j.num.toNat : Int)))] ∧ Own 42 u32v w.heap.size w' a c j.words) := by
  refine (last_calls h hl).mono fun e w' he => ?_
  cases e with
  | returned v =>
    have he : Ext w w' ∧ ((j.num = 0#32 ∧ v = .tuple #[.slice none 0 0, .int .u32 0, .bool false]) ∨ (j.num ≠ 0#32 ∧ ∃ a c, v = .tuple #[.slice a j.words.length c, .int .u32 j.num.toNat, .bool true] ∧ Own 42 u32v w.heap.size w' a c j.words)) := he
    show Ext w w' ∧ _
    rcases he with ⟨x, ⟨h0, rfl⟩ | ⟨h0, a, c, rfl, ho⟩⟩
    · refine ⟨x, none, 0, ?_, ?_⟩
      · rw [hz h0, h0]; rfl
      · rw [hz h0]; exact Own.nil _ _ _ _
    · refine ⟨x, a, c, ?_, ho⟩
      have : 0 < (j.num.toNat : Int) := by
        rcases Nat.eq_zero_or_pos j.num.toNat with e | e
        · exact absurd (BitVec.eq_of_toNat_eq e) h0
        · omega
      rw [decide_eq_true this]
  | panicked _ => exact he.elim
  | outgrown => exact he.elim
theorem jop_zero (ws : List (BitVec 32)) (n : Nat) : (jopF ws n).num = 0#32 → (jopF ws n).words = [] := by
  unfold jopF
  split
  · exact (tell_ok _).2.2.2.1
  · exact (tell_ok _).2.2.2.1
theorem append_big {j : JS} {s : FS} {rec : List (BitVec 32)} (h1 : j.dead = false) (h2 : s.off = false) (h3 : rec.length < 1 ∨ 64 < rec.length ∨ 2147483647 ≤ j.num.toNat) : appendF j s rec = (j, s, 3) := by
  unfold appendF
  rw [if_neg (by rw [h1, h2]; simp), if_pos h3]

set_option maxHeartbeats 4000000 in
theorem journalAny_walk {w : World} {a ra : Option Addr} {c rc : Nat} {ws rec : List (BitVec 32)} (h : Sl u32v w a ws) (hl : ws.length ≤ 9223372036854775807) (hr : Sl u32v w ra rec) (hrl : rec.length ≤ 9223372036854775807) :
    Calls Try.prog 29 #[.slice a ws.length c, .slice ra rec.length rc] w (Law w) := by
  refine calls_of_vc lok Try.func29 ?_ rfl
  conv => whnf
  refine Calls.ret (of_big h hl) ?_
  rintro _ w1 hp
  conv => whnf
  rcases hp with ⟨hcan, g, gw, fc, rfl, hf, x1⟩ | ⟨hcan, rfl, rfl⟩
  rotate_left
  · conv => whnf
    refine Calls.ret (rof_big h hl) ?_
    rintro _ w2 hq
    conv => whnf
    rcases hq with ⟨hno, _⟩ | ⟨_, ⟨q, rfl⟩, x2⟩
    · rw [hcan] at hno; cases hno
    conv => whnf
    refine vcCond_false lok (rfl) ?_
    conv => whnf
    refine vcCond_true lok (rfl) ?_
    conv => whnf
    refine Calls.ret (known07) ?_
    rintro _ w3 ⟨rfl, x3⟩
    conv => whnf
    exact ⟨rfl, x2.trans x3⟩
  conv => whnf
  refine Calls.ret (rof_big (h.ext x1) hl) ?_
  rintro _ w2 hq
  conv => whnf
  rcases hq with ⟨_, q, qw, qc, rfl, hq, x2⟩ | ⟨hno, _⟩
  rotate_left
  · rw [hcan] at hno; cases hno
  have hcl := of_decide_eq_true hcan
  have so : (newFS ws).off = false := rfl
  have sl : (newFS ws).left < 0 := by show (-1 : Int) < 0; decide
  have sw : (newFS ws).ws = ws := rfl
  have sn : Num (newFS ws) ws.length 0 := ⟨rfl, ⟨Int.le_refl _, Int.le_refl _⟩, by show (-1 : Int) ≤ _; decide⟩
  generalize newFS ws = s at *
  rw [← sw] at hcl sn
  clear hcan
  have f2 := hf.ext x2
  have lf := hf.lt
  have lq := hq.lt
  have z1 := x1.size
  have z2 := x2.size
  have q1 := hq.lo
  conv => whnf
  refine vcCond_false lok (rfl) ?_
  conv => whnf
  refine vcCond_false lok (rfl) ?_
  conv => whnf
  refine Calls.ret (jopen_calls f2 (by omega) 0) ?_
  rintro _ w3 hp
  conv => whnf
  rcases hp with ⟨hno, _⟩ | ⟨_, hbad, rfl, x3⟩ | ⟨_, _, h0, p, rfl, hj, x3⟩
  · rw [so] at hno; cases hno
  · conv => whnf
    refine Calls.ret (rjopen_calls (hq.ext x3) (by omega) 0) ?_
    rintro _ w4 hp
    conv => whnf
    rcases hp with ⟨hno, _⟩ | ⟨_, _, ⟨r, rfl⟩, x4⟩ | ⟨_, k1, k2, _⟩
    · rw [so] at hno; cases hno
    rotate_left
    · exact absurd ⟨k1, k2⟩ hbad
    conv => whnf
    refine vcReg_go lok ?_
    conv => whnf
    refine vcCond_false lok (rfl) ?_
    conv => whnf
    refine vcCond_true lok (rfl) ?_
    conv => whnf
    refine Calls.ret (known07) ?_
    rintro _ w5 ⟨rfl, x5⟩
    conv => whnf
    exact ⟨rfl, x1.trans (x2.trans (x3.trans (x4.trans x5)))⟩
  have hj : JAt (fun k => k < w2.heap.size ∨ k = p) w2.heap.size w3 p g (jopF s.ws 0) := hj
  conv => whnf
  refine Calls.ret (rjopen_calls (hq.ext x3) (by omega) 0) ?_
  rintro _ w4 hp
  conv => whnf
  rcases hp with ⟨hno, _⟩ | ⟨_, hno, _⟩ | ⟨_, _, _, r, rfl, hrj, x4⟩
  · rw [so] at hno; cases hno
  · exact absurd ⟨by decide, h0⟩ hno
  have hrj : RAt (fun k => k < w3.heap.size ∨ k = r) w3.heap.size w4 r q (jopF s.ws 0) := hrj
  conv => whnf
  refine vcReg_go lok ?_
  conv => whnf
  refine vcCond_false lok (rfl) ?_
  conv => whnf
  refine vcCond_false lok (rfl) ?_
  conv => whnf
  have jok := jop_ok (s := s) (n := 0) (by omega)
  have jz := jop_zero s.ws 0
  have jd := jop_dead s.ws 0
  have js := jop_sec s.ws 0
  have jwl := jok.words
  have jnum := jok.num
  have hj4 := hj.ext x4
  refine Calls.ret (last2_calls hj4 jwl jz) ?_
  rintro _ w5 ⟨x5, xa, xc, rfl, hox⟩
  conv => whnf
  have hr5 := hrj.ext x5
  have hwr := hr5
  obtain ⟨⟨ja, jc, hb, ho, _⟩, _, _, _⟩ := hwr
  refine vcReg_meet lok (fun β : Bool => [(87, .bool β)]) (fun β w' => β = false ∧ Ext w5 w') [87] (fun _ => rfl) rfl ?_ ?_
  · conv => whnf
    refine ⟨_, hb.cell (i := 3) rfl, ?_⟩
    conv => whnf
    refine Calls.ret (same_calls hox.sl ho.sl (by omega)) ?_
    rintro _ w6 ⟨rfl, x6⟩
    conv => whnf
    refine bcase (fun k4 => absurd k4 (by rw [decide_eq_true rfl]; decide)) (fun _ => ?_)
    conv => whnf
    refine ⟨_, (hb.ext x6).cell (i := 4) rfl, ?_⟩
    conv => whnf
    refine bcase (fun k4 => absurd rfl (ne_true k4)) (fun _ => ?_)
    conv => whnf
    refine ⟨_, (hb.ext x6).cell (i := 4) rfl, ?_⟩
    conv => whnf
    refine ⟨_, ⟨rfl, trivial⟩, ?_, x6⟩
    rw [beq_self_bool]; rfl
  rintro β w6 ⟨rfl, x6⟩
  conv => whnf
  refine vcCond_false lok (rfl) ?_
  conv => whnf
  have f6 := (((f2.ext x3).ext x4).ext x5).ext x6
  have j6 := ((hj4.ext x5).ext x6).base (B' := w.heap.size) (by omega)
  have x36 := x4.trans (x5.trans x6)
  have x06 := x1.trans (x2.trans (x3.trans x36))
  have z3 := x3.size
  have hp0 := hj.lo
  have hpl := hj.nt p hj.self
  have hr0 := hrj.lo
  have hS : ∀ k, (k = g ∨ k = gw ∨ k = p) → w.heap.size ≤ k := fun k hk => by have := hf.lo; rcases hk with e | e | e <;> omega
  have hSr : ∀ k, (k = q ∨ k = qw ∨ k = r) → w.heap.size ≤ k := fun k hk => by rcases hk with e | e | e <;> omega
  have gap := jappend_calls (rc := rc) (rec := rec) (ra := ra) f6 j6 (.inl (by omega)) (.inl (by omega)) (by omega) (by omega) jok (by omega) sn (by decide) (fun w' m => hr.ext (m.above x06 hS)) hrl
  have h6 : RAt (fun k => k < w3.heap.size ∨ k = r) w.heap.size w6 r q (jopF s.ws 0) := (hr5.ext x6).base (by omega)
  have hq6 : FlAt 81 w.heap.size w6 q qw qc s := ((((hq.ext x3).ext x4).ext x5).ext x6).base (by omega)
  refine Calls.ret (gap) ?_
  rintro _ w7 ⟨rfl, f7, j7, m7⟩
  conv => whnf
  have h7 := h6.keep m7 (fun k hk => by rcases hk with e | e | e <;> first | exact .inl (by omega) | omega) (fun e => by rcases e with e | e | e <;> omega)
  have hq7 := hq6.keep m7 (fun e => by rcases e with e | e | e <;> omega) (fun e => by rcases e with e | e | e <;> omega)
  have x07 := m7.above x06 hS
  have gar := rjappend_calls (rc := rc) (rec := rec) (ra := ra) hq7 h7 (.inl (by omega)) (.inl (by omega)) (by omega) (by omega) (.inr (by rw [js])) jok (by omega) sn (by decide) (fun w' m => hr.ext (m.above x07 hSr)) hrl
  refine Calls.ret (gar) ?_
  rintro _ w8 ⟨rfl, hq8, h8, m8⟩
  conv => whnf
  refine vcCond_false lok (by rw [decide_eq_true rfl]; rfl) ?_
  conv => whnf
  have x08 := m8.above x07 hSr
  have f8 := f7.keep m8 (fun e => by rcases e with e | e | e <;> omega) (fun e => by rcases e with e | e | e <;> omega)
  have hox8 : Own 42 u32v w4.heap.size w8 xa xc (jopF s.ws 0).words := m8.keepOwn (m7.keepOwn (hox.ext x6) fun k hk e => by
      have := (hox.ge k hk).1
      have := x4.size
      rcases e with e | e | e <;> omega) fun k hk e => by
    have := (hox.ge k hk).1
    have := hrj.nt r hrj.self
    rcases e with e | e | e <;> omega
  by_cases hbig : rec.length < 1 ∨ 64 < rec.length ∨ 2147483647 ≤ (jopF s.ws 0).num.toNat
  · have ea := append_big jd so hbig
    rw [ea] at f8 ⊢
    have f8 : FlAt 181 w.heap.size w8 g gw fc s := f8
    conv => whnf
    refine Calls.ret (jopen_calls f8 (by omega) 0) ?_
    rintro _ w9 hp
    conv => whnf
    rcases hp with ⟨hno, _⟩ | ⟨_, hno, _⟩ | ⟨_, _, _, p2, rfl, hj9, x9⟩
    · rw [so] at hno; cases hno
    · exact absurd ⟨by decide, h0⟩ hno
    have hj9 : JAt (fun k => k < w8.heap.size ∨ k = p2) w8.heap.size w9 p2 g (jopF s.ws 0) := hj9
    conv => whnf
    refine vcReg_go lok ?_
    conv => whnf
    refine vcCond_false lok (rfl) ?_
    conv => whnf
    refine Calls.ret (last2_calls hj9 jwl jz) ?_
    rintro _ w10 ⟨x10, ya, yc, rfl, hoy⟩
    conv => whnf
    refine vcCond_true lok (rfl) ?_
    conv => whnf
    refine vcReg_go lok ?_
    conv => whnf
    refine Calls.ret (same_calls hoy.sl ((hox8.ext x9).ext x10).sl (by omega)) ?_
    rintro _ w11 ⟨rfl, x11⟩
    conv => whnf
    refine bcase (fun _ => ?_) (fun k4 => absurd k4 (by rw [decide_eq_true rfl]; decide))
    conv => whnf
    refine bcase (fun _ => ?_) (fun k4 => absurd k4 (by rw [decide_eq_true rfl]; decide))
    conv => whnf
    refine bcase (fun _ => ?_) (fun k4 => absurd k4 (by rw [beq_self_bool]; decide))
    conv => whnf
    refine Calls.ret (known07) ?_
    rintro _ w12 ⟨rfl, x12⟩
    conv => whnf
    exact ⟨rfl, x08.trans (x9.trans (x10.trans (x11.trans x12)))⟩
  · have hap := append_tie (s := s) (n := 0) (rec := rec) (by omega) so (by omega) (by omega)
    rcases hap with ⟨t, e1, e2, e3, e4, e5, e6⟩ | ⟨t, _, _, e3, _⟩
    rotate_left
    · omega
    rw [e1] at f8 ⊢
    have f8 : FlAt 181 w.heap.size w8 g gw fc t := f8
    have tl : t.ws.length = s.ws.length := e6.1
    have esn : (jopF t.ws 0).num = (jopF s.ws 0).num + 1#32 := congrArg Prod.fst e2
    have esw : (jopF t.ws 0).words = rec := congrArg Prod.snd e2
    have jz2 := jop_zero t.ws 0
    conv => whnf
    refine Calls.ret (jopen_calls f8 (by omega) 0) ?_
    rintro _ w9 hp
    conv => whnf
    rcases hp with ⟨hno, _⟩ | ⟨_, hno, _⟩ | ⟨_, _, _, p2, rfl, hj9, x9⟩
    · rw [e3] at hno; cases hno
    · exact absurd ⟨by decide, by omega⟩ hno
    have hj9 : JAt (fun k => k < w8.heap.size ∨ k = p2) w8.heap.size w9 p2 g (jopF t.ws 0) := hj9
    conv => whnf
    refine vcReg_go lok ?_
    conv => whnf
    refine vcCond_false lok (rfl) ?_
    conv => whnf
    refine Calls.ret (last2_calls hj9 (by rw [esw]; omega) jz2) ?_
    rintro _ w10 ⟨x10, ya, yc, rfl, hoy⟩
    conv => whnf
    rw [esw] at hoy ⊢
    refine vcCond_false lok (rfl) ?_
    conv => whnf
    refine vcReg_go lok ?_
    conv => whnf
    refine Calls.ret (same_calls hoy.sl (hr.ext (x08.trans (x9.trans x10))) (by omega)) ?_
    rintro _ w11 ⟨rfl, x11⟩
    conv => whnf
    have ea := add1 (jopF s.ws 0).num (by omega)
    refine bcase (fun _ => ?_) (fun k4 => absurd k4 (by rw [decide_eq_true rfl]; decide))
    conv => whnf
    intro y hz
    have hz64 : y = (((jopF s.ws 0).num + 1#32).toNat : Int) := by rw [hz, wu32]; omega
    clear hz
    subst hz64
    conv => whnf
    refine bcase (fun _ => ?_) (fun k4 => absurd k4 (by rw [esn, decide_eq_true rfl]; decide))
    conv => whnf
    refine bcase (fun _ => ?_) (fun k4 => absurd k4 (by rw [esn, decide_eq_true (by omega)]; decide))
    conv => whnf
    refine Calls.ret (known07) ?_
    rintro _ w12 ⟨rfl, x12⟩
    conv => whnf
    exact ⟨rfl, x08.trans (x9.trans (x10.trans (x11.trans x12)))⟩
end Go.Proofs.Ytgipackjnncabaa
