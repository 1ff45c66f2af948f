/- The law JournalRoom, walked. -/
import Derived.Test.YtgipackjnncabaaL07a
set_option linter.unusedVariables false
namespace Go.Proofs.Ytgipackjnncabaa
open Go.Vc Go.RowKit

theorem run_one (w : World) (x : BitVec 32) : ∃ w', (Instr.buildSlice 37 1 #[(0, u32v x)]).run Try.prog w = .ok (.slice (some ⟨w.heap.size, 0, none⟩) 1 1) w' ∧ Own 42 u32v w.heap.size w' (some ⟨w.heap.size, 0, none⟩) 1 [x] ∧ Ext w w' := by
  have g := run_buildN (P := Try.prog) (t := 37) (e := 42) e32.toElem [u32v x] (by simp [u32v, Value.oneCell']) (by simp) w
  exact ⟨_, g, own_lit (w := w) [x] (by simp), Ext.new _ _⟩

theorem rem_u8 (n : Nat) (m : Nat) (hm : 0 < m) : ((n : Int)).tmod (m : Int) = ((n % m : Nat) : Int) := by
  rw [Int.ofNat_tmod]

set_option maxHeartbeats 4000000 in
theorem journalRoom_walk {w : World} {a : Option Addr} {c : Nat} {bs : List (BitVec 8)} (h : Sl u8v w a bs) (hbl : bs.length ≤ 9223372036854775807) (n : BitVec 8) :
    Calls Try.prog 28 #[.slice a bs.length c, .int .u8 n.toNat] w (Law w) := by
  refine calls_of_vc lok Try.func28 ?_ rfl
  conv => whnf
  refine Calls.ret (new_calls 2) ?_
  rintro _ w1 hp
  conv => whnf
  rcases hp with ⟨hno, _, _⟩ | ⟨_, g, gw, fc, rfl, h1, x1⟩
  · exact absurd hno (by decide)
  have h1 : FlAt 181 w.heap.size w1 g gw fc j7S := h1
  have l0 : j7S.ws.length = 512 := by decide +kernel
  have q0 : (jopF j7S.ws 0).num = 0#32 := by decide +kernel
  have qn : Num j7S 512 0 := ⟨l0, by decide +kernel, by decide +kernel⟩
  have qo : j7S.off = false := rfl
  have ql : j7S.left < 0 := by decide +kernel
  generalize j7S = s0 at *
  conv => whnf
  refine Calls.ret (jopen_calls h1 (by rw [l0]; decide) 0) ?_
  rintro _ w2 hp
  conv => whnf
  rcases hp with ⟨hno, _, _⟩ | ⟨_, hno, _, _⟩ | ⟨_, _, _, p, rfl, hj, x2⟩
  · rw [qo] at hno; cases hno
  · exact absurd ⟨by decide, by rw [l0]; decide⟩ hno
  have hj : JAt (fun k => k < w1.heap.size ∨ k = p) w1.heap.size w2 p g (jopF s0.ws 0) := hj
  have hlt := h1.lt
  have z1 := x1.size
  have hp0 := hj.lo
  have n1 : p ≠ g := by omega
  have n2 : p ≠ gw := by omega
  have hS : ∀ k, (k = g ∨ k = gw ∨ k = p) → w.heap.size ≤ k := fun k hk => by have := h1.lo; rcases hk with q | q | q <;> omega
  conv => whnf
  refine vcReg_go lok ?_
  conv => whnf
  refine vcCond_false lok (rfl) ?_
  conv => whnf
  refine vcLoop_inv lok (σ := Nat)
    (fun i => [(8, .int .i64 i), (5, .pointer (some ⟨g, 0, none⟩)), (6, .pointer (some ⟨p, 0, none⟩)), (0, .slice a bs.length c), (1, .int .u8 n.toNat)])
    (fun i w' => i ≤ n.toNat % 60 ∧ ∃ s, FlAt 181 w.heap.size w' g gw fc s ∧ JAt (fun k => k < w1.heap.size ∨ k = p) w.heap.size w' p g (jopF s.ws 0) ∧ s.off = false ∧ s.left < 0 ∧ Num s 512 (69 * i) ∧ (jopF s.ws 0).num.toNat = i ∧ Ext w w') (fun i => 60 - i)
    0 ⟨rfl, rfl, rfl, rfl, rfl, trivial⟩ ⟨Nat.zero_le _, s0, h1.ext x2, hj.base z1, qo, ql, qn, by rw [q0]; rfl, x1.trans x2⟩ ?_
  rintro i w3 ⟨hi, s, f3, j3, so, sl, sn, snum, x3⟩
  have hn60 : n.toNat % 60 < 60 := Nat.mod_lt _ (by decide)
  have slen := sn.len
  conv => whnf
  refine ⟨by decide, ?_⟩
  intro z hz
  have hz9 : z = ((n.toNat % 60 : Nat) : Int) := by rw [hz]; exact rem_u8 n.toNat 60 (by decide)
  clear hz
  subst hz9
  conv => whnf
  intro z hz
  have hz10 : z = ((n.toNat % 60 : Nat) : Int) := by rw [hz]; exact wi64 (by omega)
  clear hz
  subst hz10
  conv => whnf
  refine vcCond_split lok rfl (fun h2 => ?_) (fun h2 => ?_)
  · have h2 := dt h2
    conv => whnf
    refine vcCond_meet (fun z : Nat => [(9, .int .i64 z), (8, .int .i64 i), (5, .pointer (some ⟨g, 0, none⟩)), (6, .pointer (some ⟨p, 0, none⟩)), (0, .slice a bs.length c), (1, .int .u8 n.toNat)])
      (fun z w' => w' = w3 ∧ 1 ≤ z ∧ z ≤ 64) ?_ ?_
    · refine vcCond_split lok rfl (fun h4 => ?_) (fun h4 => ?_)
      · have h4 := dt h4
        conv => whnf
        refine ⟨by omega, ?_⟩
        intro z hz
        have hz15 : z = ((i % bs.length : Nat) : Int) := by rw [hz]; exact rem_u8 i bs.length (by omega)
        clear hz
        subst hz15
        conv => whnf
        have hix : i % bs.length < bs.length := Nat.mod_lt _ (by omega)
        have g16 := ((h.ext x3)).at (((i % bs.length : Nat) : Int)) (by omega) (by omega)
        obtain ⟨p16, o16, ha16, hcell16⟩ := g16
        refine ⟨p16, o16, ha16, ⟨by omega, by omega⟩, ?_⟩
        conv => whnf
        refine ⟨_, hcell16, ?_⟩
        conv => whnf
        generalize bs.getD ((i % bs.length : Nat) : Int).toNat default = v at *
        have hv := v.isLt
        intro z hz
        have hz17 : z = (v.toNat : Int) := by rw [hz]; exact wi64 (by omega)
        clear hz
        subst hz17
        conv => whnf
        refine ⟨by decide, ?_⟩
        intro z hz
        have hz18 : z = ((v.toNat % 64 : Nat) : Int) := by rw [hz]; exact rem_u8 v.toNat 64 (by decide)
        clear hz
        subst hz18
        conv => whnf
        refine ⟨by omega, ?_⟩
        conv => whnf
        rw [show (1 : Int) + ((v.toNat % 64 : Nat) : Int) = ((1 + v.toNat % 64 : Nat) : Int) by omega]
        exact ⟨1 + v.toNat % 64, ⟨rfl, rfl, rfl, rfl, rfl, rfl, trivial⟩, rfl, by omega, by omega⟩
      · have h4 := df h4
        conv => whnf
        exact ⟨1, ⟨rfl, rfl, rfl, rfl, rfl, rfl, trivial⟩, rfl, by decide, by decide⟩
    rintro z w4 ⟨hw4, hz1, hz2⟩
    subst hw4
    conv => whnf
    refine vcLoop_inv lok (σ := Nat × Option Addr × Nat × List (BitVec 32))
      (fun ⟨k, ra, rc, xs⟩ => [(11, .int .i64 k), (10, .slice ra xs.length rc), (9, .int .i64 z), (8, .int .i64 i), (5, .pointer (some ⟨g, 0, none⟩)), (6, .pointer (some ⟨p, 0, none⟩)), (0, .slice a bs.length c), (1, .int .u8 n.toNat)])
      (fun ⟨k, ra, rc, xs⟩ w' => k ≤ z ∧ xs.length = k ∧ Own 42 u32v w4.heap.size w' ra rc xs ∧ Ext w4 w') (fun t => z - t.1)
      (0, none, 0, []) ⟨rfl, rfl, rfl, rfl, rfl, rfl, rfl, rfl, trivial⟩ ⟨Nat.zero_le _, rfl, Own.nil _ _ _ _, Ext.refl _⟩ ?_
    rintro ⟨k, ra, rc, xs⟩ w5 ⟨hk, hxl, ho5, x5⟩
    conv => whnf
    refine vcCond_split lok rfl (fun h5 => ?_) (fun h5 => ?_)
    · have h5 := dt h5
      conv => whnf
      refine ⟨by omega, ?_⟩
      conv => whnf
      refine ⟨by omega, ?_⟩
      conv => whnf
      intro y hz
      have hz27 : y = ((BitVec.ofNat 32 (i * 1000 + k)).toNat : Int) := by rw [hz, wu32, BitVec.toNat_ofNat]; omega
      clear hz
      subst hz27
      conv => whnf
      have g6 := run_one w5 (BitVec.ofNat 32 (i * 1000 + k))
      obtain ⟨w6, hr6, ho6, x6⟩ := g6
      refine ⟨_, _, hr6, ?_⟩
      conv => whnf
      have z6 := x6.size
      have z5 := x5.size
      have g7 := run_app (ty := 37) (d := 1) (ho5.ext x6) ho6.sl (by simp; omega) (by omega)
      obtain ⟨a7, c7, w7, hr7, ho7, hg7⟩ := g7
      refine ⟨_, _, hr7, ?_⟩
      have x47 : Ext w4 w7 := hg7.extOf (x5.trans x6) (fun g hg => (ho5.ge g hg).1)
      have el : (xs ++ [BitVec.ofNat 32 (i * 1000 + k)]).length = k + 1 := by rw [List.length_append, hxl]; rfl
      generalize xs ++ [BitVec.ofNat 32 (i * 1000 + k)] = ys at *
      conv => whnf
      refine ⟨by omega, ?_⟩
      conv => whnf
      exact ⟨(k + 1, a7, c7, ys), ⟨rfl, rfl, rfl, rfl, rfl, rfl, rfl, rfl, trivial⟩, ⟨by omega, el, ho7, x47⟩, by show z - (k + 1) < z - k; omega⟩
    · have h5 := df h5
      conv => whnf
      have hkz : xs.length = z := by omega
      clear hk hxl h5
      subst hkz
      have hns := hS
      have x35 := x5
      have f5 := f3.ext x5
      have j5 := j3.ext x5
      conv => whnf
      refine Calls.ret (ops_calls f5) ?_
      rintro _ w6 ⟨rfl, hw6⟩
      conv => whnf
      subst hw6
      have jok := jop_ok (s := s) (n := 0) (by omega)
      have hap := append_tie (s := s) (n := 0) (rec := xs) (by omega) so ⟨hz1, hz2⟩ (by omega)
      have gap := jappend_calls (rc := rc) f5 j5 (.inl hlt.1) (.inl hlt.2.1) n1 n2 jok (by omega) (by rw [slen]; exact sn) (by omega) (ra := ra) (rec := xs)
        (fun w' m => (m.keepOwn ho5 (fun k hk q => by
          have h1 := (ho5.ge k hk).1
          have h2 := j3.nt k (by rcases q with q | q | q; exact .inl (q ▸ hlt.1); exact .inl (q ▸ hlt.2.1); exact .inr q)
          omega)).sl) (by omega)
      rcases hap with ⟨t, e1, e2, e3, e4, e5, e6⟩ | ⟨t, e1, e2, e3, _⟩
      rotate_left
      · omega
      have num7 := append_num (j := jopF s.ws 0) (rec := xs) sn
      rw [e1] at gap num7
      dsimp only at gap
      have num7 : Num t 512 (69 * i + 69) := num7
      have esn : (jopF t.ws 0).num = (jopF s.ws 0).num + 1#32 := congrArg Prod.fst e2
      have esw : (jopF t.ws 0).words = xs := congrArg Prod.snd e2
      have esN : (jopF t.ws 0).num.toNat = i + 1 := by rw [esn]; have := add1 (jopF s.ws 0).num (by omega); omega
      refine Calls.ret (gap) ?_
      rintro _ w7 ⟨rfl, f7, j7, m7⟩
      conv => whnf
      have f7 : FlAt 181 w.heap.size w7 g gw fc t := f7
      have j7 : JAt (fun k => k < w1.heap.size ∨ k = p) w.heap.size w7 p g (jopF t.ws 0) := j7
      have o5 := sn.ops
      have o7 := num7.ops
      refine Calls.ret (ops_calls f7) ?_
      rintro _ w8 ⟨rfl, hw8⟩
      conv => whnf
      subst hw8
      refine ⟨by omega, ?_⟩
      conv => whnf
      refine Calls.ret (last_calls j7 (by rw [esw]; omega)) ?_
      rintro _ w9 ⟨x9, hp⟩
      conv => whnf
      rcases hp with ⟨hno, _⟩ | ⟨_, a9, c9, rfl, ho9⟩
      · rw [hno] at esN; simp at esN
      rw [esw] at ho9 ⊢
      have ho5' := (m7.keepOwn ho5 (fun k hk q => by
          have h1 := (ho5.ge k hk).1
          have h2 := j3.nt k (by rcases q with q | q | q; exact .inl (q ▸ hlt.1); exact .inl (q ▸ hlt.2.1); exact .inr q)
          omega)).ext x9
      conv => whnf
      refine vcReg_meet lok (fun β : Bool => [(108, .bool β)]) (fun β w' => β = false ∧ Ext w9 w') [108] (fun _ => rfl) rfl ?_ ?_
      · conv => whnf
        refine ⟨by omega, ?_⟩
        conv => whnf
        rcases e4 with e4 | e4
        · refine bcase (fun k1 => absurd (ne_true k1) (by omega)) (fun k1 => ?_)
          conv => whnf
          refine Calls.ret (same_calls (ho9.sl) (ho5'.sl) (by omega)) ?_
          rintro _ w10 ⟨rfl, x10⟩
          conv => whnf
          refine bcase (fun k4 => absurd k4 (by rw [decide_eq_true rfl]; decide)) (fun _ => ?_)
          conv => whnf
          refine ⟨by omega, ?_⟩
          conv => whnf
          intro y hz
          have hz45 : y = (((jopF t.ws 0).num).toNat : Int) := by rw [hz, wu32]; omega
          clear hz
          subst hz45
          conv => whnf
          refine bcase (fun k4 => absurd rfl (ne_true k4)) (fun _ => ?_)
          conv => whnf
          exact ⟨_, ⟨rfl, trivial⟩, rfl, x10⟩
        · refine bcase (fun k1 => ?_) (fun k1 => absurd (ne_false k1) (by omega))
          conv => whnf
          refine ⟨by omega, ?_⟩
          conv => whnf
          refine bcase (fun k1 => absurd (ne_true k1) (by omega)) (fun k1 => ?_)
          conv => whnf
          refine Calls.ret (same_calls (ho9.sl) (ho5'.sl) (by omega)) ?_
          rintro _ w10 ⟨rfl, x10⟩
          conv => whnf
          refine bcase (fun k4 => absurd k4 (by rw [decide_eq_true rfl]; decide)) (fun _ => ?_)
          conv => whnf
          refine ⟨by omega, ?_⟩
          conv => whnf
          intro y hz
          have hz53 : y = (((jopF t.ws 0).num).toNat : Int) := by rw [hz, wu32]; omega
          clear hz
          subst hz53
          conv => whnf
          refine bcase (fun k4 => absurd rfl (ne_true k4)) (fun _ => ?_)
          conv => whnf
          exact ⟨_, ⟨rfl, trivial⟩, rfl, x10⟩
      rintro β w10 ⟨rfl, x10⟩
      conv => whnf
      refine vcCond_false lok (rfl) ?_
      conv => whnf
      refine ⟨by omega, ?_⟩
      conv => whnf
      have x7 := m7.above (x3.trans x5) hS
      exact ⟨i + 1, ⟨rfl, rfl, rfl, rfl, rfl, trivial⟩, ⟨by omega, t, (f7.ext x9).ext x10, (j7.ext x9).ext x10, e3, e5 sl, num7.up (by omega), esN, x7.trans (x9.trans x10)⟩, by omega⟩
  · have h2 := df h2
    conv => whnf
    refine Calls.ret (known07) ?_
    rintro _ w4 ⟨rfl, x4⟩
    conv => whnf
    exact ⟨rfl, x3.trans x4⟩
end Go.Proofs.Ytgipackjnncabaa
