/- The laws FlashClears and FlashTorn, walked. -/
import Derived.Test.YtgipackjnncabaaL06b
set_option linter.unusedVariables false
namespace Go.Proofs.Ytgipackjnncabaa
open Go.Vc Go.RowKit

theorem fwordsN_calls {B : Nat} {w : World} {g gw c n : Nat} {s : FS} (h : FlAt 181 B w g gw c s) (hn : s.ws.length = n) (hl : n ≤ 1048576) :
    Calls Try.prog 79 #[.pointer (some ⟨g, 0, none⟩)] w (Ret fun v w' => ∃ a' c', v = .slice a' n c' ∧ Own 42 u32v w.heap.size w' a' c' s.ws ∧ Ext w w') := by
  subst hn
  exact fwords_calls h hl

theorem fillF_getD (ws : List (BitVec 32)) (a n i : Nat) (d : BitVec 32) : (fillF ws a n).getD i d = if a ≤ i ∧ i < a + n ∧ i < ws.length then ones else ws.getD i d := by
  simp only [List.getD]
  rw [fillF_get]
  split <;> rfl
theorem set_getD (l : List (BitVec 32)) (k i : Nat) (y d : BitVec 32) (hk : k < l.length) : (l.set k y).getD i d = if i = k then y else l.getD i d := by
  simp only [List.getD]
  rw [List.getElem?_set]
  by_cases h : k = i
  · subst h; simp [hk]
  · rw [if_neg h, if_neg (Ne.symm h)]

theorem erase_new (ws : List (BitVec 32)) (n : Nat) (m : BitVec 32) (hn : n < ws.length / 256) (k : Int) : eraseF ⟨ws, false, -1, m, k⟩ (n : Int) = (⟨fillF ws (256 * n) 256, false, -1, m, k + 1⟩, 0) := by
  unfold eraseF
  rw [if_neg Bool.false_ne_true, if_neg (by show ¬ ((n : Int) < 0 ∨ ((ws.length / 256 : Nat) : Int) ≤ n); omega), if_neg (by show ¬ (-1 : Int) = 0; decide)]
  rfl

theorem quo256 (i : Nat) (hi : i < 4294967296) : IntKind.i64.wrap ((i : Int).tdiv 256) = ((i / 256 : Nat) : Int) := by
  rw [Int.tdiv_eq_ediv_of_nonneg (by omega), wi64 (by omega)]; omega

set_option maxHeartbeats 4000000 in
theorem flashClears_walk {w : World} {a : Option Addr} {c : Nat} {l : List (BitVec 32)} (h : Sl u32v w a l) (at_ : Int) (hat : -9223372036854775808 ≤ at_ ∧ at_ ≤ 9223372036854775807) (x : BitVec 32) :
    Calls Try.prog 19 #[.slice a l.length c, .int .i64 at_, .int .u32 x.toNat] w (Law w) := by
  refine calls_of_vc lok Try.func19 ?_ rfl
  conv => whnf
  refine Calls.ret (rows_calls h) ?_
  rintro _ w1 ⟨g, gw, c1, rfl, hf1, x1⟩
  conv => whnf
  have hwl := rowsF_len l
  generalize rowsF l = ws at *
  conv => whnf
  refine vcCond_false lok (rfl) ?_
  conv => whnf
  refine Calls.ret (count_calls at_ 512 hat (by decide) (by decide)) ?_
  rintro _ w2 ⟨rfl, hw2⟩
  conv => whnf
  subst hw2
  have hk : ∃ k : Nat, at_ % 512 = (k : Int) ∧ k < 512 := ⟨(at_ % 512).toNat, by omega, by omega⟩
  obtain ⟨k, ek, hk512⟩ := hk
  rw [ek]
  conv => whnf
  refine Calls.ret (fwordsN_calls (n := 512) hf1 hwl (by decide)) ?_
  rintro _ w3 ⟨a3, c3, rfl, ho3, x3⟩
  conv => whnf
  have ho3 : Own 42 u32v w2.heap.size w3 a3 c3 ws := ho3
  have ep := prog_new ws k x (by omega) 0
  have gp := prog_calls (hf1.ext x3) (k : Int) x (by show ws.length ≤ _; omega) (FSok.mk' _ _ _ _ _ (by decide) (by decide))
  rw [show newFS ws = ⟨ws, false, -1, 0#32, 0⟩ from rfl, ep] at gp
  refine Calls.ret (gp) ?_
  rintro _ w4 ⟨rfl, hf4, m4⟩
  conv => whnf
  have hil : (ws.set k (ws.getD k 0#32 &&& x)).length = 512 := by rw [List.length_set, hwl]
  have hig : ∀ i, (ws.set k (ws.getD k 0#32 &&& x)).getD i 0#32 = if i = k then ws.getD k 0#32 &&& x else ws.getD i 0#32 := fun i => set_getD ws k i _ _ (by omega)
  generalize ws.set k (ws.getD k 0#32 &&& x) = is at *
  refine Calls.ret (fwordsN_calls (n := 512) hf4 hil (by decide)) ?_
  rintro _ w5 ⟨a5, c5, rfl, ho5, x5⟩
  conv => whnf
  have ho5 : Own 42 u32v w4.heap.size w5 a5 c5 is := ho5
  refine ⟨by decide, ?_⟩
  intro z hz
  replace hz := hz.trans (quo256 k (by omega))
  subst hz
  conv => whnf
  have ee := erase_new is (k / 256) 0#32 (by omega) (0 + 1)
  have ge := erase_calls (hf4.ext x5) ((k / 256 : Nat) : Int) (by show is.length ≤ _; omega) (FSok.mk' _ _ _ _ _ (by decide) (by decide))
  rw [ee] at ge
  refine Calls.ret (ge) ?_
  rintro _ w6 ⟨rfl, hf6, m6⟩
  conv => whnf
  have hnl : (fillF is (256 * (k / 256)) 256).length = 512 := by rw [fillF_len, hil]
  have hng : ∀ i, i < 512 → (fillF is (256 * (k / 256)) 256).getD i 0#32 = if i / 256 = k / 256 then ones else is.getD i 0#32 := fun i hi => by
    rw [fillF_getD]
    by_cases hq : i / 256 = k / 256
    · rw [if_pos hq, if_pos (by omega)]
    · rw [if_neg hq, if_neg (by omega)]
  generalize fillF is (256 * (k / 256)) 256 = now at *
  refine Calls.ret (fwordsN_calls (n := 512) hf6 hnl (by decide)) ?_
  rintro _ w7 ⟨a7, c7, rfl, ho7, x7⟩
  conv => whnf
  have ho7 : Own 42 u32v w6.heap.size w7 a7 c7 now := ho7
  have q1 := hf1.lt
  have q2 := hf1.lo
  have z1 := x1.size
  have z3 := x3.size
  have z4 := m4.size
  have z5 := x5.size
  have ho3' : Own 42 u32v w2.heap.size w7 a3 c3 ws := (m6.keepOwn ((m4.keepOwn ho3 (fun b hb e => by have := (ho3.ge b hb).1; omega)).ext x5) (fun b hb e => by have := (ho3.ge b hb).1; omega)).ext x7
  have ho5' : Own 42 u32v w4.heap.size w7 a5 c5 is := (m6.keepOwn ho5 (fun b hb e => by have := (ho5.ge b hb).1; omega)).ext x7
  have x07 : Ext w w7 := (FlMod.above m6 ((FlMod.above m4 (x1.trans x3) (by omega) (by omega)).trans x5) (by omega) (by omega)).trans x7
  refine vcReg_go lok ?_
  conv => whnf
  refine vcCond_false lok (rfl) ?_
  conv => whnf
  refine vcLoop_inv lok (σ := Nat)
    (fun i => [(14, .int .i64 i), (9, .slice a3 512 c3), (11, .slice a5 512 c5), (13, .slice a7 512 c7), (8, .int .i64 k), (2, .int .u32 x.toNat)])
    (fun i w8 => i ≤ 512 ∧ Ext w7 w8) (fun i => 512 - i)
    0 ⟨rfl, rfl, rfl, rfl, rfl, rfl, trivial⟩ ⟨Nat.zero_le _, Ext.refl _⟩ ?_
  rintro i w8 ⟨hi, x8⟩
  conv => whnf
  refine vcCond_split lok rfl (fun h2 => ?_) (fun h2 => ?_)
  rotate_left
  · conv => whnf
    refine Calls.ret (known06) ?_
    rintro _ w9 ⟨rfl, x9⟩
    conv => whnf
    exact ⟨rfl, (x07.trans x8).trans x9⟩
  have h2 := dt h2
  conv => whnf
  have hi512 : i < 512 := by omega
  have g3 := (ho3'.ext x8).sl.at (i : Int) (by omega) (by omega)
  have g5 := (ho5'.ext x8).sl.at (i : Int) (by omega) (by omega)
  have g7 := (ho7.ext x8).sl.at (i : Int) (by omega) (by omega)
  have eA : ws.getD (i : Int).toNat default = ws.getD i 0#32 := rfl
  have eI : is.getD (i : Int).toNat default = is.getD i 0#32 := rfl
  have eN : now.getD (i : Int).toNat default = now.getD i 0#32 := rfl
  rw [eA] at g3
  rw [eI] at g5
  rw [eN] at g7
  have hI := hig i
  have hN := hng i hi512
  obtain ⟨p3, o3, ha3, hc3⟩ := g3
  obtain ⟨p5, o5, ha5, hc5⟩ := g5
  obtain ⟨p7, o7, ha7, hc7⟩ := g7
  refine ⟨p3, o3, ha3, ⟨by omega, by omega⟩, ?_⟩
  conv => whnf
  refine ⟨_, hc3, ?_⟩
  conv => whnf
  refine vcCond_meet (fun y : BitVec 32 => [(15, .int .u32 y.toNat), (14, .int .i64 i), (9, .slice a3 512 c3), (11, .slice a5 512 c5), (13, .slice a7 512 c7), (8, .int .i64 k), (2, .int .u32 x.toNat)])
    (fun y w' => w' = w8 ∧ y = is.getD i 0#32) ?_ ?_
  · refine vcCond_split lok rfl (fun h3 => ?_) (fun h3 => ?_)
    · have h3 := dt h3
      conv => whnf
      have hik : i = k := by omega
      refine ⟨p3, o3, ha3, ⟨by omega, by omega⟩, ?_⟩
      conv => whnf
      refine ⟨_, hc3, ?_⟩
      conv => whnf
      intro z hz
      replace hz := hz.trans (and32 (ws.getD i 0#32) x)
      subst hz
      conv => whnf
      exact ⟨_, ⟨rfl, rfl, rfl, rfl, rfl, rfl, rfl, trivial⟩, rfl, by rw [hI, if_pos hik, hik]⟩
    · have h3 := df h3
      conv => whnf
      have hik : ¬ i = k := by omega
      exact ⟨_, ⟨rfl, rfl, rfl, rfl, rfl, rfl, rfl, trivial⟩, rfl, by rw [hI, if_neg hik]⟩
  rintro y w9 ⟨hw9, hy⟩
  subst hw9
  rw [← hy] at hc5 hN
  conv => whnf
  refine ⟨p5, o5, ha5, ⟨by omega, by omega⟩, ?_⟩
  conv => whnf
  refine ⟨_, hc5, ?_⟩
  conv => whnf
  refine vcCond_split lok rfl (fun h5 => absurd rfl (ne_true h5)) (fun _ => ?_)
  conv => whnf
  refine vcDraw_meet lok mixed (fun w' => w' = w9.drew) [] [0, 1, 2, 3, 4, 5, 6, 7, 8, 9, 10, 11, 12, 13, 14, 15, 16, 17, 18, 19, 20, 21, 22, 23, 24, 25, 26, 27, 28, 29]
    (fun _ : Unit => [(109, .bool false)]) (fun _ w' => Ext w9 w') [109] (fun _ => rfl) rfl (by kernel_rfl) (fun w10 hw10 => ⟨hw10, ?_⟩) ?_
  · have x10 : Ext w9 w10 := hw10 ▸ Ext.drew w9
    have hc5' := Below.cell_of x10 (cell_lt hc5) hc5
    have hc7' := Below.cell_of x10 (cell_lt hc7) hc7
    conv => whnf
    refine ⟨by decide, ?_⟩
    intro z hz
    replace hz := hz.trans (quo256 i (by omega))
    subst hz
    conv => whnf
    refine ⟨by decide, ?_⟩
    intro z hz
    replace hz := hz.trans (quo256 k (by omega))
    subst hz
    conv => whnf
    refine bcase (fun h6 => ?_) (fun h6 => ?_)
    · have h6 := dt h6
      have hq : i / 256 = k / 256 := by omega
      rw [if_pos hq] at hN
      rw [hN] at hc7'
      conv => whnf
      refine ⟨p7, o7, ha7, ⟨by omega, by omega⟩, ?_⟩
      conv => whnf
      refine ⟨_, fun w' hw' => by rw [hw', ← hw10]; exact hc7', ?_⟩
      conv => whnf
      refine ⟨by decide, ?_⟩
      intro z hz
      replace hz := hz.trans (quo256 i (by omega))
      subst hz
      conv => whnf
      refine ⟨by decide, ?_⟩
      intro z hz
      replace hz := hz.trans (quo256 k (by omega))
      subst hz
      conv => whnf
      refine bcase (fun h7 => absurd (show ((i / 256 : Nat) : Int) = ((k / 256 : Nat) : Int) by omega) (ne_true h7)) (fun h7 => ?_)
      conv => whnf
      exact ⟨(), ⟨rfl, trivial⟩, x10⟩
    · have h6 := df h6
      have hq : ¬ i / 256 = k / 256 := by omega
      rw [if_neg hq] at hN
      rw [hN] at hc7'
      conv => whnf
      refine ⟨by decide, ?_⟩
      intro z hz
      replace hz := hz.trans (quo256 i (by omega))
      subst hz
      conv => whnf
      refine ⟨by decide, ?_⟩
      intro z hz
      replace hz := hz.trans (quo256 k (by omega))
      subst hz
      conv => whnf
      refine bcase (fun h7 => ?_) (fun h7 => absurd (ne_false h7) h6)
      conv => whnf
      refine ⟨p7, o7, ha7, ⟨by omega, by omega⟩, ?_⟩
      conv => whnf
      refine ⟨_, fun w' hw' => by rw [hw', ← hw10]; exact hc7', ?_⟩
      conv => whnf
      refine ⟨p5, o5, ha5, ⟨by omega, by omega⟩, ?_⟩
      conv => whnf
      refine ⟨_, fun w' hw' => by rw [hw', ← hw10]; exact hc5', ?_⟩
      conv => whnf
      exact ⟨(), ⟨by rw [decide_eq_true (rfl : (y.toNat : Int) = (y.toNat : Int))]; rfl, trivial⟩, x10⟩
  rintro _ w10 x10
  conv => whnf
  refine vcCond_false lok (rfl) ?_
  conv => whnf
  refine ⟨by omega, ?_⟩
  conv => whnf
  exact ⟨i + 1, ⟨rfl, rfl, rfl, rfl, rfl, rfl, trivial⟩, ⟨by omega, x8.trans x10⟩, by omega⟩

theorem bv1 (A K : BitVec 32) : (A &&& K) &&& ~~~A = 0#32 := by
  apply BitVec.eq_of_getLsbD_eq
  intro j hj
  rw [BitVec.getLsbD_and, BitVec.getLsbD_and, BitVec.getLsbD_not]
  cases A.getLsbD j <;> simp
theorem bv2 (A W M : BitVec 32) : (A &&& W) &&& ~~~(A &&& (W ||| ~~~M)) = 0#32 := by
  apply BitVec.eq_of_getLsbD_eq
  intro j hj
  rw [BitVec.getLsbD_and, BitVec.getLsbD_and, BitVec.getLsbD_not, BitVec.getLsbD_and, BitVec.getLsbD_or, BitVec.getLsbD_not]
  cases A.getLsbD j <;> cases W.getLsbD j <;> simp
theorem bv3 (A W M : BitVec 32) : (A &&& (W ||| ~~~M)) &&& W = A &&& W := by
  apply BitVec.eq_of_getLsbD_eq
  intro j hj
  rw [BitVec.getLsbD_and, BitVec.getLsbD_and, BitVec.getLsbD_and, BitVec.getLsbD_or, BitVec.getLsbD_not]
  cases A.getLsbD j <;> cases W.getLsbD j <;> simp

theorem torn_prog (ws : List (BitVec 32)) (i : Nat) (x m : BitVec 32) (hi : i < ws.length) (k : Int) : progF ⟨ws, false, 0, m, k⟩ (i : Int) x = (⟨ws.set i (ws.getD i 0#32 &&& (x ||| ~~~m)), true, -1, m, k⟩, 7) := by
  unfold progF
  rw [if_neg Bool.false_ne_true, if_neg (by show ¬ ((i : Int) < 0 ∨ (ws.length : Int) ≤ i); omega), if_pos rfl]
  rfl
theorem prog_on (ws : List (BitVec 32)) (i : Nat) (x m : BitVec 32) (hi : i < ws.length) (k : Int) : progF ⟨ws, false, -1, m, k⟩ (i : Int) x = (⟨ws.set i (ws.getD i 0#32 &&& x), false, -1, m, k + 1⟩, 0) := by
  unfold progF
  rw [if_neg Bool.false_ne_true, if_neg (by show ¬ ((i : Int) < 0 ∨ (ws.length : Int) ≤ i); omega), if_neg (by show ¬ (-1 : Int) = 0; decide)]
  rfl
theorem read_on (ws : List (BitVec 32)) (i : Nat) (l : Int) (m : BitVec 32) (hi : i < ws.length) (k : Int) : readF ⟨ws, false, l, m, k⟩ (i : Int) = (ws.getD i 0#32, 0) := by
  unfold readF
  rw [if_neg Bool.false_ne_true, if_neg (by show ¬ ((i : Int) < 0 ∨ (ws.length : Int) ≤ i); omega)]
  rfl

set_option maxHeartbeats 8000000 in
theorem flashTorn_walk {w : World} {a : Option Addr} {c : Nat} {l : List (BitVec 32)} (h : Sl u32v w a l) (at_ : Int) (hat : -9223372036854775808 ≤ at_ ∧ at_ ≤ 9223372036854775807) (x m : BitVec 32) :
    Calls Try.prog 20 #[.slice a l.length c, .int .i64 at_, .agg #[.int .u32 x.toNat, .int .u32 m.toNat]] w (Law w) := by
  refine calls_of_vc lok Try.func20 ?_ rfl
  conv => whnf
  intro w1 hw1
  have hb1 : Blk w1 w.heap.size 99 [u32v x, u32v m] := by rw [hw1]; exact Blk.new w 99 _
  have x1 : Ext w w1 := by rw [hw1]; exact Ext.new _ _
  clear hw1
  conv => whnf
  refine Calls.ret (rows_calls (h.ext x1)) ?_
  rintro _ w2 ⟨g, gw, c2, rfl, hf2, x2⟩
  conv => whnf
  refine Calls.ret (rows_calls (h.ext (x1.trans x2))) ?_
  rintro _ w3 ⟨g', gw', c3, rfl, hg3, x3⟩
  conv => whnf
  have hwl := rowsF_len l
  generalize rowsF l = ws at *
  conv => whnf
  refine vcReg_go lok ?_
  conv => whnf
  refine vcCond_false lok (rfl) ?_
  conv => whnf
  refine Calls.ret (count_calls at_ 512 hat (by decide) (by decide)) ?_
  rintro _ w4 ⟨rfl, hw4⟩
  conv => whnf
  subst hw4
  have hk : ∃ k : Nat, at_ % 512 = (k : Int) ∧ k < 512 := ⟨(at_ % 512).toNat, by omega, by omega⟩
  obtain ⟨k, ek, hk512⟩ := hk
  rw [ek]
  have hb4 := (hb1.ext x2).ext x3
  conv => whnf
  refine ⟨⟨by decide, by decide⟩, ?_⟩
  conv => whnf
  refine ⟨_, hb4.cell0 rfl, ?_⟩
  conv => whnf
  refine Calls.ret (fwordsN_calls (n := 512) (hf2.ext x3) hwl (by decide)) ?_
  rintro _ w5 ⟨a5, c5, rfl, ho5, x5⟩
  conv => whnf
  have ho5 : Own 42 u32v w4.heap.size w5 a5 c5 ws := ho5
  refine ⟨⟨by decide, by decide⟩, ?_⟩
  conv => whnf
  refine ⟨_, (hb4.ext x5).cell (i := 1) rfl, ?_⟩
  conv => whnf
  have q0 := hb1.lt
  have q1 := hf2.lt
  have q2 := hf2.lo
  have q3 := hg3.lt
  have q4 := hg3.lo
  have z1 := x1.size
  have z2 := x2.size
  have z3 := x3.size
  have z5 := x5.size
  refine Calls.ret (cut_calls ((hf2.ext x3).ext x5) 0 m) ?_
  rintro _ w6 ⟨rfl, hf6, m6⟩
  conv => whnf
  have hf6 : FlAt 181 w1.heap.size w6 g gw c2 ⟨ws, false, 0, m, 0⟩ := hf6
  have hb6 := m6.keepBlk (hb4.ext x5) (fun e => by omega)
  refine ⟨⟨by decide, by decide⟩, ?_⟩
  conv => whnf
  refine ⟨_, hb6.cell (i := 1) rfl, ?_⟩
  conv => whnf
  have hg6 := (hg3.ext x5).keep m6 (fun e => by omega) (fun e => by omega)
  refine Calls.ret (cut_calls hg6 0 m) ?_
  rintro _ w7 ⟨rfl, hg7, m7⟩
  conv => whnf
  have hg7 : FlAt 181 w2.heap.size w7 g' gw' c3 ⟨ws, false, 0, m, 0⟩ := hg7
  have hf7 := hf6.keep m7 (fun e => by omega) (fun e => by omega)
  have gp := prog_calls hf7 (k : Int) x (by show ws.length ≤ _; omega) (FSok.mk' _ _ _ _ _ (by decide) (by decide))
  rw [torn_prog ws k x m (by omega) 0] at gp
  refine Calls.ret (gp) ?_
  rintro _ w8 ⟨rfl, hf8, m8⟩
  conv => whnf
  refine ⟨by decide, ?_⟩
  intro z hz
  replace hz := hz.trans (quo256 k (by omega))
  subst hz
  conv => whnf
  have hg8 := hg7.keep m8 (fun e => by omega) (fun e => by omega)
  have ge := erase_calls hg8 ((k / 256 : Nat) : Int) (by show ws.length ≤ _; omega) (FSok.mk' _ _ _ _ _ (by decide) (by decide))
  rw [torn_erase ws (k / 256) m (by omega) 0] at ge
  refine Calls.ret (ge) ?_
  rintro _ w9 ⟨rfl, hg9, m9⟩
  conv => whnf
  have hf9 := hf8.keep m9 (fun e => by omega) (fun e => by omega)
  have hil : (ws.set k (ws.getD k 0#32 &&& (x ||| ~~~m))).length = 512 := by rw [List.length_set, hwl]
  have hig : ∀ i, (ws.set k (ws.getD k 0#32 &&& (x ||| ~~~m))).getD i 0#32 = if i = k then ws.getD k 0#32 &&& (x ||| ~~~m) else ws.getD i 0#32 := fun i => set_getD ws k i _ _ (by omega)
  generalize ws.set k (ws.getD k 0#32 &&& (x ||| ~~~m)) = is at *
  have hr257 : m.toNat % 257 < 257 := Nat.mod_lt _ (by decide)
  generalize m.toNat % 257 = r at *
  have hbl : (fillF ws (256 * (k / 256)) r).length = 512 := by rw [fillF_len, hwl]
  have hbg : ∀ i, i < 512 → (fillF ws (256 * (k / 256)) r).getD i 0#32 = if i / 256 = k / 256 ∧ i < 256 * (k / 256) + r then ones else ws.getD i 0#32 := fun i hi => by
    rw [fillF_getD]
    by_cases hq : i / 256 = k / 256 ∧ i < 256 * (k / 256) + r
    · rw [if_pos hq, if_pos (by omega)]
    · rw [if_neg hq, if_neg (by omega)]
  generalize fillF ws (256 * (k / 256)) r = bare at *
  refine vcReg_meet lok (fun β : Bool => [(14, .bool β)]) (fun β w' => w' = w9 ∧ β = false) [14] (fun _ => rfl) rfl ?_ ?_
  · conv => whnf
    refine Calls.ret (fon_calls hf9) ?_
    rintro _ w10 ⟨rfl, hw10⟩
    conv => whnf
    subst hw10
    conv => whnf
    refine Calls.ret (fon_calls hg9) ?_
    rintro _ w10 ⟨rfl, hw10⟩
    conv => whnf
    subst hw10
    exact ⟨_, ⟨rfl, trivial⟩, rfl, rfl⟩
  rintro β w10 ⟨hw10, hβ⟩
  subst hw10 hβ
  conv => whnf
  refine Calls.ret (fwordsN_calls (n := 512) hf9 hil (by decide)) ?_
  rintro _ w11 ⟨a11, c11, rfl, ho11, x11⟩
  conv => whnf
  have ho11 : Own 42 u32v w10.heap.size w11 a11 c11 is := ho11
  refine Calls.ret (fwordsN_calls (n := 512) (hg9.ext x11) hbl (by decide)) ?_
  rintro _ w12 ⟨a12, c12, rfl, ho12, x12⟩
  conv => whnf
  have ho12 : Own 42 u32v w11.heap.size w12 a12 c12 bare := ho12
  refine Calls.ret (start_calls ((hf9.ext x11).ext x12)) ?_
  rintro _ w13 ⟨rfl, hf13, m13⟩
  conv => whnf
  have hf13 : FlAt 181 w1.heap.size w13 g gw c2 ⟨is, false, -1, m, 0⟩ := hf13
  have gp2 := prog_calls hf13 (k : Int) x (by show is.length ≤ _; omega) (FSok.mk' _ _ _ _ _ (by decide) (by decide))
  rw [prog_on is k x m (by omega) 0] at gp2
  refine Calls.ret (gp2) ?_
  rintro _ w14 ⟨rfl, hf14, m14⟩
  conv => whnf
  have gr := read_calls hf14 (k : Int)
  rw [read_on _ k (-1) m (by rw [List.length_set]; omega) (0 + 1), set_getD is k k _ _ (by omega), if_pos rfl, hig k, if_pos rfl, bv3] at gr
  refine Calls.ret (gr) ?_
  rintro _ w15 ⟨rfl, hw15⟩
  conv => whnf
  subst hw15
  have z6 := m6.size
  have z7 := m7.size
  have z8 := m8.size
  have z9 := m9.size
  have z11 := x11.size
  have z12 := x12.size
  have m1314 := m13.trans m14
  have k5 : Own 42 u32v w4.heap.size w15 a5 c5 ws := by
    have k1 := m6.keepOwn ho5 (fun b hb e => by have := (ho5.ge b hb).1; omega)
    have k2 := m7.keepOwn k1 (fun b hb e => by have := (ho5.ge b hb).1; omega)
    have k3 := m8.keepOwn k2 (fun b hb e => by have := (ho5.ge b hb).1; omega)
    have k4 := m9.keepOwn k3 (fun b hb e => by have := (ho5.ge b hb).1; omega)
    exact m1314.keepOwn ((k4.ext x11).ext x12) (fun b hb e => by have := (ho5.ge b hb).1; omega)
  have k11 : Own 42 u32v w10.heap.size w15 a11 c11 is := m1314.keepOwn (ho11.ext x12) (fun b hb e => by have := (ho11.ge b hb).1; omega)
  have k12 : Own 42 u32v w11.heap.size w15 a12 c12 bare := m1314.keepOwn ho12 (fun b hb e => by have := (ho12.ge b hb).1; omega)
  have x015 : Ext w w15 := by
    have y5 : Ext w w5 := ((x1.trans x2).trans x3).trans x5
    have y6 := FlMod.above m6 y5 (by omega) (by omega)
    have y7 := FlMod.above m7 y6 (by omega) (by omega)
    have y8 := FlMod.above m8 y7 (by omega) (by omega)
    have y9 := FlMod.above m9 y8 (by omega) (by omega)
    exact FlMod.above m1314 ((y9.trans x11).trans x12) (by omega) (by omega)
  clear hf2 hg3 hf6 hg6 hg7 hf7 hf8 hg8 hg9 hf9 hf13 hf14 gp ge gp2 gr ho5 ho11 ho12 hb1 hb4 hb6 m6 m7 m8 m9 m13 m14 m1314
  have gk5 := k5.sl.at (k : Int) (by omega) (by omega)
  have gk11 := k11.sl.at (k : Int) (by omega) (by omega)
  rw [show ws.getD (k : Int).toNat default = ws.getD k 0#32 from rfl] at gk5
  rw [show is.getD (k : Int).toNat default = is.getD k 0#32 from rfl, hig k, if_pos rfl] at gk11
  obtain ⟨pk, ok, hak, hck⟩ := gk5
  obtain ⟨pi, oi, hai, hci⟩ := gk11
  conv => whnf
  refine vcReg_go lok ?_
  conv => whnf
  refine vcCond_false lok (rfl) ?_
  conv => whnf
  refine vcReg_meet lok (fun β : Bool => [(116, .bool β)]) (fun β w' => w' = w15 ∧ β = false) [116] (fun _ => rfl) rfl ?_ ?_
  · conv => whnf
    refine ⟨pk, ok, hak, ⟨by omega, by omega⟩, ?_⟩
    conv => whnf
    refine ⟨_, hck, ?_⟩
    conv => whnf
    intro z hz
    replace hz := hz.trans (and32 (ws.getD k 0#32) x)
    subst hz
    conv => whnf
    exact ⟨_, ⟨rfl, trivial⟩, rfl, by rw [decide_eq_true rfl]; rfl⟩
  rintro β w16 ⟨hw16, hβ⟩
  subst hw16 hβ
  conv => whnf
  refine vcCond_false lok (rfl) ?_
  conv => whnf
  refine vcDraw_meet lok mixed (fun w' => w' = w16.drew) [] [0, 1, 2, 3, 4, 5, 6, 7, 8, 9, 10, 11, 12, 13, 14, 15, 16, 17, 18, 19, 20, 21, 22, 23]
    (fun _ : Unit => [(140, .bool false)]) (fun _ w' => Ext w16 w') [140] (fun _ => rfl) rfl (by kernel_rfl) (fun w17 hw17 => ⟨hw17, ?_⟩) ?_
  · have x17 : Ext w16 w17 := hw17 ▸ Ext.drew w16
    have hck' := Below.cell_of x17 (cell_lt hck) hck
    have hci' := Below.cell_of x17 (cell_lt hci) hci
    conv => whnf
    refine ⟨pi, oi, hai, ⟨by omega, by omega⟩, ?_⟩
    conv => whnf
    refine ⟨_, fun w' hw' => by rw [hw', ← hw17]; exact hci', ?_⟩
    conv => whnf
    refine ⟨pk, ok, hak, ⟨by omega, by omega⟩, ?_⟩
    conv => whnf
    refine ⟨_, fun w' hw' => by rw [hw', ← hw17]; exact hck', ?_⟩
    conv => whnf
    intro z hz
    replace hz := hz.trans (andnot32 (ws.getD k 0#32 &&& (x ||| ~~~m)) (ws.getD k 0#32))
    subst hz
    conv => whnf
    rw [bv1]
    conv => whnf
    refine ⟨pk, ok, hak, ⟨by omega, by omega⟩, ?_⟩
    conv => whnf
    refine ⟨_, fun w' hw' => by rw [hw', ← hw17]; exact hck', ?_⟩
    conv => whnf
    intro z hz
    replace hz := hz.trans (and32 (ws.getD k 0#32) x)
    subst hz
    conv => whnf
    refine ⟨pi, oi, hai, ⟨by omega, by omega⟩, ?_⟩
    conv => whnf
    refine ⟨_, fun w' hw' => by rw [hw', ← hw17]; exact hci', ?_⟩
    conv => whnf
    intro z hz
    replace hz := hz.trans (andnot32 (ws.getD k 0#32 &&& x) (ws.getD k 0#32 &&& (x ||| ~~~m)))
    subst hz
    conv => whnf
    rw [bv2]
    conv => whnf
    exact ⟨(), ⟨rfl, trivial⟩, x17⟩
  rintro _ w17 x17
  conv => whnf
  refine vcCond_false lok (rfl) ?_
  conv => whnf
  refine vcLoop_inv lok (σ := Nat × Bool)
    (fun ⟨i, t⟩ => [(21, .int .i64 i), (20, .bool t), (11, .slice a5 512 c5), (15, .slice a11 512 c11), (16, .slice a12 512 c12), (9, .int .i64 k)])
    (fun ⟨i, t⟩ w18 => i ≤ 512 ∧ (i ≤ 256 * (k / 256) + r → t = false) ∧ Ext w16 w18) (fun s => 512 - s.1)
    (0, false) ⟨rfl, rfl, rfl, rfl, rfl, rfl, trivial⟩ ⟨Nat.zero_le _, fun _ => rfl, x17⟩ ?_
  rintro ⟨i, t⟩ w18 ⟨hi, ht, x18⟩
  conv => whnf
  refine vcCond_split lok rfl (fun h2 => ?_) (fun h2 => ?_)
  rotate_left
  · conv => whnf
    refine Calls.ret (known06) ?_
    rintro _ w19 ⟨rfl, x19⟩
    conv => whnf
    exact ⟨rfl, (x015.trans x18).trans x19⟩
  have h2 := dt h2
  conv => whnf
  have hi512 : i < 512 := by omega
  have g5 := (k5.ext x18).sl.at (i : Int) (by omega) (by omega)
  have g11 := (k11.ext x18).sl.at (i : Int) (by omega) (by omega)
  have g12 := (k12.ext x18).sl.at (i : Int) (by omega) (by omega)
  rw [show ws.getD (i : Int).toNat default = ws.getD i 0#32 from rfl] at g5
  rw [show is.getD (i : Int).toNat default = is.getD i 0#32 from rfl] at g11
  rw [show bare.getD (i : Int).toNat default = bare.getD i 0#32 from rfl] at g12
  have hI := hig i
  have hN := hbg i hi512
  obtain ⟨p5, o5, ha5, hc5⟩ := g5
  obtain ⟨p11, o11, ha11, hc11⟩ := g11
  obtain ⟨p12, o12, ha12, hc12⟩ := g12
  generalize ws.getD i 0#32 = A at *
  generalize is.getD i 0#32 = I at *
  generalize bare.getD i 0#32 = D at *
  refine vcDraw_meet lok mixed (fun w' => w' = w18.drew) [] [0, 1, 2, 3, 4, 5, 6, 7, 8, 9, 10, 11, 12, 13]
    (fun _ : Unit => [(158, .bool false)]) (fun _ w' => Ext w18 w') [158] (fun _ => rfl) rfl (by kernel_rfl) (fun w19 hw19 => ⟨hw19, ?_⟩) ?_
  · have x19 : Ext w18 w19 := hw19 ▸ Ext.drew w18
    have hc5' := Below.cell_of x19 (cell_lt hc5) hc5
    have hc11' := Below.cell_of x19 (cell_lt hc11) hc11
    conv => whnf
    refine bcase (fun h6 => ?_) (fun h6 => ?_)
    · have h6 := ne_true h6
      rw [if_neg (by omega)] at hI
      rw [hI] at hc11'
      conv => whnf
      refine ⟨p11, o11, ha11, ⟨by omega, by omega⟩, ?_⟩
      conv => whnf
      refine ⟨_, fun w' hw' => by rw [hw', ← hw19]; exact hc11', ?_⟩
      conv => whnf
      refine ⟨p5, o5, ha5, ⟨by omega, by omega⟩, ?_⟩
      conv => whnf
      refine ⟨_, fun w' hw' => by rw [hw', ← hw19]; exact hc5', ?_⟩
      conv => whnf
      exact ⟨(), ⟨by rw [decide_eq_true (rfl : (A.toNat : Int) = (A.toNat : Int))]; rfl, trivial⟩, x19⟩
    · conv => whnf
      exact ⟨(), ⟨rfl, trivial⟩, x19⟩
  rintro _ w19 x19
  have hc5b := Below.cell_of x19 (cell_lt hc5) hc5
  have hc12b := Below.cell_of x19 (cell_lt hc12) hc12
  conv => whnf
  refine vcCond_false lok (rfl) ?_
  conv => whnf
  refine vcDraw_meet lok mixed (fun w' => w' = w19.drew) [] [0, 1, 2, 3, 4, 5, 6, 7, 8, 9, 10, 11, 12, 13, 14, 15]
    (fun _ : Unit => [(174, .bool false)]) (fun _ w' => Ext w19 w') [174] (fun _ => rfl) rfl (by kernel_rfl) (fun w20 hw20 => ⟨hw20, ?_⟩) ?_
  · have x20 : Ext w19 w20 := hw20 ▸ Ext.drew w19
    have hc5' := Below.cell_of x20 (cell_lt hc5b) hc5b
    have hc12' := Below.cell_of x20 (cell_lt hc12b) hc12b
    conv => whnf
    refine ⟨by decide, ?_⟩
    intro z hz
    replace hz := hz.trans (quo256 i (by omega))
    subst hz
    conv => whnf
    refine ⟨by decide, ?_⟩
    intro z hz
    replace hz := hz.trans (quo256 k (by omega))
    subst hz
    conv => whnf
    refine bcase (fun h6 => ?_) (fun h6 => ?_)
    · have h6 := ne_true h6
      rw [if_neg (fun e => h6 (by rw [e.1]))] at hN
      rw [hN] at hc12'
      conv => whnf
      refine ⟨p12, o12, ha12, ⟨by omega, by omega⟩, ?_⟩
      conv => whnf
      refine ⟨_, fun w' hw' => by rw [hw', ← hw20]; exact hc12', ?_⟩
      conv => whnf
      refine ⟨p5, o5, ha5, ⟨by omega, by omega⟩, ?_⟩
      conv => whnf
      refine ⟨_, fun w' hw' => by rw [hw', ← hw20]; exact hc5', ?_⟩
      conv => whnf
      exact ⟨(), ⟨by rw [decide_eq_true (rfl : (A.toNat : Int) = (A.toNat : Int))]; rfl, trivial⟩, x20⟩
    · conv => whnf
      exact ⟨(), ⟨rfl, trivial⟩, x20⟩
  rintro _ w20 x20
  have hc5c := Below.cell_of x20 (cell_lt hc5b) hc5b
  have hc12c := Below.cell_of x20 (cell_lt hc12b) hc12b
  conv => whnf
  refine vcCond_false lok (rfl) ?_
  conv => whnf
  refine ⟨by decide, ?_⟩
  intro z hz
  replace hz := hz.trans (quo256 i (by omega))
  subst hz
  conv => whnf
  refine ⟨by decide, ?_⟩
  intro z hz
  replace hz := hz.trans (quo256 k (by omega))
  subst hz
  conv => whnf
  refine vcCond_meet (fun t' : Bool => [(21, .int .i64 i), (20, .bool t'), (11, .slice a5 512 c5), (15, .slice a11 512 c11), (16, .slice a12 512 c12), (9, .int .i64 k)])
    (fun t' w' => (i + 1 ≤ 256 * (k / 256) + r → t' = false) ∧ Ext w20 w') ?_ ?_
  · refine vcCond_split lok rfl (fun h6 => ?_) (fun h6 => ?_)
    · have h6 := dt h6
      have hq : i / 256 = k / 256 := by omega
      conv => whnf
      refine vcReg_meet lok (fun e : Bool => [(22, .bool e)]) (fun e w' => w' = w20 ∧ (i < 256 * (k / 256) + r → e = true)) [22] (fun _ => rfl) rfl ?_ ?_
      · conv => whnf
        refine ⟨p12, o12, ha12, ⟨by omega, by omega⟩, ?_⟩
        conv => whnf
        refine ⟨_, hc12c, ?_⟩
        conv => whnf
        refine bcase (fun h7 => ?_) (fun h7 => ?_)
        · conv => whnf
          exact ⟨_, ⟨rfl, trivial⟩, rfl, fun h8 => by rw [ht (by omega)]; rfl⟩
        · have h7 := df h7
          conv => whnf
          refine ⟨_, ⟨rfl, trivial⟩, rfl, fun h8 => absurd ?_ h7⟩
          rw [hN, if_pos ⟨hq, h8⟩]
          rfl
      rintro e w21 ⟨hw21, he⟩
      subst hw21
      conv => whnf
      refine vcReg_meet lok (fun t' : Bool => [(20, .bool t')]) (fun t' w' => w' = w21 ∧ t' = (t || !e)) [20] (fun _ => rfl) rfl ?_ ?_
      · conv => whnf
        refine bcase (fun h7 => ?_) (fun h7 => ?_)
        · subst h7
          conv => whnf
          exact ⟨_, ⟨rfl, trivial⟩, rfl, rfl⟩
        · subst h7
          conv => whnf
          exact ⟨_, ⟨rfl, trivial⟩, rfl, rfl⟩
      rintro t' w22 ⟨hw22, ht'⟩
      subst hw22
      conv => whnf
      refine vcDraw_meet lok mixed (fun w' => w' = w22.drew) [] [0, 1, 2, 3, 4, 5, 6, 7, 8, 9, 10, 11, 12]
        (fun _ : Unit => [(206, .bool false)]) (fun _ w' => Ext w22 w') [206] (fun _ => rfl) rfl (by kernel_rfl) (fun w23 hw23 => ⟨hw23, ?_⟩) ?_
      · have x23 : Ext w22 w23 := hw23 ▸ Ext.drew w22
        have hc5' := Below.cell_of x23 (cell_lt hc5c) hc5c
        have hc12' := Below.cell_of x23 (cell_lt hc12c) hc12c
        conv => whnf
        refine bcase (fun h7 => ?_) (fun h7 => ?_)
        · have he2 : e = false := by revert h7; cases e <;> simp
          have hnr : ¬ i < 256 * (k / 256) + r := fun h8 => by rw [he h8] at he2; cases he2
          rw [if_neg (fun e => hnr e.2)] at hN
          rw [hN] at hc12'
          conv => whnf
          refine ⟨p12, o12, ha12, ⟨by omega, by omega⟩, ?_⟩
          conv => whnf
          refine ⟨_, fun w' hw' => by rw [hw', ← hw23]; exact hc12', ?_⟩
          conv => whnf
          refine ⟨p5, o5, ha5, ⟨by omega, by omega⟩, ?_⟩
          conv => whnf
          refine ⟨_, fun w' hw' => by rw [hw', ← hw23]; exact hc5', ?_⟩
          conv => whnf
          exact ⟨(), ⟨by rw [decide_eq_true (rfl : (A.toNat : Int) = (A.toNat : Int))]; rfl, trivial⟩, x23⟩
        · conv => whnf
          exact ⟨(), ⟨rfl, trivial⟩, x23⟩
      rintro _ w23 x23
      conv => whnf
      refine vcCond_false lok (rfl) ?_
      conv => whnf
      exact ⟨t', ⟨rfl, rfl, rfl, rfl, rfl, rfl, trivial⟩, fun h8 => by rw [ht', ht (by omega), he (by omega)]; rfl, x23⟩
    · have h6 := df h6
      conv => whnf
      exact ⟨t, ⟨rfl, rfl, rfl, rfl, rfl, rfl, trivial⟩, fun h8 => ht (by omega), Ext.refl _⟩
  rintro t' w21 ⟨ht', x21⟩
  conv => whnf
  refine ⟨by omega, ?_⟩
  conv => whnf
  exact ⟨(i + 1, t'), ⟨rfl, rfl, rfl, rfl, rfl, rfl, trivial⟩, ⟨by omega, ht', ((x18.trans x19).trans x20).trans x21⟩, Nat.sub_succ_lt_self _ _ hi512⟩
end Go.Proofs.Ytgipackjnncabaa
