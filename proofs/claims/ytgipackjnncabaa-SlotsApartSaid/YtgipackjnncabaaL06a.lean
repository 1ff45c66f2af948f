/- The laws FlashNil, FlashOf, FlashApart, walked. -/
import Derived.Test.YtgipackjnncabaaW06e
import Derived.Test.YtgipackjnncabaaSh
set_option linter.unusedVariables false
namespace Go.Proofs.Ytgipackjnncabaa
open Go.Vc Go.RowKit

theorem flashNil_walk {w : World} (a x : Int) : Calls Try.prog 22 #[.int .i64 a, .int .u32 x] w (Law w) := by
  refine calls_of_vc lok Try.func22 ?_ rfl
  conv => whnf
  refine Calls.ret (nstart_calls) ?_
  rintro _ w1 ⟨rfl, hw1⟩
  conv => whnf
  subst hw1
  refine Calls.ret (nread_calls a) ?_
  rintro _ w1 ⟨rfl, hw1⟩
  conv => whnf
  subst hw1
  conv => whnf
  refine vcReg_go lok ?_
  conv => whnf
  refine Calls.ret (nerase_calls a) ?_
  rintro _ w1 ⟨rfl, hw1⟩
  conv => whnf
  subst hw1
  refine Calls.ret (nprog_calls a x) ?_
  rintro _ w1 ⟨rfl, hw1⟩
  conv => whnf
  subst hw1
  refine Calls.ret (nlen_calls) ?_
  rintro _ w1 ⟨rfl, hw1⟩
  conv => whnf
  subst hw1
  refine Calls.ret (nwords_calls) ?_
  rintro _ w1 ⟨rfl, hw1⟩
  conv => whnf
  subst hw1
  refine Calls.ret (ncut_calls a x) ?_
  rintro _ w1 ⟨rfl, hw1⟩
  conv => whnf
  subst hw1
  refine Calls.ret (non_calls) ?_
  rintro _ w1 ⟨rfl, hw1⟩
  conv => whnf
  subst hw1
  refine Calls.ret (nops_calls) ?_
  rintro _ w1 ⟨rfl, hw1⟩
  conv => whnf
  subst hw1
  refine Calls.ret (ncopy_calls) ?_
  rintro _ w1 ⟨rfl, hw1⟩
  conv => whnf
  subst hw1
  refine Calls.ret (known06) ?_
  rintro _ w2 ⟨rfl, hx2⟩
  conv => whnf
  exact ⟨rfl, hx2⟩

theorem flashOf_walk {w : World} {a : Option Addr} {c : Nat} {ws : List (BitVec 32)} (h : Sl u32v w a ws) :
    Calls Try.prog 18 #[.slice a ws.length c] w (Law w) := by
  refine calls_of_vc lok Try.func18 ?_ rfl
  conv => whnf
  refine vcCond_split lok rfl (fun h1 => ?_) (fun h1 => ?_)
  · conv => whnf
    refine Calls.ret (known06) ?_
    rintro _ w1 ⟨rfl, hx1⟩
    conv => whnf
    exact ⟨rfl, hx1⟩
  have h1 := df h1
  conv => whnf
  have g1 := (Own.nil 42 u32v w.heap.size w).append (ty := 37) (d := c) e32.toElem (fun _ => rfl) h (by simp; omega) (Nat.le_refl _)
  rw [List.nil_append] at g1
  obtain ⟨a1, c1, w1, hr1, ho1, hg1, _⟩ := g1
  refine ⟨_, _, hr1, ?_⟩
  have x1 : Ext w w1 := hg1.extOf (Ext.refl _) (fun g hg => by cases hg)
  conv => whnf
  refine Calls.ret (of_calls (c := c1) ho1.sl (by omega)) ?_
  rintro _ w2 hp
  conv => whnf
  rcases hp with ⟨hcan, g, gw, c2, rfl, hf, x2⟩ | ⟨hcan, rfl, rfl⟩
  · conv => whnf
    refine Calls.ret (rof_calls (c := c) (h.ext (x1.trans x2)) (by omega)) ?_
    rintro _ w3 hq
    conv => whnf
    rcases hq with ⟨_, g', gw', c3, rfl, hr, x3⟩ | ⟨hno, _⟩
    rotate_left
    · rw [hcan] at hno; cases hno
    have x23 := x2.trans x3
    conv => whnf
    refine vcCond_false lok (rfl) ?_
    conv => whnf
    refine vcCond_false lok (rfl) ?_
    conv => whnf
    refine vcLoop_inv lok (σ := Nat × List (BitVec 32))
      (fun ⟨i, l⟩ => [(7, .int .i64 i), (3, .slice a1 ws.length c1), (4, .pointer (some ⟨g, 0, none⟩)), (5, .pointer (some ⟨g', 0, none⟩))])
      (fun ⟨i, l⟩ w4 => i ≤ ws.length ∧ l.length = ws.length ∧ Own 42 u32v w.heap.size w4 a1 c1 l ∧ FlAt 181 w1.heap.size w4 g gw c2 (newFS ws) ∧ FlAt 81 w2.heap.size w4 g' gw' c3 (newFS ws) ∧ Ext w w4) (fun t => ws.length - t.1)
      (0, ws) ⟨rfl, rfl, rfl, rfl, trivial⟩ ⟨Nat.zero_le _, rfl, ho1.ext x23, hf.ext x3, hr, x1.trans x23⟩ ?_
    rintro ⟨i, l⟩ w4 ⟨hi, hll, ho4, hf4, hr4, x4⟩
    conv => whnf
    refine vcCond_split lok rfl (fun h2 => ?_) (fun h2 => ?_)
    · have h2 := dt h2
      conv => whnf
      have hil : i < l.length := by omega
      have ea := own_some ho4 (fun e => by rw [e] at hil; simp at hil)
      obtain ⟨ga, ea⟩ := ea
      subst ea
      have hgx : l[i]? = some (l.getD i 0#32) := by simp [List.getD, List.getElem?_eq_getElem hil]
      refine ⟨ga, 0, rfl, ⟨by omega, by omega⟩, ?_⟩
      conv => whnf
      refine ⟨_, ho4.cellAt hgx, ?_⟩
      conv => whnf
      intro z hz
      replace hz := hz.trans (add32 (l.getD i 0#32) 1#32)
      subst hz
      conv => whnf
      refine ⟨ga, 0, rfl, ⟨by omega, by omega⟩, ?_⟩
      conv => whnf
      refine ⟨⟨rfl, (ho4.storeAt i hil).1⟩, fun w5 hw5 => ?_⟩
      have k5 := (ho4.storeAt i hil).2 (l.getD i 0#32 + 1#32) w5 hw5
      obtain ⟨ho5, hg5⟩ := k5
      clear hw5
      have hga : ga < w1.heap.size := (ho1.ge ga rfl).2
      have hgl := hf4.lo
      have hgl2 := hf4.lt.2.2
      have hgl3 := hr4.lo
      have hgl4 := hr4.lt.2.2
      have z2 := x2.size
      have m5 : Mod (fun k => k = ga) w4 w5 := Mod.ofGr hg5 fun k hk => by cases hk; rfl
      conv => whnf
      refine ⟨by omega, ?_⟩
      conv => whnf
      exact ⟨(i + 1, l.set i (l.getD i 0#32 + 1#32)), ⟨rfl, rfl, rfl, rfl, trivial⟩, ⟨by omega, by rw [List.length_set, hll], ho5, hf4.keep m5 (fun e => by omega) (fun e => by omega), hr4.keep m5 (fun e => by omega) (fun e => by omega), m5.above x4 (fun k hk => by rw [hk]; exact (ho4.ge ga rfl).1)⟩, by omega⟩
    · have h2 := df h2
      conv => whnf
      refine vcReg_go lok ?_
      conv => whnf
      refine Calls.ret (alike_calls hf4 hr4 (by show ws.length ≤ _; omega)) ?_
      rintro _ w5 ⟨rfl, x5⟩
      conv => whnf
      refine Calls.ret (known06) ?_
      rintro _ w6 ⟨rfl, x6⟩
      conv => whnf
      exact ⟨rfl, (x4.trans x5).trans x6⟩
  · conv => whnf
    refine Calls.ret (rof_calls (c := c) (h.ext x1) (by omega)) ?_
    rintro _ w3 hq
    conv => whnf
    rcases hq with ⟨hyes, _⟩ | ⟨_, ⟨g', rfl⟩, x3⟩
    · rw [hcan] at hyes; cases hyes
    conv => whnf
    refine vcCond_false lok (rfl) ?_
    conv => whnf
    refine vcCond_true lok (rfl) ?_
    conv => whnf
    refine Calls.ret (known06) ?_
    rintro _ w4 ⟨rfl, x4⟩
    conv => whnf
    exact ⟨rfl, (x1.trans x3).trans x4⟩

/-- an operation's cells -/
def opc (x : Int × Int × BitVec 32) : List Value := [.int .i64 x.1, .int .i64 x.2.1, u32v x.2.2]
def opOk (x : Int × Int × BitVec 32) : Prop := (-9223372036854775808 ≤ x.1 ∧ x.1 ≤ 9223372036854775807) ∧ (-9223372036854775808 ≤ x.2.1 ∧ x.2.1 ≤ 9223372036854775807)
theorem fit_op {w : World} {es : List Value} (h : Fit w (.st (.pair 1 (.int .i64) (.pair 1 (.int .i64) (.pair 1 (.int .u32) .unit)))) es) : ∃ x, es = opc x ∧ opOk x := by
  obtain ⟨c1, r1, e1, _, ⟨n1, h1, w1⟩, c2, r2, e2, _, ⟨n2, h2, w2⟩, c3, r3, e3, _, ⟨n3, h3, w3⟩, h4⟩ := h
  have h4 : r3 = [] := h4
  obtain ⟨m, hm⟩ := wf_u32 w3
  refine ⟨(n1, n2, m), ?_, wf_i64 w1, wf_i64 w2⟩
  rw [e1, e2, e3, h1, h2, h3, h4, hm]
  rfl

theorem set_same {l : List (BitVec 32)} {i : Nat} {y x : BitVec 32} : ((l.set i (l.getD i 0#32 &&& x)).set i ((l.set i (l.getD i 0#32 &&& x)).getD i 0#32 &&& x)) = l.set i (l.getD i 0#32 &&& x) := by
  rw [List.set_set]
  congr 1
  by_cases h : i < l.length
  · simp [List.getD, h, BitVec.and_assoc]
  · simp [List.getD, h]

theorem FSok.mk' (ws : List (BitVec 32)) (o : Bool) (l : Int) (m : BitVec 32) (k : Int) (h1 : k ≤ 4611686018427387904 ∧ -4611686018427387904 ≤ k) (h2 : l ≤ 9223372036854775807) : FSok ⟨ws, o, l, m, k⟩ := ⟨h1, h2⟩
theorem prog_new (ws : List (BitVec 32)) (i : Nat) (x : BitVec 32) (hi : i < ws.length) (k : Int) : progF ⟨ws, false, -1, 0#32, k⟩ (i : Int) x = (⟨ws.set i (ws.getD i 0#32 &&& x), false, -1, 0#32, k + 1⟩, 0) := by
  unfold progF
  rw [if_neg Bool.false_ne_true, if_neg (by show ¬ ((i : Int) < 0 ∨ (ws.length : Int) ≤ i); omega), if_neg (by show ¬ (-1 : Int) = 0; decide)]
  rfl

theorem torn_erase (ws : List (BitVec 32)) (n : Nat) (m : BitVec 32) (hn : n < ws.length / 256) (k : Int) : eraseF ⟨ws, false, 0, m, k⟩ (n : Int) = (⟨fillF ws (256 * n) (m.toNat % 257), true, -1, m, k⟩, 7) := by
  unfold eraseF
  rw [if_neg Bool.false_ne_true, if_neg (by show ¬ ((n : Int) < 0 ∨ ((ws.length / 256 : Nat) : Int) ≤ n); omega), if_pos rfl]
  rfl

set_option maxHeartbeats 2000000 in
theorem flashApart_walk {w : World} {a : Option Addr} {c : Nat} {l : List (BitVec 32)} (h : Sl u32v w a l) (x y : Int × Int × BitVec 32) (hx : opOk x) (hy : opOk y) :
    Calls Try.prog 23 #[.slice a l.length c, .agg (opc x).toArray, .agg (opc y).toArray] w (Law w) := by
  refine calls_of_vc lok Try.func23 ?_ rfl
  conv => whnf
  intro w1 hw1
  have hb1 : Blk w1 w.heap.size 105 (opc x) := by rw [hw1]; exact Blk.new w 105 _
  have x1 : Ext w w1 := by rw [hw1]; exact Ext.new _ _
  clear hw1
  conv => whnf
  intro w2 hw2
  have hb2 : Blk w2 w1.heap.size 105 (opc y) := by rw [hw2]; exact Blk.new w1 105 _
  have x2 : Ext w1 w2 := by rw [hw2]; exact Ext.new _ _
  clear hw2
  conv => whnf
  refine Calls.ret (rows_calls (h.ext (x1.trans x2))) ?_
  rintro _ w3 ⟨g, gw, c3, rfl, hf, x3⟩
  conv => whnf
  have hwl := rowsF_len l
  generalize rowsF l = ws at *
  conv => whnf
  refine vcCond_false lok (rfl) ?_
  conv => whnf
  refine Calls.ret (copy_calls hf (by show ws.length ≤ _; omega) (fun e => by have e2 : ws = [] := e; rw [e2] at hwl; simp at hwl)) ?_
  rintro _ w4 ⟨g', gw', c4, rfl, hc, x4⟩
  conv => whnf
  refine vcCond_false lok (rfl) ?_
  conv => whnf
  have hf4 := hf.ext x4
  refine Calls.ret (fwords_calls hf4 (by show ws.length ≤ _; omega)) ?_
  rintro _ w5 ⟨a5, c5, rfl, ho5, x5⟩
  conv => whnf
  have hf5 := hf4.ext x5
  have hc5 := hc.ext x5
  have hb15 := ((hb1.ext x2).ext x3).ext (x4.trans x5)
  have hb25 := ((hb2.ext x3).ext x4).ext x5
  have x05 := ((((x1.trans x2).trans x3).trans x4).trans x5)
  have q1 := hb1.lt
  have q2 := hb2.lt
  have q3 := hf.lt
  have q4 := hf.lo
  have q5 := hc.lt
  have q6 := hc.lo
  have z1 := x1.size
  have z2 := x2.size
  have z3 := x3.size
  have z4 := x4.size
  have z5 := x5.size
  have hk : ∃ k : Nat, x.2.1 % 512 = (k : Int) ∧ k < 512 := ⟨(x.2.1 % 512).toNat, by omega, by omega⟩
  obtain ⟨k, ek, hk512⟩ := hk
  have hj : ∃ j : Nat, y.2.1 % 2 = (j : Int) ∧ j < 2 := ⟨(y.2.1 % 2).toNat, by omega, by omega⟩
  obtain ⟨j, ej, hj2⟩ := hj
  have ep1 := prog_new ws k x.2.2 (by omega) 0
  have ep2 := prog_new (ws.set k (ws.getD k 0#32 &&& x.2.2)) k x.2.2 (by rw [List.length_set]; omega) 1
  rw [set_same (y := x.2.2)] at ep2
  have hml := y.2.2.isLt
  have ee := torn_erase ws j y.2.2 (by omega) 0
  refine vcDraw_meet lok mixed (fun w' => w' = w5.drew) [3] [0, 1, 2, 4, 5, 3, 6]
    (fun _ : Unit => []) (fun _ w6 => FlAt 181 w2.heap.size w6 g gw c3 ⟨ws.set k (ws.getD k 0#32 &&& x.2.2), false, -1, 0#32, 1⟩ ∧ FlMod g gw w5 w6) [] (fun _ => rfl) rfl (by kernel_rfl) (fun w6 hw6 => ⟨hw6, ?_⟩) ?_
  · have x6 : Ext w5 w6 := hw6 ▸ Ext.drew w5
    conv => whnf
    refine ⟨_, fun w' hw' => by rw [hw', ← hw6]; exact (hb15.ext x6).cell (i := 1) rfl, ?_⟩
    conv => whnf
    refine ⟨_, fun w' hw' => by rw [hw', ← hw6]; exact (hb15.ext x6).cell (i := 2) rfl, ?_⟩
    conv => whnf
    refine Calls.ret (count_calls x.2.1 512 hx.2 (by decide) (by decide)) ?_
    rintro _ w7 ⟨rfl, hw7⟩
    conv => whnf
    subst hw7
    refine ⟨_, fun _ h => h, hw6, ?_⟩
    rw [ek]
    conv => whnf
    have g8 := prog_calls (hf5.ext x6) (k : Int) x.2.2 (by show ws.length ≤ _; omega) (FSok.mk' _ _ _ _ _ (by decide) (by decide))
    rw [show newFS ws = ⟨ws, false, -1, 0#32, 0⟩ from rfl, ep1] at g8
    refine Calls.ret (g8) ?_
    rintro _ w8 ⟨rfl, h8, m8⟩
    conv => whnf
    exact ⟨(), trivial, h8, (Mod.ofExt _ x6).trans m8⟩
  rintro _ w6 ⟨hf6, m6⟩
  have hc6 : FlAt 181 w3.heap.size w6 g' gw' c4 (newFS ws) := hc5.keep m6 (fun e => by omega) (fun e => by omega)
  have ho6 : Own 42 u32v w4.heap.size w6 a5 c5 ws := m6.keepOwn ho5 (fun b hb e => by have := (ho5.ge b hb).1; omega)
  have hb16 := m6.keepBlk hb15 (fun e => by omega)
  have hb26 := m6.keepBlk hb25 (fun e => by omega)
  have x06 : Ext w w6 := FlMod.above m6 x05 (by omega) (by omega)
  conv => whnf
  refine vcReg_meet lok (fun β : Bool => [(43, .bool β)]) (fun β w' => Ext w6 w' ∧ β = false) [43] (fun _ => rfl) rfl ?_ ?_
  · conv => whnf
    refine Calls.ret (fwords_calls hc6 (by show ws.length ≤ _; omega)) ?_
    rintro _ w7 ⟨a7, c7, rfl, ho7, x7⟩
    conv => whnf
    refine Calls.ret (same_calls ho7.sl (ho6.ext x7).sl (by show ws.length ≤ _; omega)) ?_
    rintro _ w8 ⟨rfl, x8⟩
    conv => whnf
    refine bcase (fun h5 => absurd h5 (by rw [decide_eq_true (rfl : (newFS ws).ws = (newFS ws).ws)]; decide)) (fun _ => ?_)
    conv => whnf
    refine Calls.ret (fon_calls ((hc6.ext x7).ext x8)) ?_
    rintro _ w9 ⟨rfl, hw9⟩
    conv => whnf
    subst hw9
    conv => whnf
    refine Calls.ret (ops_calls ((hc6.ext x7).ext x8)) ?_
    rintro _ w9 ⟨rfl, hw9⟩
    conv => whnf
    subst hw9
    conv => whnf
    exact ⟨_, ⟨rfl, trivial⟩, x7.trans x8, rfl⟩
  rintro β w7 ⟨x7, rfl⟩
  conv => whnf
  refine vcCond_false lok (rfl) ?_
  conv => whnf
  have hf7 := hf6.ext x7
  have hc7 := hc6.ext x7
  have z6 := m6.size
  have z7 := x7.size
  refine Calls.ret (fwords_calls hf7 (by show (ws.set k (ws.getD k 0#32 &&& x.2.2)).length ≤ _; rw [List.length_set]; omega)) ?_
  rintro _ w8 ⟨a8, c8, rfl, ho8, x8⟩
  conv => whnf
  have z8 := x8.size
  refine ⟨_, (hb26.ext (x7.trans x8)).cell (i := 2) rfl, ?_⟩
  conv => whnf
  refine Calls.ret (cut_calls (hc7.ext x8) 0 y.2.2) ?_
  rintro _ w9 ⟨rfl, hc9, m9⟩
  conv => whnf
  have hc9 : FlAt 181 w3.heap.size w9 g' gw' c4 ⟨ws, false, 0, y.2.2, 0⟩ := hc9
  have hb29 := m9.keepBlk (hb26.ext (x7.trans x8)) (fun e => by omega)
  refine ⟨_, hb29.cell (i := 1) rfl, ?_⟩
  conv => whnf
  refine Calls.ret (count_calls y.2.1 2 hy.2 (by decide) (by decide)) ?_
  rintro _ w10 ⟨rfl, hw10⟩
  conv => whnf
  subst hw10
  rw [ej]
  have g10 := erase_calls hc9 (j : Int) (by show ws.length ≤ _; omega) (FSok.mk' _ _ _ _ _ (by decide) (by decide))
  rw [ee] at g10
  refine Calls.ret (g10) ?_
  rintro _ w11 ⟨rfl, hc11, m11⟩
  conv => whnf
  have m9b := m9.trans m11
  have hf11 := (hf7.ext x8).keep m9b (fun e => by omega) (fun e => by omega)
  have ho11 := m9b.keepOwn ho8 (fun b hb e => by have := (ho8.ge b hb).1; omega)
  have hb111 := m9b.keepBlk (hb16.ext (x7.trans x8)) (fun e => by omega)
  have x011 : Ext w w11 := FlMod.above m9b ((x06.trans x7).trans x8) (by omega) (by omega)
  have z11 := m9b.size
  refine vcDraw_meet lok mixed (fun w' => w' = w11.drew) [3] [0, 1, 2, 4, 5, 3, 6, 7]
    (fun _ : Unit => [(11, .int .i64 0)]) (fun _ w6 => FlAt 181 w2.heap.size w6 g gw c3 ⟨ws.set k (ws.getD k 0#32 &&& x.2.2), false, -1, 0#32, 2⟩ ∧ FlMod g gw w11 w6) [11] (fun _ => rfl) rfl (by kernel_rfl) (fun w12 hw12 => ⟨hw12, ?_⟩) ?_
  · have x12 : Ext w11 w12 := hw12 ▸ Ext.drew w11
    conv => whnf
    refine ⟨_, fun w' hw' => by rw [hw', ← hw12]; exact (hb111.ext x12).cell (i := 1) rfl, ?_⟩
    conv => whnf
    refine ⟨_, fun w' hw' => by rw [hw', ← hw12]; exact (hb111.ext x12).cell (i := 2) rfl, ?_⟩
    conv => whnf
    refine Calls.ret (count_calls x.2.1 512 hx.2 (by decide) (by decide)) ?_
    rintro _ w13 ⟨rfl, hw13⟩
    conv => whnf
    subst hw13
    refine ⟨_, fun _ h => h, hw12, ?_⟩
    rw [ek]
    conv => whnf
    have g14 := prog_calls (hf11.ext x12) (k : Int) x.2.2 (by show (ws.set k (ws.getD k 0#32 &&& x.2.2)).length ≤ _; rw [List.length_set]; omega) (FSok.mk' _ _ _ _ _ (by decide) (by decide))
    rw [ep2] at g14
    refine Calls.ret (g14) ?_
    rintro _ w14 ⟨rfl, h14, m14⟩
    conv => whnf
    exact ⟨(), ⟨rfl, trivial⟩, h14, (Mod.ofExt _ x12).trans m14⟩
  rintro _ w12 ⟨hf12, m12⟩
  have hc12 := hc11.keep m12 (fun e => by omega) (fun e => by omega)
  have ho12 := m12.keepOwn ho11 (fun b hb e => by have := (ho8.ge b hb).1; omega)
  have x012 : Ext w w12 := FlMod.above m12 x011 (by omega) (by omega)
  conv => whnf
  refine vcReg_go lok ?_
  conv => whnf
  refine Calls.ret (fwords_calls hf12 (by show (ws.set k (ws.getD k 0#32 &&& x.2.2)).length ≤ _; rw [List.length_set]; omega)) ?_
  rintro _ w13 ⟨a13, c13, rfl, ho13, x13⟩
  conv => whnf
  refine Calls.ret (same_calls ho13.sl (ho12.ext x13).sl (by show (ws.set k (ws.getD k 0#32 &&& x.2.2)).length ≤ _; rw [List.length_set]; omega)) ?_
  rintro _ w14 ⟨rfl, x14⟩
  conv => whnf
  refine bcase (fun _ => ?_) (fun h5 => absurd rfl (df h5))
  conv => whnf
  refine Calls.ret (fon_calls ((hf12.ext x13).ext x14)) ?_
  rintro _ w15 ⟨rfl, hw15⟩
  conv => whnf
  subst hw15
  conv => whnf
  refine Calls.ret (fon_calls ((hc12.ext x13).ext x14)) ?_
  rintro _ w15 ⟨rfl, hw15⟩
  conv => whnf
  subst hw15
  conv => whnf
  refine Calls.ret (ops_calls ((hf12.ext x13).ext x14)) ?_
  rintro _ w15 ⟨rfl, hw15⟩
  conv => whnf
  subst hw15
  conv => whnf
  refine Calls.ret (known06) ?_
  rintro _ w16 ⟨rfl, x16⟩
  conv => whnf
  exact ⟨rfl, ((x012.trans x13).trans x14).trans x16⟩
end Go.Proofs.Ytgipackjnncabaa
