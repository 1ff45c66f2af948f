/- Walks of layer 6, fourth part: flashes made, compared, and none at all. -/
import Derived.Test.YtgipackjnncabaaW06c
import Derived.Test.YtgipackjnncabaaL03b
set_option linter.unusedVariables false
namespace Go.Proofs.Ytgipackjnncabaa
open Go.Vc Go.RowKit

/-- the reference's: a flash that is erased -/
theorem made_calls {w : World} (n : Int) :
    Calls Try.prog 71 #[.int .i64 n] w (Ret fun v w' => ((n < 1 ∨ 16 < n) ∧ (∃ g, v = .tuple #[.pointer (some ⟨g, 0, none⟩), .bool false]) ∧ Ext w w') ∨ (¬ (n < 1 ∨ 16 < n) ∧ ∃ g gw c, v = .tuple #[.pointer (some ⟨g, 0, none⟩), .bool true] ∧ FlAt 81 w.heap.size w' g gw c (newFS (List.replicate (256 * n.toNat) ones)) ∧ Ext w w')) := by
  refine calls_of_vc lok Try.func71 ?_ rfl
  conv => whnf
  refine vcReg_meet lok (fun β : Bool => [(11, .bool β)]) (fun β w' => w' = w ∧ β = decide (n < 1 ∨ 16 < n)) [11] (fun _ => rfl) rfl ?_ ?_
  · conv => whnf
    refine bcase (fun h1 => ?_) (fun h1 => ?_)
    · conv => whnf
      exact ⟨_, ⟨rfl, trivial⟩, rfl, by have := dt h1; simp; omega⟩
    · conv => whnf
      exact ⟨_, ⟨rfl, trivial⟩, rfl, by have := df h1; rw [decide_eq_decide]; omega⟩
  rintro β w' ⟨hw', hβ⟩
  subst hw'
  conv => whnf
  refine vcCond_split lok rfl (fun h1 => ?_) (fun h1 => ?_)
  · rw [h1] at hβ
    conv => whnf
    refine ⟨_, fun w => run_build w 81 _ _ built81n, ?_⟩
    conv => whnf
    intro w1 hw1
    have x1 : Ext w' w1 := by rw [hw1]; exact Ext.new _ _
    clear hw1
    conv => whnf
    exact .inl ⟨dt hβ.symm, ⟨_, rfl⟩, x1⟩
  rw [h1] at hβ
  have hn := df hβ.symm
  conv => whnf
  have hm : ∃ m : Nat, m = 256 * n.toNat ∧ 256 ≤ m ∧ m ≤ 4096 := ⟨_, rfl, by omega, by omega⟩
  obtain ⟨m, hm, hm1, hm2⟩ := hm
  rw [← hm]
  refine vcLoop_inv lok (σ := Nat × Option Addr × Nat)
    (fun ⟨i, a, c⟩ => [(5, .int .i64 i), (4, .slice a (List.replicate i ones).length c), (0, .int .i64 n)])
    (fun ⟨i, a, c⟩ w1 => i ≤ m ∧ Own 42 u32v w'.heap.size w1 a c (List.replicate i ones) ∧ Ext w' w1) (fun s => m - s.1)
    (0, none, 0) ⟨rfl, rfl, rfl, trivial⟩ ⟨Nat.zero_le _, Own.nil _ _ _ _, Ext.refl _⟩ ?_
  rintro ⟨i, a, c⟩ w1 ⟨hi, ho1, hx1⟩
  conv => whnf
  refine ⟨by omega, ?_⟩
  conv => whnf
  refine vcCond_split lok rfl (fun h2 => ?_) (fun h2 => ?_)
  · have h2 := dt h2
    conv => whnf
    refine ⟨_, _, run_buildN e32.toElem ([ones].map u32v) (by simp [u32v, Value.oneCell']) (by simp) w1, ?_⟩
    conv => whnf
    have x2 : Ext w1 (w1.alloc (.cells ([ones].map u32v).toArray 42)) := Ext.new _ _
    have s2 : Sl u32v (w1.alloc (.cells ([ones].map u32v).toArray 42)) (some ⟨w1.heap.size, 0, none⟩) [ones] := Sl.lit _ _
    have g3 := (ho1.ext x2).append (ty := 37) (d := 1) e32.toElem (fun _ => rfl) s2 (by simp only [List.length_replicate, List.length_singleton]; omega) (hx1.trans x2).size
    obtain ⟨a3, c3, w3, hr3, ho3, hg3, _⟩ := g3
    refine ⟨_, _, hr3, ?_⟩
    have x3 : Ext w' w3 := hg3.extOf (hx1.trans x2) (fun g hg => (ho1.ge g hg).1)
    conv => whnf
    refine ⟨by omega, ?_⟩
    conv => whnf
    have er : List.replicate i ones ++ [ones] = List.replicate (i + 1) ones := List.replicate_succ'.symm
    rw [er] at ho3
    exact ⟨(i + 1, a3, c3), ⟨rfl, by rw [← er]; rfl, rfl, trivial⟩, ⟨by omega, ho3, x3⟩, Nat.sub_succ_lt_self _ _ (by omega)⟩
  · have h2 := df h2
    conv => whnf
    have e : i = m := by omega
    subst e
    have ea := own_some ho1 (fun e => by have e2 := congrArg List.length e; rw [List.length_replicate, List.length_nil] at e2; omega)
    obtain ⟨gw, ea⟩ := ea
    subst ea
    refine ⟨_, fun w => run_build w 81 _ _ (built81 _ _ _), ?_⟩
    conv => whnf
    intro w2 hw2
    have k2 := FlAt.new (T := 81) (w' := w2) ho1 hx1.size hw2
    clear hw2
    conv => whnf
    exact .inr ⟨hn, _, _, _, rfl, k2.1, hx1.trans k2.2⟩

/-- the reference's: a flash of words -/
theorem rof_calls {w : World} {a : Option Addr} {c : Nat} {ws : List (BitVec 32)} (h : Sl u32v w a ws) (hl : ws.length ≤ 1048576) :
    Calls Try.prog 92 #[.slice a ws.length c] w (Ret fun v w' => (canF ws.length = true ∧ ∃ g gw c, v = .tuple #[.pointer (some ⟨g, 0, none⟩), .bool true] ∧ FlAt 81 w.heap.size w' g gw c (newFS ws) ∧ Ext w w') ∨ (canF ws.length = false ∧ (∃ g, v = .tuple #[.pointer (some ⟨g, 0, none⟩), .bool false]) ∧ Ext w w')) := by
  refine calls_of_vc lok Try.func92 ?_ rfl
  conv => whnf
  refine vcReg_meet lok (fun β : Bool => [(18, .bool β)]) (fun β w' => w' = w ∧ β = !canF ws.length) [18] (fun _ => rfl) rfl ?_ ?_
  · conv => whnf
    refine bcase (fun h1 => ?_) (fun h1 => ?_)
    · have := dt h1
      conv => whnf
      exact ⟨_, ⟨rfl, trivial⟩, rfl, by unfold canF; rw [decide_eq_false (by omega)]; rfl⟩
    · have := df h1
      conv => whnf
      refine ⟨by decide, ?_⟩
      intro z hz
      have hz25 : z = ((ws.length % 256 : Nat) : Int) := by rw [hz, Int.tmod_eq_emod_of_nonneg (by omega)]; omega
      clear hz
      subst hz25
      conv => whnf
      refine bcase (fun h2 => ?_) (fun h2 => ?_)
      · have := ne_true h2
        conv => whnf
        exact ⟨_, ⟨rfl, trivial⟩, rfl, by unfold canF; rw [decide_eq_false (by omega)]; rfl⟩
      · have := ne_false h2
        conv => whnf
        refine ⟨_, ⟨rfl, trivial⟩, rfl, ?_⟩
        unfold canF
        by_cases h3 : (4096 : Int) < (ws.length : Int)
        · rw [decide_eq_true h3, decide_eq_false (by omega)]; rfl
        · rw [decide_eq_false h3, decide_eq_true (by omega)]; rfl
  rintro β w' ⟨hw', hβ⟩
  subst hw'
  conv => whnf
  refine vcCond_split lok rfl (fun h1 => ?_) (fun h1 => ?_)
  · rw [h1] at hβ
    conv => whnf
    refine ⟨_, fun w => run_build w 81 _ _ built81n, ?_⟩
    conv => whnf
    intro w1 hw1
    have x1 : Ext w' w1 := by rw [hw1]; exact Ext.new _ _
    clear hw1
    conv => whnf
    exact .inr ⟨by simpa using hβ.symm, ⟨_, rfl⟩, x1⟩
  rw [h1] at hβ
  have hcan : canF ws.length = true := by simpa using hβ.symm
  have hcl := of_decide_eq_true hcan
  conv => whnf
  have g3 := (Own.nil 42 u32v w'.heap.size w').append (ty := 37) (d := c) e32.toElem (fun _ => rfl) h (by simp; omega) (Nat.le_refl _)
  rw [List.nil_append] at g3
  obtain ⟨a3, c3, w3, hr3, ho3, hg3, _⟩ := g3
  have ea := own_some ho3 (fun e => by rw [e] at hcl; simp at hcl)
  obtain ⟨gw, ea⟩ := ea
  subst ea
  refine ⟨_, _, hr3, ?_⟩
  have x3 : Ext w' w3 := hg3.extOf (Ext.refl _) (fun g hg => by cases hg)
  conv => whnf
  refine ⟨_, fun w => run_build w 81 _ _ (built81 _ _ _), ?_⟩
  conv => whnf
  intro w4 hw4
  have k4 := FlAt.new (T := 81) (w' := w4) ho3 x3.size hw4
  exact .inl ⟨hcan, _, _, _, rfl, k4.1, x3.trans k4.2⟩

/-- words that repeat, 512 of them -/
def rowsF (l : List (BitVec 32)) : List (BitVec 32) := (List.range 512).map fun i => if 0 < l.length then l.getD (i % l.length) 0#32 else BitVec.ofNat 32 (i * 2654435761)
theorem rowsF_len (l : List (BitVec 32)) : (rowsF l).length = 512 := by simp [rowsF]
theorem rowsF_take (l : List (BitVec 32)) (i : Nat) (hi : i < 512) : (rowsF l).take (i + 1) = (rowsF l).take i ++ [if 0 < l.length then l.getD (i % l.length) 0#32 else BitVec.ofNat 32 (i * 2654435761)] := by
  rw [List.take_succ_eq_append_getElem (by rw [rowsF_len]; exact hi)]
  simp [rowsF]

theorem rows_calls {w : World} {a : Option Addr} {c : Nat} {l : List (BitVec 32)} (h : Sl u32v w a l) :
    Calls Try.prog 94 #[.slice a l.length c] w (Ret fun v w' => ∃ g gw c, v = .pointer (some ⟨g, 0, none⟩) ∧ FlAt 181 w.heap.size w' g gw c (newFS (rowsF l)) ∧ Ext w w') := by
  refine calls_of_vc lok Try.func94 ?_ rfl
  conv => whnf
  refine vcLoop_inv lok (σ := Nat × Option Addr × Nat)
    (fun ⟨i, b, d⟩ => [(4, .int .i64 i), (3, .slice b ((rowsF l).take i).length d), (0, .slice a l.length c)])
    (fun ⟨i, b, d⟩ w1 => i ≤ 512 ∧ Own 42 u32v w.heap.size w1 b d ((rowsF l).take i) ∧ Ext w w1) (fun s => 512 - s.1)
    (0, none, 0) ⟨rfl, rfl, rfl, trivial⟩ ⟨Nat.zero_le _, Own.nil _ _ _ _, Ext.refl _⟩ ?_
  rintro ⟨i, b, d⟩ w1 ⟨hi, ho1, hx1⟩
  have hlen := rowsF_len l
  conv => whnf
  refine vcCond_split lok rfl (fun h2 => ?_) (fun h2 => ?_)
  · have h2 := dt h2
    conv => whnf
    have hi512 : i < 512 := by omega
    intro z1 hz
    have hz40 : z1 = (i : Int) := by rw [hz, wu32]; omega
    clear hz
    subst hz40
    conv => whnf
    intro z2 hz
    have hz41 : z2 = ((BitVec.ofNat 32 (i * 2654435761)).toNat : Int) := by rw [hz, wu32, BitVec.toNat_ofNat]; omega
    clear hz
    subst hz41
    conv => whnf
    have ets := rowsF_take l i hi512
    refine vcCond_meet (fun y : BitVec 32 => [(5, .int .u32 y.toNat), (4, .int .i64 i), (3, .slice b ((rowsF l).take i).length d), (0, .slice a l.length c)])
      (fun y w' => w' = w1 ∧ y = if 0 < l.length then l.getD (i % l.length) 0#32 else BitVec.ofNat 32 (i * 2654435761)) ?_ ?_
    · refine vcCond_split lok rfl (fun h3 => ?_) (fun h3 => ?_)
      · have h3 := dt h3
        conv => whnf
        have hl0 : 0 < l.length := by omega
        refine ⟨by omega, ?_⟩
        have hml := Nat.mod_lt i hl0
        intro z hz
        have hz44 : z = ((i % l.length : Nat) : Int) := by rw [hz, Int.tmod_eq_emod_of_nonneg (by omega), ← Int.natCast_emod]
        clear hz
        subst hz44
        conv => whnf
        have g1 := (h.ext hx1).at ((i % l.length : Nat) : Int) (by omega) (by omega)
        obtain ⟨p, o, ha, hcell⟩ := g1
        rw [Int.toNat_natCast] at hcell
        refine ⟨p, o, ha, ⟨by omega, by omega⟩, ?_⟩
        conv => whnf
        refine ⟨_, hcell, ?_⟩
        conv => whnf
        exact ⟨l.getD (i % l.length) default, ⟨rfl, rfl, rfl, rfl, trivial⟩, rfl, by rw [if_pos hl0]; rfl⟩
      · have h3 := df h3
        conv => whnf
        exact ⟨_, ⟨rfl, rfl, rfl, rfl, trivial⟩, rfl, by rw [if_neg (by omega)]⟩
    rintro y w2 ⟨hw2, hy⟩
    subst hw2
    rw [← hy] at ets
    conv => whnf
    refine ⟨_, _, run_buildN e32.toElem ([y].map u32v) (by simp [u32v, Value.oneCell']) (by simp) w2, ?_⟩
    conv => whnf
    have x2 : Ext w2 (w2.alloc (.cells ([y].map u32v).toArray 42)) := Ext.new _ _
    have s2 : Sl u32v (w2.alloc (.cells ([y].map u32v).toArray 42)) (some ⟨w2.heap.size, 0, none⟩) [y] := Sl.lit _ _
    have g3 := (ho1.ext x2).append (ty := 37) (d := 1) e32.toElem (fun _ => rfl) s2 (by rw [List.length_take, List.length_singleton]; omega) (hx1.trans x2).size
    obtain ⟨a3, c3, w3, hr3, ho3, hg3, _⟩ := g3
    refine ⟨_, _, hr3, ?_⟩
    have x3 : Ext w w3 := hg3.extOf (hx1.trans x2) (fun g hg => (ho1.ge g hg).1)
    conv => whnf
    refine ⟨by omega, ?_⟩
    conv => whnf
    rw [← ets] at ho3
    exact ⟨(i + 1, a3, c3), ⟨rfl, by rw [ets]; rfl, rfl, trivial⟩, ⟨by omega, ho3, x3⟩, Nat.sub_succ_lt_self _ _ hi512⟩
  · have h2 := df h2
    conv => whnf
    have e : i = 512 := by omega
    subst e
    have e2 : (rowsF l).take 512 = rowsF l := List.take_of_length_le (by rw [hlen]; exact Nat.le_refl _)
    have g4 := of_calls (c := d) ho1.sl (by rw [e2, hlen]; omega)
    refine Calls.ret (g4) ?_
    rintro _ w2 hp
    conv => whnf
    rw [e2] at hp
    rcases hp with ⟨_, g, gw, c', rfl, hf, x2⟩ | ⟨hno, _, _⟩
    · conv => whnf
      exact ⟨_, _, _, rfl, hf.base hx1.size, hx1.trans x2⟩
    · rw [hlen] at hno
      exact absurd hno (by decide)

set_option maxHeartbeats 1000000 in
/-- all that can be seen of both is alike -/
theorem alike_calls {B B' : Nat} {w : World} {g gw c h hw d : Nat} {s : FS} (hf : FlAt 181 B w g gw c s) (hr : FlAt 81 B' w h hw d s) (hl : s.ws.length ≤ 1048576) :
    Calls Try.prog 93 #[.pointer (some ⟨g, 0, none⟩), .pointer (some ⟨h, 0, none⟩)] w (Ret fun v w' => v = .bool true ∧ Ext w w') := by
  refine calls_of_vc lok Try.func93 ?_ rfl
  conv => whnf
  refine Calls.ret (fwords_calls hf hl) ?_
  rintro _ w1 ⟨a1, c1, rfl, ho1, x1⟩
  conv => whnf
  refine vcDraw_meet lok mixed (Ext w1) [5, 8, 18, 28] [0, 1, 2, 3, 4, 5, 6, 7, 9, 10, 11, 12, 13, 8, 14, 15, 16, 17, 19, 20, 21, 22, 23, 18, 24, 25, 26, 27, 29, 30, 31, 32, 28, 33, 34, 35]
    (fun _ : Unit => [(6, .bool true)]) (fun _ w3 => Ext w1 w3) [6] (fun _ => rfl) rfl (by kernel_rfl) (fun w2 hw2 => ⟨hw2 ▸ Ext.drew w1, ?_⟩) ?_
  · have x2 : Ext w1 w2 := hw2 ▸ Ext.drew w1
    have hr1 := hr.ext x1
    have hf1 := hf.ext x1
    conv => whnf
    refine ⟨_, fun w' hw' => (hr1.ext hw').blk.cell0 rfl, ?_⟩
    conv => whnf
    refine Calls.ret (same_calls (ho1.ext x2).sl (hr1.ext x2).sl (by omega)) ?_
    rintro _ w3 ⟨rfl, x3⟩
    conv => whnf
    refine ⟨Ext w1, fun _ h => h, x2.trans x3, ?_⟩
    conv => whnf
    refine bcase (fun _ => ?_) (fun h5 => absurd rfl (df h5))
    conv => whnf
    refine ⟨_, fun w' hw' => (hr1.ext hw').blk.cell0 rfl, ?_⟩
    conv => whnf
    refine Calls.ret (len_calls (hf1.ext (x2.trans x3))) ?_
    rintro _ w4 ⟨rfl, hw4⟩
    conv => whnf
    subst hw4
    refine ⟨Ext w1, fun _ h => h, x2.trans x3, ?_⟩
    conv => whnf
    refine bcase (fun _ => ?_) (fun h5 => absurd rfl (df h5))
    conv => whnf
    refine ⟨_, fun w' hw' => (hr1.ext hw').blk.cell (i := 1) rfl, ?_⟩
    conv => whnf
    refine Calls.ret (fon_calls (hf1.ext (x2.trans x3))) ?_
    rintro _ w4 ⟨rfl, hw4⟩
    conv => whnf
    subst hw4
    refine ⟨Ext w1, fun _ h => h, x2.trans x3, ?_⟩
    conv => whnf
    have eo : ((!s.off) == (!s.off)) = true := by cases s.off <;> rfl
    refine bcase (fun _ => ?_) (fun h5 => absurd (eo.symm.trans h5) (by decide))
    conv => whnf
    refine ⟨_, fun w' hw' => (hr1.ext hw').blk.cell (i := 4) rfl, ?_⟩
    conv => whnf
    refine Calls.ret (ops_calls (hf1.ext (x2.trans x3))) ?_
    rintro _ w4 ⟨rfl, hw4⟩
    conv => whnf
    subst hw4
    refine ⟨Ext w1, fun _ h => h, x2.trans x3, ?_⟩
    conv => whnf
    exact ⟨(), ⟨by rw [decide_eq_true (rfl : s.ops = s.ops)]; rfl, trivial⟩, x2.trans x3⟩
  rintro _ w2 x2
  conv => whnf
  refine vcLoop_inv lok (σ := Nat × List (BitVec 32))
    (fun ⟨i, l⟩ => [(7, .int .i64 i), (6, .bool true), (5, .slice a1 s.ws.length c1), (0, .pointer (some ⟨g, 0, none⟩)), (1, .pointer (some ⟨h, 0, none⟩))])
    (fun ⟨i, l⟩ w3 => i ≤ s.ws.length ∧ l.length = s.ws.length ∧ Own 42 u32v w.heap.size w3 a1 c1 l ∧ Ext w w3) (fun t => s.ws.length - t.1)
    (0, s.ws) ⟨rfl, rfl, rfl, rfl, rfl, trivial⟩ ⟨Nat.zero_le _, rfl, ho1.ext x2, x1.trans x2⟩ ?_
  rintro ⟨i, l⟩ w3 ⟨hi, hll, ho3, x3⟩
  conv => whnf
  refine vcCond_split lok rfl (fun h2 => ?_) (fun h2 => ?_)
  · have h2 := dt h2
    conv => whnf
    have g5 := ho3.store (i : Int) (by omega) (by omega)
    obtain ⟨g', hg, hk1, hk2, hBg, hgw, hst⟩ := g5
    have g6 := hst 5#32
    obtain ⟨ho5, hg5⟩ := g6
    rw [Int.toNat_natCast] at ho5 hg5 hk1 hk2
    refine ⟨g', 0, hg, ⟨by omega, by omega⟩, ?_⟩
    conv => whnf
    refine ⟨⟨rfl, hk1, hk2⟩, fun w5 hw5 => ?_⟩
    have hw6 : w5 = w3.setCell ⟨g', 0 + i, none⟩ (u32v 5#32) := hw5
    rw [← hw6] at ho5 hg5
    clear hw5 hw6
    conv => whnf
    refine ⟨by omega, ?_⟩
    conv => whnf
    exact ⟨(i + 1, l.set i 5#32), ⟨rfl, rfl, rfl, rfl, rfl, trivial⟩, ⟨by omega, by rw [List.length_set, hll], ho5, hg5.extOf x3 (fun g'' hg' => by cases hg'; exact hBg)⟩, by omega⟩
  · have h2 := df h2
    conv => whnf
    refine vcDraw_meet lok mixed (Ext w3) [3] [0, 1, 2, 4, 5, 6, 7, 3, 8, 9, 10]
      (fun _ : Unit => [(4, .bool true)]) (fun _ w4 => Ext w3 w4) [4] (fun _ => rfl) rfl (by kernel_rfl) (fun w4 hw4 => ⟨hw4 ▸ Ext.drew w3, ?_⟩) ?_
    · have x4 : Ext w3 w4 := hw4 ▸ Ext.drew w3
      have hr3 := hr.ext x3
      conv => whnf
      refine ⟨_, fun w' hw' => (hr3.ext hw').blk.cell0 rfl, ?_⟩
      conv => whnf
      refine Calls.ret (fwords_calls (hf.ext (x3.trans x4)) hl) ?_
      rintro _ w5 ⟨a5, c5, rfl, ho5, x5⟩
      conv => whnf
      refine ⟨Ext w3, fun _ h => h, x4.trans x5, ?_⟩
      conv => whnf
      refine Calls.ret (same_calls ho5.sl (hr3.ext (x4.trans x5)).sl (by omega)) ?_
      rintro _ w6 ⟨rfl, x6⟩
      conv => whnf
      exact ⟨(), ⟨by rw [decide_eq_true (rfl : s.ws = s.ws)]; rfl, trivial⟩, (x4.trans x5).trans x6⟩
    rintro _ w4 x4
    conv => whnf
    exact ⟨rfl, x3.trans x4⟩
end Go.Proofs.Ytgipackjnncabaa
