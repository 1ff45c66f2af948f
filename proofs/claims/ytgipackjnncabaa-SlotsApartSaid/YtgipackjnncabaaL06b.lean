/- The law FlashPlays, walked. -/
import Derived.Test.YtgipackjnncabaaL06a
set_option linter.unusedVariables false
namespace Go.Proofs.Ytgipackjnncabaa
open Go.Vc Go.RowKit

/-- both flashes, apart from one another -/
structure Two (B : Nat) (w : World) (g gw c h hw d : Nat) (s : FS) : Prop where
  f : FlAt 181 B w g gw c s
  r : FlAt 81 B w h hw d s
  a1 : g ≠ h
  a2 : g ≠ hw
  a3 : gw ≠ h
  a4 : gw ≠ hw
section
variable {B : Nat} {w w' : World} {g gw c h hw d : Nat} {s t : FS}
theorem Two.ext (k : Two B w g gw c h hw d s) (x : Ext w w') : Two B w' g gw c h hw d s := ⟨k.f.ext x, k.r.ext x, k.a1, k.a2, k.a3, k.a4⟩
theorem Two.keepR (k : Two B w g gw c h hw d s) (m : FlMod g gw w w') : FlAt 81 B w' h hw d s := k.r.keep m (fun e => by rcases e with e | e; exact k.a1 e.symm; exact k.a3 e.symm) (fun e => by rcases e with e | e; exact k.a2 e.symm; exact k.a4 e.symm)
theorem Two.both (k : Two B w g gw c h hw d s) {w1 w2 : World} (f1 : FlAt 181 B w1 g gw c t) (m1 : FlMod g gw w w1) (r2 : FlAt 81 B w2 h hw d t) (m2 : FlMod h hw w1 w2) : Two B w2 g gw c h hw d t :=
  ⟨f1.keep m2 (fun e => by rcases e with e | e; exact k.a1 e; exact k.a2 e) (fun e => by rcases e with e | e; exact k.a3 e; exact k.a4 e), r2, k.a1, k.a2, k.a3, k.a4⟩
theorem Two.above (k : Two B w g gw c h hw d s) {w0 w1 w2 : World} (x : Ext w0 w) (hB : w0.heap.size ≤ B) (m1 : FlMod g gw w w1) (m2 : FlMod h hw w1 w2) : Ext w0 w2 := by
  have q1 := k.f.lo
  have q2 := k.f.lt.2.2
  have q3 := k.r.lo
  have q4 := k.r.lt.2.2
  exact FlMod.above m2 (FlMod.above m1 x (by omega) (by omega)) (by omega) (by omega)
/-- a block apart is as it was -/
theorem Two.keepBlk (k : Two B w g gw c h hw d s) {w1 w2 : World} (m1 : FlMod g gw w w1) (m2 : FlMod h hw w1 w2) {b : Nat} {T : TypeId} {vs : List Value} (hb : Blk w b T vs) (n1 : b ≠ g) (n2 : b ≠ gw) (n3 : b ≠ h) (n4 : b ≠ hw) : Blk w2 b T vs :=
  m2.keepBlk (m1.keepBlk hb (fun e => by rcases e with e | e; exact n1 e; exact n2 e)) (fun e => by rcases e with e | e; exact n3 e; exact n4 e)
end

/-- what is kept of the numbers -/
structure Num (s : FS) (n i : Nat) : Prop where
  len : s.ws.length = n
  ops : 0 ≤ s.ops ∧ s.ops ≤ i
  left : s.left ≤ 9223372036854775807
theorem Num.ok {s : FS} {n i : Nat} (h : Num s n i) (hi : i ≤ 4611686018427387904) : FSok s := ⟨by have := h.ops; omega, h.left⟩
theorem Num.up {s : FS} {n i j : Nat} (h : Num s n i) (hj : i ≤ j) : Num s n j := ⟨h.len, by have := h.ops; omega, h.left⟩
theorem did_left {s : FS} (l : List (BitVec 32)) (h : s.left ≤ 9223372036854775807) : (s.did l).left ≤ 9223372036854775807 := by
  show (if 0 < s.left then s.left - 1 else s.left) ≤ _
  split <;> omega
theorem Num.prog {s : FS} {n i : Nat} (h : Num s n i) (a : Int) (x : BitVec 32) : Num (progF s a x).1 n (i + 1) := by
  have hl := progF_le s a x
  refine ⟨by rw [hl.len, h.len], by have := hl.ops; have := h.ops; omega, ?_⟩
  unfold progF
  split
  · exact h.left
  · split
    · exact h.left
    · split
      · show (-1 : Int) ≤ _; decide
      · exact did_left _ h.left
theorem Num.erase {s : FS} {n i : Nat} (h : Num s n i) (a : Int) : Num (eraseF s a).1 n (i + 1) := by
  have hl := eraseF_le s a
  refine ⟨by rw [hl.len, h.len], by have := hl.ops; have := h.ops; omega, ?_⟩
  unfold eraseF
  split
  · exact h.left
  · split
    · exact h.left
    · split
      · show (-1 : Int) ≤ _; decide
      · exact did_left _ h.left
theorem Num.cut {s : FS} {n i : Nat} (h : Num s n i) (a : Int) (ha : a ≤ 9223372036854775807) (m : BitVec 32) : Num (cutF s a m).1 n (i + 1) := by
  unfold cutF
  split
  · exact h.up (Nat.le_succ _)
  · exact ⟨h.len, by have := h.ops; show 0 ≤ s.ops ∧ s.ops ≤ ((i + 1 : Nat) : Int); omega, ha⟩
theorem Num.start {s : FS} {n i : Nat} (h : Num s n i) : Num (startF s) n (i + 1) := ⟨h.len, by have := h.ops; show 0 ≤ s.ops ∧ s.ops ≤ ((i + 1 : Nat) : Int); omega, h.left⟩

theorem beq_self_bool (b : Bool) : (b == b) = true := by cases b <;> rfl

set_option maxHeartbeats 4000000 in
theorem flashPlays_walk {w : World} {a : Option Addr} {c : Nat} (n : Int) {xs : List (Int × Int × BitVec 32)} (h : SlN 3 opc w a xs) (hok : ∀ x ∈ xs, opOk x) :
    Calls Try.prog 21 #[.int .i64 n, .slice a xs.length c] w (Law w) := by
  refine calls_of_vc lok Try.func21 ?_ rfl
  conv => whnf
  refine Calls.ret (new_calls n) ?_
  rintro _ w1 hp
  conv => whnf
  rcases hp with ⟨hn, rfl, hw1⟩ | ⟨hn, g0, gw0, c0, rfl, hf1, x1⟩
  · subst hw1
    conv => whnf
    refine Calls.ret (made_calls n) ?_
    rintro _ w2 hq
    conv => whnf
    rcases hq with ⟨_, ⟨g, rfl⟩, x2⟩ | ⟨hno, _⟩
    rotate_left
    · exact absurd hn hno
    conv => whnf
    refine vcCond_false lok (rfl) ?_
    conv => whnf
    refine vcLoop_inv lok (σ := Unit) (fun _ => [(8, .int .i64 0), (7, .bool false), (1, .slice a xs.length c)]) (fun _ w3 => Ext w1 w3) (fun _ => 0) () ⟨rfl, rfl, rfl, trivial⟩ x2 ?_
    rintro _ w3 x3
    conv => whnf
    refine vcReg_meet lok (fun β : Bool => [(36, .bool β)]) (fun β w' => w' = w3 ∧ β = false) [36] (fun _ => rfl) rfl ?_ ?_
    · conv => whnf
      refine bcase (fun _ => ?_) (fun _ => ?_)
      · conv => whnf
        exact ⟨_, ⟨rfl, trivial⟩, rfl, rfl⟩
      · conv => whnf
        exact ⟨_, ⟨rfl, trivial⟩, rfl, rfl⟩
    rintro β w4 ⟨hw4, hβ⟩
    subst hw4 hβ
    conv => whnf
    refine vcCond_false lok (rfl) ?_
    conv => whnf
    refine Calls.ret (known06) ?_
    rintro _ w5 ⟨rfl, x5⟩
    conv => whnf
    exact ⟨rfl, x3.trans x5⟩
  conv => whnf
  refine Calls.ret (made_calls n) ?_
  rintro _ w2 hq
  conv => whnf
  rcases hq with ⟨hyes, _⟩ | ⟨_, h', hw', d, rfl, hr2, x2⟩
  · exact absurd hyes hn
  have hnl : ∃ m : Nat, m = 256 * n.toNat ∧ m ≤ 4096 ∧ 256 ≤ m := ⟨_, rfl, by omega, by omega⟩
  obtain ⟨m, hm, hm1, hm2⟩ := hnl
  rw [← hm] at hf1 hr2
  have q1 := hf1.lt
  have q2 := hr2.lo
  have q3 := hr2.lt
  have z1 := x1.size
  have t2 : Two w.heap.size w2 g0 gw0 c0 h' hw' d (newFS (List.replicate m ones)) := ⟨hf1.ext x2, hr2.base z1, by omega, by omega, by omega, by omega⟩
  have hs : ∃ s : FS, s = newFS (List.replicate m ones) := ⟨_, rfl⟩
  obtain ⟨s0, hs0⟩ := hs
  rw [← hs0] at t2
  have nu0 : Num s0 m 0 := by rw [hs0]; exact ⟨List.length_replicate, ⟨by show (0 : Int) ≤ 0; decide, by show (0 : Int) ≤ ((0 : Nat) : Int); decide⟩, by show (-1 : Int) ≤ _; decide⟩
  clear hs0 hf1 hr2
  conv => whnf
  refine vcCond_false lok (rfl) ?_
  conv => whnf
  refine vcLoop_inv lok (σ := Nat × Nat × Nat × Nat × FS)
    (fun ⟨i, g, gw, c', s⟩ => [(8, .int .i64 i), (7, .bool true), (5, .pointer (some ⟨g, 0, none⟩)), (6, .pointer (some ⟨h', 0, none⟩)), (1, .slice a xs.length c)])
    (fun ⟨i, g, gw, c', s⟩ w3 => i ≤ xs.length ∧ i ≤ 60 ∧ Two w.heap.size w3 g gw c' h' hw' d s ∧ Num s m i ∧ Ext w w3) (fun t => xs.length - t.1)
    (0, g0, gw0, c0, s0) ⟨rfl, rfl, rfl, rfl, rfl, trivial⟩ ⟨Nat.zero_le _, Nat.zero_le _, t2, nu0, x1.trans x2⟩ ?_
  rintro ⟨i, g, gw, c', s⟩ w3 ⟨hi, hi60, t3, nu, x3⟩
  conv => whnf
  refine vcReg_meet lok (fun β : Bool => [(36, .bool β)]) (fun β w' => w' = w3 ∧ β = decide (i < xs.length ∧ i < 60)) [36] (fun _ => rfl) rfl ?_ ?_
  · conv => whnf
    refine bcase (fun h1 => ?_) (fun h1 => ?_)
    · have h1 := dt h1
      conv => whnf
      refine bcase (fun h2 => ?_) (fun h2 => ?_)
      · have h2 := dt h2
        conv => whnf
        exact ⟨_, ⟨rfl, trivial⟩, rfl, by rw [eq_comm, decide_eq_true_iff]; omega⟩
      · have h2 := df h2
        conv => whnf
        refine ⟨false, ⟨?_, trivial⟩, rfl, by rw [eq_comm, decide_eq_false_iff_not]; omega⟩
        rfl
    · have h1 := df h1
      conv => whnf
      exact ⟨_, ⟨rfl, trivial⟩, rfl, by rw [eq_comm, decide_eq_false_iff_not]; omega⟩
  rintro β w4 ⟨hw4, hβ⟩
  subst hw4
  conv => whnf
  refine vcCond_split lok rfl (fun h1 => ?_) (fun h1 => ?_)
  rotate_left
  · rw [h1] at hβ
    conv => whnf
    refine Calls.ret (known06) ?_
    rintro _ w5 ⟨rfl, x5⟩
    conv => whnf
    exact ⟨rfl, x3.trans x5⟩
  rw [h1] at hβ
  have hlt := dt hβ.symm
  have hixs : i < xs.length := by omega
  have hox := hok xs[i] (List.getElem_mem hixs)
  conv => whnf
  have g5 := (h.ext x3).at i hixs
  generalize xs[i] = x at *
  obtain ⟨p, o, ha, hcell⟩ := g5
  refine ⟨p, o, ha, ⟨by omega, by omega⟩, ?_⟩
  conv => whnf
  refine ⟨opc x, rfl, hcell, ?_⟩
  conv => whnf
  intro w5 hw5
  have hb5 : Blk w5 w4.heap.size 105 [.int .i64 0, .int .i64 0, .int .u32 0] := by rw [hw5]; exact Blk.new w4 105 _
  have x5 : Ext w4 w5 := by rw [hw5]; exact Ext.new _ _
  clear hw5
  conv => whnf
  have k6 := Blk.storeAgg lok hb5 (t := 105) (us := opc x) rfl 0 (Nat.le_refl 3) (by simp [opc, u32v, Value.oneCell'])
  obtain ⟨w6, hr6, hb6, hg6⟩ := k6
  have x6 : Ext w4 w6 := hg6.extOf x5 (fun g hg => by cases hg; exact Nat.le_refl _)
  have hb6 : Blk w6 w4.heap.size 105 (opc x) := hb6
  refine ⟨w6, hr6, ?_⟩
  conv => whnf
  refine ⟨_, hb6.cell0 rfl, ?_⟩
  conv => whnf
  have t6 := t3.ext x6
  have x06 := x3.trans x6
  have r1 := t3.f.lt
  have r2 := t3.r.lt
  have r3 := t3.f.lo
  have r4 := t3.r.lo
  have z6 := x6.size
  have hb6lt := hb6.lt
  have fok := nu.ok (by omega)
  have flen : s.ws.length ≤ 1048576 := by rw [nu.len]; omega
  generalize hbo : w4.heap.size = bo at *
  refine vcCond_meet (fun t : Nat × Nat × Nat × FS => [(5, .pointer (some ⟨t.1, 0, none⟩)), (6, .pointer (some ⟨h', 0, none⟩)), (8, .int .i64 i), (7, .bool true), (1, .slice a xs.length c)])
    (fun t w7 => Two w.heap.size w7 t.1 t.2.1 t.2.2.1 h' hw' d t.2.2.2 ∧ Num t.2.2.2 m (i + 1) ∧ Ext w w7) ?_ ?_
  · refine vcCond_split lok rfl (fun k0 => ?_) (fun k0 => ?_)
    · conv => whnf
      refine vcDraw_meet lok mixed (fun w' => Blk w' bo 105 (opc x)) [5] [0, 1, 2, 3, 4, 6, 7, 8, 9, 10, 5, 11, 12]
        (fun _ : Unit => [(66, .bool false)]) (fun _ w7 => Two w.heap.size w7 g gw c' h' hw' d (progF s x.2.1 x.2.2).1 ∧ Ext w w7) [66] (fun _ => rfl) rfl (by kernel_rfl) (fun w7 hw7 => ⟨hb6.ext (hw7 ▸ Ext.drew w6), ?_⟩) ?_
      · have x7 : Ext w6 w7 := hw7 ▸ Ext.drew w6
        have t7 := t6.ext x7
        conv => whnf
        refine ⟨_, fun w' hw' => hw'.cell (i := 1) rfl, ?_⟩
        conv => whnf
        refine ⟨_, fun w' hw' => hw'.cell (i := 2) rfl, ?_⟩
        conv => whnf
        refine ⟨_, fun w' hw' => hw'.cell (i := 1) rfl, ?_⟩
        conv => whnf
        refine ⟨_, fun w' hw' => hw'.cell (i := 2) rfl, ?_⟩
        conv => whnf
        refine Calls.ret (prog_calls t7.f x.2.1 x.2.2 flen fok) ?_
        rintro _ w8 ⟨rfl, f8, m8⟩
        conv => whnf
        refine ⟨_, fun _ h => h, m8.keepBlk (hb6.ext x7) (fun e => by omega), ?_⟩
        conv => whnf
        refine Calls.ret (rprog_calls (t7.keepR m8) x.2.1 x.2.2 flen fok) ?_
        rintro _ w9 ⟨rfl, f9, m9⟩
        conv => whnf
        exact ⟨(), ⟨by rw [decide_eq_true (rfl : (progF s x.2.1 x.2.2).2 = (progF s x.2.1 x.2.2).2)]; rfl, trivial⟩, t7.both f8 m8 f9 m9, t7.above (x06.trans x7) (Nat.le_refl _) m8 m9⟩
      rintro _ w7 ⟨t7, x7⟩
      conv => whnf
      refine vcCond_false lok (rfl) ?_
      conv => whnf
      exact ⟨(g, gw, c', _), ⟨rfl, rfl, rfl, rfl, rfl, trivial⟩, t7, nu.prog _ _, x7⟩
    · conv => whnf
      refine vcCond_split lok rfl (fun k1 => ?_) (fun k1 => ?_)
      · conv => whnf
        refine vcDraw_meet lok mixed (fun w' => Blk w' bo 105 (opc x)) [3] [0, 1, 2, 4, 5, 6, 3, 7, 8]
          (fun _ : Unit => [(77, .bool false)]) (fun _ w7 => Two w.heap.size w7 g gw c' h' hw' d (eraseF s x.2.1).1 ∧ Ext w w7) [77] (fun _ => rfl) rfl (by kernel_rfl) (fun w7 hw7 => ⟨hb6.ext (hw7 ▸ Ext.drew w6), ?_⟩) ?_
        · have x7 : Ext w6 w7 := hw7 ▸ Ext.drew w6
          have t7 := t6.ext x7
          conv => whnf
          refine ⟨_, fun w' hw' => hw'.cell (i := 1) rfl, ?_⟩
          conv => whnf
          refine ⟨_, fun w' hw' => hw'.cell (i := 1) rfl, ?_⟩
          conv => whnf
          refine Calls.ret (erase_calls t7.f x.2.1 flen fok) ?_
          rintro _ w8 ⟨rfl, f8, m8⟩
          conv => whnf
          refine ⟨_, fun _ h => h, m8.keepBlk (hb6.ext x7) (fun e => by omega), ?_⟩
          conv => whnf
          refine Calls.ret (rerase_calls (t7.keepR m8) x.2.1 flen fok) ?_
          rintro _ w9 ⟨rfl, f9, m9⟩
          conv => whnf
          exact ⟨(), ⟨by rw [decide_eq_true (rfl : (eraseF s x.2.1).2 = (eraseF s x.2.1).2)]; rfl, trivial⟩, t7.both f8 m8 f9 m9, t7.above (x06.trans x7) (Nat.le_refl _) m8 m9⟩
        rintro _ w7 ⟨t7, x7⟩
        conv => whnf
        refine vcCond_false lok (rfl) ?_
        conv => whnf
        exact ⟨(g, gw, c', _), ⟨rfl, rfl, rfl, rfl, rfl, trivial⟩, t7, nu.erase _, x7⟩
      · conv => whnf
        refine vcCond_split lok rfl (fun k2 => ?_) (fun k2 => ?_)
        · conv => whnf
          refine ⟨_, hb6.cell (i := 1) rfl, ?_⟩
          conv => whnf
          refine Calls.ret (read_calls t6.f x.2.1) ?_
          rintro _ w7 ⟨rfl, hw7⟩
          conv => whnf
          subst hw7
          refine ⟨_, hb6.cell (i := 1) rfl, ?_⟩
          conv => whnf
          refine Calls.ret (rread_calls t6.r x.2.1) ?_
          rintro _ w8 ⟨rfl, hw8⟩
          conv => whnf
          subst hw8
          refine vcReg_meet lok (fun β : Bool => [(101, .bool β)]) (fun β w' => w' = w8 ∧ β = false) [101] (fun _ => rfl) rfl ?_ ?_
          · conv => whnf
            refine bcase (fun h5 => absurd rfl (ne_true h5)) (fun _ => ?_)
            conv => whnf
            exact ⟨_, ⟨by rw [decide_eq_true (rfl : (readF s x.2.1).2 = (readF s x.2.1).2)]; rfl, trivial⟩, rfl, rfl⟩
          rintro β w9 ⟨hw9, hβ9⟩
          subst hw9 hβ9
          conv => whnf
          refine vcCond_false lok (rfl) ?_
          conv => whnf
          exact ⟨(g, gw, c', s), ⟨rfl, rfl, rfl, rfl, rfl, trivial⟩, t6, nu.up (Nat.le_succ _), x06⟩
        · conv => whnf
          refine vcCond_split lok rfl (fun k3 => ?_) (fun k3 => ?_)
          · conv => whnf
            refine vcDraw_meet lok mixed (fun w' => Blk w' bo 105 (opc x)) [5] [0, 1, 2, 3, 4, 6, 7, 8, 9, 10, 5, 11, 12]
              (fun _ : Unit => [(116, .bool false)]) (fun _ w7 => Two w.heap.size w7 g gw c' h' hw' d (cutF s x.2.1 x.2.2).1 ∧ Ext w w7) [116] (fun _ => rfl) rfl (by kernel_rfl) (fun w7 hw7 => ⟨hb6.ext (hw7 ▸ Ext.drew w6), ?_⟩) ?_
            · have x7 : Ext w6 w7 := hw7 ▸ Ext.drew w6
              have t7 := t6.ext x7
              conv => whnf
              refine ⟨_, fun w' hw' => hw'.cell (i := 1) rfl, ?_⟩
              conv => whnf
              refine ⟨_, fun w' hw' => hw'.cell (i := 2) rfl, ?_⟩
              conv => whnf
              refine ⟨_, fun w' hw' => hw'.cell (i := 1) rfl, ?_⟩
              conv => whnf
              refine ⟨_, fun w' hw' => hw'.cell (i := 2) rfl, ?_⟩
              conv => whnf
              refine Calls.ret (cut_calls t7.f x.2.1 x.2.2) ?_
              rintro _ w8 ⟨rfl, f8, m8⟩
              conv => whnf
              refine ⟨_, fun _ h => h, m8.keepBlk (hb6.ext x7) (fun e => by omega), ?_⟩
              conv => whnf
              refine Calls.ret (rcut_calls (t7.keepR m8) x.2.1 x.2.2) ?_
              rintro _ w9 ⟨rfl, f9, m9⟩
              conv => whnf
              exact ⟨(), ⟨by rw [decide_eq_true (rfl : (cutF s x.2.1 x.2.2).2 = (cutF s x.2.1 x.2.2).2)]; rfl, trivial⟩, t7.both f8 m8 f9 m9, t7.above (x06.trans x7) (Nat.le_refl _) m8 m9⟩
            rintro _ w7 ⟨t7, x7⟩
            conv => whnf
            refine vcCond_false lok (rfl) ?_
            conv => whnf
            exact ⟨(g, gw, c', _), ⟨rfl, rfl, rfl, rfl, rfl, trivial⟩, t7, nu.cut _ hox.2.2 _, x7⟩
          · conv => whnf
            refine vcCond_split lok rfl (fun k4 => ?_) (fun k4 => ?_)
            · conv => whnf
              refine Calls.ret (start_calls t6.f) ?_
              rintro _ w7 ⟨rfl, f7, m7⟩
              conv => whnf
              refine Calls.ret (rstart_calls (t6.keepR m7)) ?_
              rintro _ w8 ⟨rfl, f8, m8⟩
              conv => whnf
              exact ⟨(g, gw, c', startF s), ⟨rfl, rfl, rfl, rfl, rfl, trivial⟩, t6.both f7 m7 f8 m8, nu.start, t6.above x06 (Nat.le_refl _) m7 m8⟩
            · conv => whnf
              refine Calls.ret (copy_calls t6.f flen (fun e => by have e2 := nu.len; rw [e] at e2; simp at e2; omega)) ?_
              rintro _ w7 ⟨g7, gw7, c7, rfl, f7, x7⟩
              conv => whnf
              refine vcCond_false lok (rfl) ?_
              conv => whnf
              refine Calls.ret (erase_calls (t6.f.ext x7) 0 flen fok) ?_
              rintro _ w8 ⟨rfl, f8, m8⟩
              conv => whnf
              have s1 := f7.lo
              have s2 := f7.lt
              have s3 := x06.size
              have t7 := t6.ext x7
              exact ⟨(g7, gw7, c7, s), ⟨rfl, rfl, rfl, rfl, rfl, trivial⟩, ⟨(f7.keep m8 (fun e => by omega) (fun e => by omega)).base s3, t7.keepR m8, (show g7 ≠ h' by omega), (show g7 ≠ hw' by omega), (show gw7 ≠ h' by omega), (show gw7 ≠ hw' by omega)⟩, nu.up (Nat.le_succ _), FlMod.above m8 (x06.trans x7) (by omega) (by omega)⟩
  rintro ⟨g', gw', c'', s'⟩ w7 ⟨t7, nu7, x7⟩
  conv => whnf
  refine Calls.ret (alike_calls t7.f t7.r (by have e7 : s'.ws.length = m := nu7.len; show s'.ws.length ≤ 1048576; omega)) ?_
  rintro _ w8 ⟨rfl, x8⟩
  conv => whnf
  conv => whnf
  refine vcCond_false lok (rfl) ?_
  conv => whnf
  refine ⟨by omega, ?_⟩
  conv => whnf
  exact ⟨(i + 1, g', gw', c'', s'), ⟨rfl, rfl, rfl, rfl, rfl, trivial⟩, ⟨by omega, by omega, t7.ext x8, nu7, x7.trans x8⟩, Nat.sub_succ_lt_self _ _ hixs⟩
end Go.Proofs.Ytgipackjnncabaa
