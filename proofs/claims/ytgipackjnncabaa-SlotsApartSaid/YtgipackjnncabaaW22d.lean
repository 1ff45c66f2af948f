/- Walks of layer 22, fourth part: sealed; whole; sealing; bytes; a chunk written; opened; the fixed calls. -/
import Derived.Test.YtgipackjnncabaaW22c
set_option linter.unusedVariables false
namespace Go.Proofs.Ytgipackjnncabaa
open Go.Vc Go.RowKit

theorem whole_head {s : FS} {n : Nat} {slot : Int} (h : checkF s slot = 0) : wholeSF s n slot = if (headR s n slot).2.2 = true then (if (haveF s n slot).2 = true then ((headR s n slot).2.1, 0) else (0, 2)) else (0, 8) := by
  have hc := check_zero h
  have eh : haveF s n slot = haveW s.ws (atF n slot) := by unfold haveF; rw [if_neg (by rw [hc.1]; simp [hc.2])]
  unfold wholeSF
  rw [headR_ok h, if_neg (fun q => q h), eh]
  cases headW s.ws (atF n slot) with
  | none => rfl
  | some x => rfl

section
variable {B : Nat} {w : World} {sb g gw c n i : Nat} {s : FS}
/-- Sealed -/
theorem ssealed_calls (h : SlAt B w sb g gw c n s) (slot : Int) : Calls Try.prog 130 #[.pointer (some ⟨sb, 0, none⟩), .int .i64 slot] w (Ret fun r w' => r = .bool (sealedF s n slot) ∧ Ext w w') := by
  have hyes := haveF_yes (s := s) (n := n) (slot := slot)
  unfold sealedF
  refine calls_of_vc lok Try.func130 ?_ rfl
  conv => whnf
  refine Calls.ret (shave_calls h slot) ?_
  rintro _ w1 ⟨rfl, x1⟩
  conv => whnf
  generalize haveF s n slot = H at *
  refine vcReg_go lok ?_
  conv => whnf
  refine bcase (fun k => ?_) (fun k => ?_)
  · have hz := check_zero (hyes k)
    conv => whnf
    refine Calls.ret (sword_calls (h.ext x1) slot hz.2 hz.1 35 (by decide) 35 rfl) ?_
    rintro _ w2 ⟨rfl, x2⟩
    conv => whnf
    refine ⟨?_, x1.trans x2⟩
    rw [k, Bool.true_and]
    congr 1
    exact decide_eq_decide.2 num_zero
  · conv => whnf
    exact ⟨by rw [k]; rfl, x1⟩

/-- whole -/
theorem swhole_calls (h : SlAt B w sb g gw c n s) (slot : Int) : Calls Try.prog 150 #[.pointer (some ⟨sb, 0, none⟩), .int .i64 slot] w
    (Ret fun r w' => r = .tuple #[.int .i64 (wholeSF s n slot).1, .int .i64 (wholeSF s n slot).2] ∧ Ext w w') := by
  refine calls_of_vc lok Try.func150 ?_ rfl
  conv => whnf
  refine Calls.ret (scheck_calls h slot) ?_
  rintro _ w1 ⟨rfl, hw1⟩
  conv => whnf
  subst hw1
  refine vcCond_split lok rfl (fun h1 => ?_) (fun h1 => ?_)
  · have h1 := ne_true h1
    have e : wholeSF s n slot = (0, checkF s slot) := by unfold wholeSF; rw [if_pos h1]
    rw [e]
    conv => whnf
    exact ⟨rfl, Ext.refl _⟩
  have h1 := ne_false h1
  rw [whole_head h1]
  conv => whnf
  refine Calls.ret (shead_calls h slot) ?_
  rintro _ w2 ⟨rfl, x2⟩
  conv => whnf
  generalize headR s n slot = H at *
  refine vcCond_split lok rfl (fun h3 => ?_) (fun h3 => ?_)
  · have h3 : H.2.2 = false := by simpa using h3
    rw [if_neg (by rw [h3]; simp)]
    conv => whnf
    exact ⟨rfl, x2⟩
  have h3 : H.2.2 = true := by simpa using h3
  rw [if_pos h3]
  conv => whnf
  refine Calls.ret (shave_calls (h.ext x2) slot) ?_
  rintro _ w3 ⟨rfl, x3⟩
  conv => whnf
  have x13 := x2.trans x3
  generalize haveF s n slot = V at *
  refine vcCond_split lok rfl (fun h4 => ?_) (fun h4 => ?_)
  · have h4 : V.2 = false := by simpa using h4
    rw [if_neg (by rw [h4]; simp)]
    conv => whnf
    exact ⟨rfl, x13⟩
  · have h4 : V.2 = true := by simpa using h4
    rw [if_pos h4]
    conv => whnf
    exact ⟨rfl, x13⟩

theorem one_zero (w : World) : ∃ w', (Instr.buildSlice 37 1 #[(0, .int .u32 0)]).run Try.prog w = .ok (.slice (some ⟨w.heap.size, 0, none⟩) 1 1) w' ∧ Own 42 u32v w.heap.size w' (some ⟨w.heap.size, 0, none⟩) 1 [0#32] ∧ Ext w w' := by
  have g := run_buildN (P := Try.prog) (t := 37) (e := 42) e32.toElem [u32v 0#32] (by simp [u32v, Value.oneCell']) (by simp) w
  exact ⟨_, g, own_lit (w := w) [0#32] (by simp), Ext.new _ _⟩
theorem progAll_one (s : FS) (a : Int) (h0 : 0 ≤ a) (h1 : a < s.ws.length) (x : BitVec 32) : progAllF s a [x] = progF s a x := by
  have hc := progF_code (s := s) (i := a) (x := x) h0 h1
  unfold progAllF
  rcases hc with e | e
  · rw [if_pos e]
    unfold progAllF
    rw [← e]
  · rw [if_neg (by rw [e]; decide), ← e]

/-- Seal -/
theorem sseal_calls (h : SlAt B w sb g gw c n s) (slot : Int) (hop : Num s s.ws.length i) (hi : i ≤ 2305843009213693952) : Calls Try.prog 129 #[.pointer (some ⟨sb, 0, none⟩), .int .i64 slot] w
    (Ret fun r w' => r = .int .i64 (sealSF s n slot).2 ∧ SlAt B w' sb g gw c n (sealSF s n slot).1 ∧ FlMod g gw w w') := by
  have hr := h.room
  have hw : (wholeSF s n slot).2 = 0 → checkF s slot = 0 := by
    intro q
    unfold wholeSF at q
    by_cases hc : checkF s slot = 0
    · exact hc
    · rw [if_pos hc] at q; exact q
  unfold sealSF
  refine calls_of_vc lok Try.func129 ?_ rfl
  conv => whnf
  refine Calls.ret (swhole_calls h slot) ?_
  rintro _ w1 ⟨rfl, x1⟩
  conv => whnf
  refine vcCond_split lok rfl (fun h1 => ?_) (fun h1 => ?_)
  · have h1 := ne_true h1
    rw [if_neg h1]
    conv => whnf
    exact ⟨rfl, h.ext x1, Mod.ofExt _ x1⟩
  have h1 := ne_false h1
  rw [if_pos h1]
  have hz := check_zero (hw h1)
  have hp := atF_le hz.2 hr
  conv => whnf
  have g2 := one_zero w1
  obtain ⟨w2, hr2, ho2, x2⟩ := g2
  refine ⟨_, _, hr2, ?_⟩
  have x12 := x1.trans x2
  have hlt := (h.ext x1).f.lt
  have g3 := slay_calls (xc := 1) (h.ext x12) slot hz.2 35 (xs := [0#32]) (fun w' m' => (m'.keepOwn ho2 (fun k hk e => by
      have := (ho2.ge k hk).1
      rcases e with e | e <;> omega)).sl) (by simp) hop hi
  rw [progAll_one _ _ (by omega) (by omega)] at g3
  conv => whnf
  refine Calls.ret (g3) ?_
  rintro _ w3 ⟨rfl, h3, m3⟩
  conv => whnf
  exact ⟨rfl, h3, (Mod.ofExt _ x12).trans m3⟩

set_option maxHeartbeats 1000000 in
/-- Bytes -/
theorem sbytes_calls (h : SlAt B w sb g gw c n s) (slot : Int) : Calls Try.prog 89 #[.pointer (some ⟨sb, 0, none⟩), .int .i64 slot] w
    (Ret fun r w' => ∃ a c, r = .tuple #[.slice a (bytesSF s n slot).1.length c, .int .i64 (bytesSF s n slot).2] ∧ Own 5 u8v w.heap.size w' a c (bytesSF s n slot).1 ∧ Ext w w') := by
  have hr := h.room
  have hw : (wholeSF s n slot).2 = 0 → checkF s slot = 0 := by
    intro q
    unfold wholeSF at q
    by_cases hc : checkF s slot = 0
    · exact hc
    · rw [if_pos hc] at q; exact q
  have hsz := headR_size s n slot
  have hm : (wholeSF s n slot).1 ≤ 2048 := by
    by_cases hc : checkF s slot = 0
    · rw [whole_head hc]
      split
      · split
        · exact hsz
        · exact Nat.zero_le _
      · exact Nat.zero_le _
    · unfold wholeSF; rw [if_pos hc]; exact Nat.zero_le _
  unfold bytesSF
  refine calls_of_vc lok Try.func89 ?_ rfl
  conv => whnf
  refine Calls.ret (swhole_calls h slot) ?_
  rintro _ w1 ⟨rfl, x1⟩
  conv => whnf
  refine vcCond_split lok rfl (fun h1 => ?_) (fun h1 => ?_)
  · have h1 := ne_true h1
    rw [if_neg h1]
    conv => whnf
    exact ⟨none, 0, rfl, Own.nil _ _ _ _, x1⟩
  have h1 := ne_false h1
  rw [if_pos h1]
  have hz := check_zero (hw h1)
  have hp := atF_le hz.2 hr
  clear hw hsz
  generalize (wholeSF s n slot).1 = m at *
  have gp : ∃ p, p = atF n slot + 256 := ⟨_, rfl⟩
  obtain ⟨p, hp0⟩ := gp
  rw [← hp0]
  conv => whnf
  refine vcLoop_inv lok (σ := Nat × Option Addr × Nat)
    (fun ⟨k, a, c⟩ => [(9, .int .i64 k), (8, .slice a (sliceF s.ws p k).length c), (6, .int .i64 m), (0, .pointer (some ⟨sb, 0, none⟩)), (1, .int .i64 slot)])
    (fun ⟨k, a, c⟩ w' => k ≤ (m + 3) / 4 ∧ Own 42 u32v w.heap.size w' a c (sliceF s.ws p k) ∧ Ext w w') (fun t => 2048 - t.1)
    (0, none, 0) ⟨rfl, rfl, rfl, rfl, rfl, trivial⟩ ⟨Nat.zero_le _, Own.nil _ _ _ _, x1⟩ ?_
  rintro ⟨k, a2, c2⟩ w2 ⟨hk, ho2, x2⟩
  have hkl : (sliceF s.ws p k).length = k := by unfold sliceF; rw [List.length_take, List.length_drop]; omega
  conv => whnf
  refine ⟨by omega, ?_⟩
  conv => whnf
  refine vcCond_split lok rfl (fun h3 => ?_) (fun h3 => ?_)
  · have h3 := dt h3
    conv => whnf
    refine ⟨by omega, ?_⟩
    conv => whnf
    refine Calls.ret (sword_calls (h.ext x2) slot hz.2 hz.1 (256 + k) (by omega) (256 + (k : Int)) (by omega)) ?_
    rintro _ w3 ⟨rfl, x3⟩
    conv => whnf
    rw [← Nat.add_assoc, ← hp0]
    have g4 := run_buildN (P := Try.prog) (t := 37) (e := 42) e32.toElem [u32v (s.ws.getD (p + k) 0#32)] (by simp [u32v, Value.oneCell']) (by simp) w3
    refine ⟨_, _, g4, ?_⟩
    have ho4 := own_lit (w := w3) [s.ws.getD (p + k) 0#32] (by simp)
    have x4 : Ext w3 (w3.alloc (.cells ([s.ws.getD (p + k) 0#32].map u32v).toArray 42)) := Ext.new _ _
    have z2 := x2.size
    have z3 := x3.size
    have z4 := x4.size
    conv => whnf
    have g7 := run_app (ty := 37) (d := 1) ((ho2.ext x3).ext x4) ho4.sl (by simp; omega) (by omega)
    obtain ⟨a7, c7, w7, hr7, ho7, hg7⟩ := g7
    refine ⟨_, _, hr7, ?_⟩
    have x7 : Ext w w7 := hg7.extOf (x2.trans (x3.trans x4)) (fun g hg => (ho2.ge g hg).1)
    have es : sliceF s.ws p k ++ [s.ws.getD (p + k) 0#32] = sliceF s.ws p (k + 1) := by
      unfold sliceF
      have hi : k < (s.ws.drop p).length := by rw [List.length_drop]; omega
      rw [List.take_succ_eq_append_getElem hi, List.getElem_drop]
      simp [List.getD, List.getElem?_eq_getElem (show p + k < s.ws.length by omega)]
    rw [es] at ho7 ⊢
    conv => whnf
    refine ⟨by omega, ?_⟩
    conv => whnf
    exact ⟨(k + 1, a7, c7), ⟨rfl, rfl, rfl, rfl, rfl, trivial⟩, ⟨by omega, ho7, x7⟩, by show 2048 - (k + 1) < 2048 - k; omega⟩
  · have h3 := df h3
    conv => whnf
    have hkm : k = (m + 3) / 4 := by omega
    rw [← hkm]
    refine Calls.ret (bytes_calls ho2.sl (by omega)) ?_
    rintro _ w3 ⟨a3, c3, rfl, ho3, x3⟩
    conv => whnf
    have hbl := bytesF_len (sliceF s.ws p k)
    have hc3 := ho3.le
    refine ⟨⟨by omega, by omega⟩, ?_⟩
    rw [Int.toNat_natCast]
    have hst := ho3.sl.take m
    have htl : ((bytesF (sliceF s.ws p k)).take m).length = m := by rw [List.length_take]; omega
    have z2 := x2.size
    have z3 := x3.size
    generalize (bytesF (sliceF s.ws p k)).take m = bs at *
    rw [show m = bs.length from htl.symm]
    conv => whnf
    have g5 := (Own.nil 5 u8v w.heap.size w3).append (ty := 22) (d := c3) e8.toElem (fun _ => rfl) hst (by simp; omega) (by omega)
    obtain ⟨a5, c5, w5, hr5, ho5, hg5, _⟩ := g5
    rw [List.nil_append] at hr5 ho5
    refine ⟨_, _, hr5, ?_⟩
    exact ⟨a5, c5, rfl, ho5, x2.trans (x3.trans (Gr.ext hg5))⟩
end
end Go.Proofs.Ytgipackjnncabaa
