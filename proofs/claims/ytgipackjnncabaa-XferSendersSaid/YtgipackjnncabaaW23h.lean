/- Walks of layer 23, eighth part: what comes to a sender. -/
import Derived.Test.YtgipackjnncabaaW23g
set_option linter.unusedVariables false
namespace Go.Proofs.Ytgipackjnncabaa
open Go.Vc Go.RowKit

/-- what a sender is behind some bytes, and what it sends -/
def takeF (s : SS) (p : Pk) : SS := if p.state = 2 then { s with wanted := false, hav := 0#32, done := true } else if p.state = 1 then { s with wanted := true, hav := p.hav } else { s with wanted := false, hav := 0#32 }
def recvF (s : SS) (b : List (BitVec 8)) : SS × List (BitVec 8) :=
  if s.done = true ∨ (unpackF b).2 ≠ 0 ∨ (unpackF b).1.kind ≠ 3 ∨ (unpackF b).1.ver ≠ s.ver then (s, [])
  else if (unpackF b).1.state = 1 then (sendF (takeF s (unpackF b).1), outF (takeF s (unpackF b).1)) else (takeF s (unpackF b).1, [])

theorem unpack_can {b : List (BitVec 8)} (h : (unpackF b).2 = 0) : canP (unpackF b).1 = true := by
  have hp := pack_unpack h
  unfold packF at hp
  by_cases hc : canP (unpackF b).1 = true
  · exact hc
  · rw [if_neg hc] at hp
    have : (1 : Int) = 0 := congrArg Prod.snd hp
    omega

theorem ver_ne {x y : BitVec 32} : (x.toNat : Int) = (y.toNat : Int) ↔ x = y := int_eq

set_option maxHeartbeats 2000000 in
/-- Receive -/
theorem recv_calls {B : Nat} {w : World} {b c d : Nat} {a e : Option Addr} {s : SS} {bs : List (BitVec 8)} (h : SnAt 190 B w b a c s) (hl : s.data.length ≤ 2048) (hv : s.ver ≠ 0#32) (hs : Sl u8v w e bs) (hbl : bs.length ≤ 16777216) (hbd : bs.length ≤ d) :
    Calls Try.prog 88 #[.pointer (some ⟨b, 0, none⟩), .slice e bs.length d] w (Ret fun v w' => ∃ a' c', v = .slice a' (recvF s bs).2.length c' ∧ Own 5 u8v w.heap.size w' a' c' (recvF s bs).2 ∧ SnAt 190 B w' b a c (recvF s bs).1 ∧ Gr w w' (some b)) := by
  refine calls_of_vc lok Try.func88 ?_ rfl
  conv => whnf
  refine vcReg_meet lok (fun β : Bool => [(21, .bool β)]) (fun β w' => w' = w ∧ β = s.done) [21] (fun _ => rfl) rfl ?_ ?_
  · conv => whnf
    refine ⟨_, h.blk.cell (i := 4) rfl, ?_⟩
    conv => whnf
    refine bcase (fun h1 => ?_) (fun h1 => ?_)
    · conv => whnf
      exact ⟨_, ⟨rfl, trivial⟩, rfl, h1.symm⟩
    · conv => whnf
      refine ⟨_, h.blk.cell0 rfl, ?_⟩
      conv => whnf
      refine ⟨_, ⟨rfl, trivial⟩, rfl, ?_⟩
      rw [h1, decide_eq_false]
      intro q
      exact hv ((ver_ne (x := s.ver) (y := 0#32)).1 q)
  rintro β w1 ⟨hw1, hβ⟩
  subst hw1
  conv => whnf
  refine vcCond_split lok rfl (fun h1 => ?_) (fun h1 => ?_)
  · rw [h1] at hβ
    have er : recvF s bs = (s, []) := if_pos (.inl hβ.symm)
    rw [er]
    conv => whnf
    exact ⟨none, 0, rfl, Own.nil _ _ _ _, h, Gr.refl _ _⟩
  rw [h1] at hβ
  conv => whnf
  refine Calls.ret (unpack_calls hs hbl hbd) ?_
  rintro _ w2 ⟨a2, c2, rfl, ho2, x2⟩
  conv => whnf
  have er : recvF s bs = if s.done = true ∨ (unpackF bs).2 ≠ 0 ∨ (unpackF bs).1.kind ≠ 3 ∨ (unpackF bs).1.ver ≠ s.ver then (s, [])
    else if (unpackF bs).1.state = 1 then (sendF (takeF s (unpackF bs).1), outF (takeF s (unpackF bs).1)) else (takeF s (unpackF bs).1, []) := rfl
  have hcan := unpack_can (b := bs)
  generalize unpackF bs = up at *
  obtain ⟨p, pe⟩ := up
  simp only at er hcan
  have h2 := h.ext x2
  have qb := h.blk.lt
  have z2 := x2.size
  have qa : ∀ g, blockOf a = some g → g < w1.heap.size := fun g hg => (h.own.ge g hg).2
  conv => whnf
  intro w3 hw3
  have hb3 : Blk w3 w2.heap.size 112 (Pk.zero.cells none 0) := by rw [hw3]; exact Blk.new w2 112 _
  have x3 : Ext w2 w3 := by rw [hw3]; exact Ext.new _ _
  clear hw3
  conv => whnf
  have k4 := Blk.storeAgg lok hb3 (t := 112) (us := p.cells a2 c2) rfl 0 (Nat.le_refl 7) (Pk.one _ _ _)
  obtain ⟨w4, hr4, hb4, g4⟩ := k4
  have hb4 : Blk w4 w2.heap.size 112 (p.cells a2 c2) := hb4
  have x4 : Ext w2 w4 := g4.extOf x3 (fun g hg => by cases hg; exact Nat.le_refl _)
  refine ⟨w4, hr4, ?_⟩
  have h4 := h2.ext x4
  have x04 := x2.trans x4
  clear hr4 g4 hb3 x3
  generalize hbp : w2.heap.size = bp at *
  conv => whnf
  refine vcDraw_meet lok mixed (fun w' => w' = w4.drew) [] [0, 1, 2, 3, 4, 5, 6, 7, 8, 9, 10, 11, 12, 13, 14, 15]
    (fun β : Bool => [(42, .bool β)]) (fun β w' => Ext w4 w' ∧ β = decide (pe ≠ 0 ∨ p.kind ≠ 3 ∨ p.ver ≠ s.ver)) [42] (fun _ => rfl) rfl (by kernel_rfl) (fun w5 hw5 => ⟨hw5, ?_⟩) ?_
  · have x5 : Ext w4 w5 := hw5 ▸ Ext.drew w4
    have hb5 := hb4.ext x5
    have h5 := h4.ext x5
    conv => whnf
    refine bcase (fun k1 => ?_) (fun k1 => ?_)
    · have k1 := ne_true k1
      conv => whnf
      exact ⟨_, ⟨rfl, trivial⟩, x5, by rw [eq_comm, decide_eq_true_iff]; exact .inl k1⟩
    · have k1 := ne_false k1
      conv => whnf
      refine ⟨_, fun w' hw' => by rw [hw', ← hw5]; exact hb5.cell0 rfl, ?_⟩
      conv => whnf
      refine bcase (fun k2 => ?_) (fun k2 => ?_)
      · have k2 := ne_true k2
        conv => whnf
        exact ⟨_, ⟨rfl, trivial⟩, x5, by rw [eq_comm, decide_eq_true_iff]; exact .inr (.inl k2)⟩
      · have k2 := ne_false k2
        conv => whnf
        refine ⟨_, fun w' hw' => by rw [hw', ← hw5]; exact hb5.cell (i := 1) rfl, ?_⟩
        conv => whnf
        refine ⟨_, fun w' hw' => by rw [hw', ← hw5]; exact h5.blk.cell0 rfl, ?_⟩
        conv => whnf
        refine ⟨_, ⟨rfl, trivial⟩, x5, ?_⟩
        by_cases k3 : p.ver = s.ver
        · rw [decide_eq_true (ver_ne.2 k3), decide_eq_false]
          · rfl
          · rintro (q | q | q)
            · exact q k1
            · exact q k2
            · exact q k3
        · rw [decide_eq_false (fun q => k3 (ver_ne.1 q)), decide_eq_true (.inr (.inr k3))]
          rfl
  rintro β w5 ⟨x5, hβ5⟩
  have h5 := h4.ext x5
  have hb5 := hb4.ext x5
  have x05 := x04.trans x5
  conv => whnf
  refine vcCond_split lok rfl (fun k5 => ?_) (fun k5 => ?_)
  · rw [k5] at hβ5
    rw [if_pos (.inr (dt hβ5.symm))] at er
    rw [er]
    conv => whnf
    exact ⟨none, 0, rfl, Own.nil _ _ _ _, h5, Gr.ofExt x05 _⟩
  rw [k5] at hβ5
  have hno := df hβ5.symm
  rw [if_neg (fun q => by rcases q with q | q; rw [← hβ] at q; cases q; exact hno q)] at er
  rw [er]
  conv => whnf
  refine ⟨h5.blk.can 3 (by simp [SS.cells]) _ rfl, fun w6 hw6 => ?_⟩
  have k6 := h5.setField 3 (.bool false) { s with wanted := false } rfl rfl hw6
  obtain ⟨h6, g6⟩ := k6
  clear hw6
  have hb6 := hb5.keep (g6.block _ hb5.lt (fun q => by have q' := Option.some.inj q; omega))
  conv => whnf
  refine ⟨h6.blk.can 2 (by simp [SS.cells]) _ rfl, fun w7 hw7 => ?_⟩
  have k7 := h6.setField 2 (u32v 0#32) { s with wanted := false, hav := 0#32 } rfl rfl hw7
  obtain ⟨h7, g7⟩ := k7
  clear hw7
  have hb7 := hb6.keep (g7.block _ hb6.lt (fun q => by have q' := Option.some.inj q; omega))
  have g07 : Gr w1 w7 (some b) := ((Gr.ofExt x05 _).step g6 (.inl rfl)).step g7 (.inl rfl)
  have z7 := g07.size
  conv => whnf
  refine ⟨_, hb7.cell (i := 4) rfl, ?_⟩
  conv => whnf
  refine vcCond_split lok rfl (fun k8 => ?_) (fun k8 => ?_)
  · have k8 : p.state = 2 := dt k8
    rw [if_neg (by omega)]
    have et : takeF s p = { s with wanted := false, hav := 0#32, done := true } := if_pos k8
    rw [et]
    conv => whnf
    refine ⟨h7.blk.can 4 (by simp [SS.cells]) _ rfl, fun w8 hw8 => ?_⟩
    have k8 := h7.setField 4 (.bool true) { s with wanted := false, hav := 0#32, done := true } rfl rfl hw8
    exact ⟨none, 0, rfl, Own.nil _ _ _ _, k8.1, g07.step k8.2 (.inl rfl)⟩
  · have k8 : ¬ p.state = 2 := df k8
    conv => whnf
    refine vcCond_split lok rfl (fun k9 => ?_) (fun k9 => ?_)
    · have k9 : p.state = 1 := dt k9
      rw [if_pos k9]
      have et : takeF s p = { s with wanted := true, hav := p.hav } := by unfold takeF; rw [if_neg k8, if_pos k9]
      rw [et]
      conv => whnf
      refine vcDraw_meet lok mixed (fun w' => Blk w' bp 112 (p.cells a2 c2)) [6] [0, 1, 2, 3, 4, 5, 6, 7, 8, 9]
        (fun _ : Unit => []) (fun _ w' => SnAt 190 B w' b a c { s with wanted := true, hav := p.hav } ∧ Gr w1 w' (some b)) [] (fun _ => rfl) rfl (by kernel_rfl) (fun w8 hw8 => ⟨hb7.ext (hw8 ▸ Ext.drew w7), ?_⟩) ?_
      · have x8 : Ext w7 w8 := hw8 ▸ Ext.drew w7
        have h8 := h7.ext x8
        have hb8 := hb7.ext x8
        conv => whnf
        refine ⟨_, fun w' hw' => hw'.cell (i := 5) rfl, ?_⟩
        conv => whnf
        refine ⟨h8.blk.can 3 (by simp [SS.cells]) _ rfl, fun w9 hw9 => ?_⟩
        have k9' := h8.setField 3 (.bool true) { s with wanted := true, hav := 0#32 } rfl rfl hw9
        obtain ⟨h9, g9⟩ := k9'
        clear hw9
        refine ⟨_, fun _ h => h, hb8.keep (g9.block _ hb8.lt (fun q => by have q' := Option.some.inj q; omega)), ?_⟩
        conv => whnf
        refine ⟨h9.blk.can 2 (by simp [SS.cells]) _ rfl, fun w10 hw10 => ?_⟩
        have k10 := h9.setField 2 (u32v p.hav) { s with wanted := true, hav := p.hav } rfl rfl hw10
        exact ⟨(), trivial, k10.1, ((g07.step (Gr.ofExt x8 _) (.inl rfl)).step g9 (.inl rfl)).step k10.2 (.inl rfl)⟩
      rintro _ w8 ⟨h8, g8⟩
      conv => whnf
      refine Calls.ret (send_calls h8 hl) ?_
      rintro _ w9 ⟨a9, c9, rfl, ho9, h9, g9⟩
      conv => whnf
      exact ⟨a9, c9, rfl, ho9.base g8.size, h9, g8.step g9 (.inl rfl)⟩
    · have k9 : ¬ p.state = 1 := df k9
      rw [if_neg k9]
      have et : takeF s p = { s with wanted := false, hav := 0#32 } := by unfold takeF; rw [if_neg k8, if_neg k9]
      rw [et]
      exact ⟨none, 0, rfl, Own.nil _ _ _ _, h7, g07⟩

set_option maxHeartbeats 2000000 in
/-- its reference -/
theorem rrecv_calls {B : Nat} {w : World} {b c d : Nat} {a e : Option Addr} {s : SS} {bs : List (BitVec 8)} (h : SnAt 136 B w b a c s) (hl : s.data.length ≤ 2048) (hs : Sl u8v w e bs) (hbl : bs.length ≤ 16777216) (hbd : bs.length ≤ d) :
    Calls Try.prog 117 #[.pointer (some ⟨b, 0, none⟩), .slice e bs.length d] w (Ret fun v w' => ∃ a' c', v = .slice a' (recvF s bs).2.length c' ∧ Own 5 u8v w.heap.size w' a' c' (recvF s bs).2 ∧ SnAt 136 B w' b a c (recvF s bs).1 ∧ Gr w w' (some b)) := by
  refine calls_of_vc lok Try.func117 ?_ rfl
  conv => whnf
  refine Calls.ret (runpack_calls hs hbl hbd) ?_
  rintro _ w2 ⟨a2, c2, rfl, ho2, x2⟩
  conv => whnf
  have er : recvF s bs = if s.done = true ∨ (unpackF bs).2 ≠ 0 ∨ (unpackF bs).1.kind ≠ 3 ∨ (unpackF bs).1.ver ≠ s.ver then (s, [])
    else if (unpackF bs).1.state = 1 then (sendF (takeF s (unpackF bs).1), outF (takeF s (unpackF bs).1)) else (takeF s (unpackF bs).1, []) := rfl
  have hcan := unpack_can (b := bs)
  generalize unpackF bs = up at *
  obtain ⟨p, pe⟩ := up
  simp only at er hcan
  have h2 := h.ext x2
  have qb := h.blk.lt
  have z2 := x2.size
  have qa : ∀ g, blockOf a = some g → g < w.heap.size := fun g hg => (h.own.ge g hg).2
  conv => whnf
  intro w3 hw3
  have hb3 : Blk w3 w2.heap.size 70 (Pk.zero.cells none 0) := by rw [hw3]; exact Blk.new w2 70 _
  have x3 : Ext w2 w3 := by rw [hw3]; exact Ext.new _ _
  clear hw3
  conv => whnf
  have k4 := Blk.storeAgg lok hb3 (t := 70) (us := p.cells a2 c2) rfl 0 (Nat.le_refl 7) (Pk.one _ _ _)
  obtain ⟨w4, hr4, hb4, g4⟩ := k4
  have hb4 : Blk w4 w2.heap.size 70 (p.cells a2 c2) := hb4
  have x4 : Ext w2 w4 := g4.extOf x3 (fun g hg => by cases hg; exact Nat.le_refl _)
  refine ⟨w4, hr4, ?_⟩
  have h4 := h2.ext x4
  have x04 := x2.trans x4
  clear hr4 g4 hb3 x3
  generalize hbp : w2.heap.size = bp at *
  conv => whnf
  refine vcDraw_meet lok mixed (fun w' => w' = w4.drew) [] [0, 1, 2, 3, 4, 5, 6, 7, 8, 9, 10, 11, 12, 13, 14, 15, 16, 17, 18, 19, 20, 21]
    (fun β : Bool => [(33, .bool β)]) (fun β w' => Ext w4 w' ∧ β = decide (s.done = true ∨ pe ≠ 0 ∨ p.kind ≠ 3 ∨ p.ver ≠ s.ver)) [33] (fun _ => rfl) rfl (by kernel_rfl) (fun w5 hw5 => ⟨hw5, ?_⟩) ?_
  · have x5 : Ext w4 w5 := hw5 ▸ Ext.drew w4
    have hb5 := hb4.ext x5
    have h5 := h4.ext x5
    conv => whnf
    refine ⟨_, fun w' hw' => by rw [hw', ← hw5]; exact h5.blk.cell (i := 4) rfl, ?_⟩
    conv => whnf
    refine bcase (fun k0 => ?_) (fun k0 => ?_)
    · conv => whnf
      exact ⟨_, ⟨rfl, trivial⟩, x5, by rw [eq_comm, decide_eq_true_iff]; exact .inl k0⟩
    conv => whnf
    refine bcase (fun k1 => ?_) (fun k1 => ?_)
    · have k1 := ne_true k1
      conv => whnf
      exact ⟨_, ⟨rfl, trivial⟩, x5, by rw [eq_comm, decide_eq_true_iff]; exact .inr (.inl k1)⟩
    · have k1 := ne_false k1
      conv => whnf
      refine ⟨_, fun w' hw' => by rw [hw', ← hw5]; exact hb5.cell0 rfl, ?_⟩
      conv => whnf
      refine bcase (fun k2 => ?_) (fun k2 => ?_)
      · have k2 := ne_true k2
        conv => whnf
        exact ⟨_, ⟨rfl, trivial⟩, x5, by rw [eq_comm, decide_eq_true_iff]; exact .inr (.inr (.inl k2))⟩
      · have k2 := ne_false k2
        conv => whnf
        refine ⟨_, fun w' hw' => by rw [hw', ← hw5]; exact hb5.cell (i := 1) rfl, ?_⟩
        conv => whnf
        refine ⟨_, fun w' hw' => by rw [hw', ← hw5]; exact h5.blk.cell0 rfl, ?_⟩
        conv => whnf
        refine ⟨_, ⟨rfl, trivial⟩, x5, ?_⟩
        by_cases k3 : p.ver = s.ver
        · rw [decide_eq_true (ver_ne.2 k3), decide_eq_false]
          · rfl
          · rintro (q | q | q | q)
            · rw [k0] at q; cases q
            · exact q k1
            · exact q k2
            · exact q k3
        · rw [decide_eq_false (fun q => k3 (ver_ne.1 q)), decide_eq_true (.inr (.inr (.inr k3)))]
          rfl
  rintro β w5 ⟨x5, hβ5⟩
  have h5 := h4.ext x5
  have hb5 := hb4.ext x5
  have x05 := x04.trans x5
  conv => whnf
  refine vcCond_split lok rfl (fun k5 => ?_) (fun k5 => ?_)
  · rw [k5] at hβ5
    rw [if_pos (dt hβ5.symm)] at er
    rw [er]
    conv => whnf
    exact ⟨none, 0, rfl, Own.nil _ _ _ _, h5, Gr.ofExt x05 _⟩
  rw [k5] at hβ5
  have hno := df hβ5.symm
  rw [if_neg hno] at er
  rw [er]
  have hpe : pe = 0 := by
    by_cases q : pe = 0
    · exact q
    · exact absurd (.inr (.inl q)) hno
  have hk3 : p.kind = 3 := by
    by_cases q : p.kind = 3
    · exact q
    · exact absurd (.inr (.inr (.inl q))) hno
  have hst : 0 ≤ p.state ∧ p.state ≤ 2 := by
    have hc := of_decide_eq_true (hcan hpe)
    omega
  conv => whnf
  refine ⟨_, hb5.cell (i := 4) rfl, ?_⟩
  conv => whnf
  refine ⟨h5.blk.can 3 (by simp [SS.cells]) _ rfl, fun w6 hw6 => ?_⟩
  have k6 := h5.setField 3 (.bool (decide (p.state = 1))) { s with wanted := decide (p.state = 1) } rfl rfl hw6
  obtain ⟨h6, g6⟩ := k6
  clear hw6
  have hb6 := hb5.keep (g6.block _ hb5.lt (fun q => by have q' := Option.some.inj q; omega))
  conv => whnf
  refine ⟨h6.blk.can 2 (by simp [SS.cells]) _ rfl, fun w7 hw7 => ?_⟩
  have k7 := h6.setField 2 (u32v 0#32) { s with wanted := decide (p.state = 1), hav := 0#32 } rfl rfl hw7
  obtain ⟨h7, g7⟩ := k7
  clear hw7
  have hb7 := hb6.keep (g7.block _ hb6.lt (fun q => by have q' := Option.some.inj q; omega))
  have g07 : Gr w w7 (some b) := ((Gr.ofExt x05 _).step g6 (.inl rfl)).step g7 (.inl rfl)
  conv => whnf
  refine ⟨_, hb7.cell (i := 4) rfl, ?_⟩
  conv => whnf
  refine vcCond_split lok rfl (fun k8 => ?_) (fun k8 => ?_)
  · have k8 : p.state = 2 := dt k8
    rw [if_neg (by omega)]
    have et : takeF s p = { s with wanted := false, hav := 0#32, done := true } := if_pos k8
    rw [et]
    rw [decide_eq_false (show ¬ p.state = 1 by omega)] at h7
    conv => whnf
    refine ⟨h7.blk.can 4 (by simp [SS.cells]) _ rfl, fun w8 hw8 => ?_⟩
    have k8 := h7.setField 4 (.bool true) { s with wanted := false, hav := 0#32, done := true } rfl rfl hw8
    exact ⟨none, 0, rfl, Own.nil _ _ _ _, k8.1, g07.step k8.2 (.inl rfl)⟩
  · have k8 : ¬ p.state = 2 := df k8
    conv => whnf
    refine ⟨_, hb7.cell (i := 4) rfl, ?_⟩
    conv => whnf
    refine vcCond_split lok rfl (fun k9 => ?_) (fun k9 => ?_)
    · have k9 : p.state = 0 := dt k9
      rw [if_neg (by omega)]
      have et : takeF s p = { s with wanted := false, hav := 0#32 } := by unfold takeF; rw [if_neg k8, if_neg (by omega)]
      rw [et]
      rw [decide_eq_false (show ¬ p.state = 1 by omega)] at h7
      conv => whnf
      exact ⟨none, 0, rfl, Own.nil _ _ _ _, h7, g07⟩
    · have k9 : ¬ p.state = 0 := df k9
      have k1 : p.state = 1 := by omega
      rw [if_pos k1]
      have et : takeF s p = { s with wanted := true, hav := p.hav } := by unfold takeF; rw [if_neg k8, if_pos k1]
      rw [et]
      rw [decide_eq_true k1] at h7
      conv => whnf
      refine ⟨_, hb7.cell (i := 5) rfl, ?_⟩
      conv => whnf
      refine ⟨h7.blk.can 2 (by simp [SS.cells]) _ rfl, fun w8 hw8 => ?_⟩
      have k8' := h7.setField 2 (u32v p.hav) { s with wanted := true, hav := p.hav } rfl rfl hw8
      obtain ⟨h8, g8⟩ := k8'
      clear hw8
      have g08 := g07.step g8 (.inl rfl)
      conv => whnf
      refine Calls.ret (rsend_calls h8 hl) ?_
      rintro _ w9 ⟨a9, c9, rfl, ho9, h9, g9⟩
      conv => whnf
      exact ⟨a9, c9, rfl, ho9.base g08.size, h9, g08.step g9 (.inl rfl)⟩

theorem built136 (v : Int) : Try.prog.built 136 [(0, .int .u32 v)] = some #[.int .u32 v, .slice none 0 0, .int .u32 0, .bool false, .bool false, .int .i64 0] := by kernel_rfl

/-- the reference's NewSender -/
theorem rnewSender_calls {w : World} {a : Option Addr} {c : Nat} (ver : BitVec 32) {bs : List (BitVec 8)} (h : Sl u8v w a bs) (hl : bs.length ≤ 16777216) :
    Calls Try.prog 115 #[.int .u32 ver.toNat, .slice a bs.length c] w (Ret fun v w' => ∃ b a' c', v = .tuple #[.pointer (some ⟨b, 0, none⟩), .int .i64 (if ver = 0#32 ∨ bs.length = 0 ∨ 2048 < bs.length then 1 else 0)] ∧ SnAt 136 w.heap.size w' b a' c' ⟨ver, bs, 0#32, false, false, 0⟩ ∧ Ext w w') := by
  have h0 : ((ver.toNat : Int) = 0) ↔ ver = 0#32 := int_eq (x := ver) (y := 0#32)
  refine calls_of_vc lok Try.func115 ?_ rfl
  conv => whnf
  refine ⟨_, fun w => run_build w 136 _ _ (built136 _), ?_⟩
  conv => whnf
  intro w1 hw1
  have hb1 : Blk w1 w.heap.size 136 ((⟨ver, [], 0#32, false, false, 0⟩ : SS).cells none 0) := by rw [hw1]; exact Blk.new w 136 _
  have x1 : Ext w w1 := by rw [hw1]; exact Ext.new _ _
  clear hw1
  have q1 := hb1.lt
  conv => whnf
  refine ⟨_, hb1.cell (i := 1) rfl, ?_⟩
  conv => whnf
  have g3 := (Own.nil 5 u8v (w.heap.size + 1) w1).append (ty := 22) (d := c) e8.toElem (fun _ => rfl) (h.ext x1) (by simp; omega) q1
  rw [List.nil_append] at g3
  obtain ⟨a3, c3, w3, hr3, ho3, hg3, _⟩ := g3
  refine ⟨_, _, hr3, ?_⟩
  have x3 : Ext w1 w3 := hg3.extOf (Ext.refl _) (fun g hg => by cases hg)
  have hb3 := hb1.ext x3
  conv => whnf
  refine ⟨hb3.can 1 (by simp [SS.cells]) _ rfl, fun w4 hw4 => ?_⟩
  have hb4 : Blk w4 w.heap.size 136 ((⟨ver, bs, 0#32, false, false, 0⟩ : SS).cells a3 c3) := by rw [hw4]; exact hb3.set 1 _
  have g4 := gr_of_set hw4
  clear hw4
  have hsn : SnAt 136 w.heap.size w4 w.heap.size a3 c3 ⟨ver, bs, 0#32, false, false, 0⟩ := ⟨hb4, (g4.keepOwn ho3 (fun g hg q => by have q' := Option.some.inj q; have := (ho3.ge g hg).1; omega)).base (Nat.le_succ _), Nat.le_refl _, fun q => by have := (ho3.ge _ q).1; omega⟩
  have x4 : Ext w w4 := g4.extOf (x1.trans x3) (fun g hg => by cases hg; exact Nat.le_refl _)
  conv => whnf
  refine vcReg_meet lok (fun β : Bool => [(30, .bool β)]) (fun β w' => w' = w4 ∧ β = decide (ver = 0#32 ∨ bs.length = 0 ∨ 2048 < bs.length)) [30] (fun _ => rfl) rfl ?_ ?_
  · conv => whnf
    refine bcase (fun h1 => ?_) (fun h1 => ?_)
    · have h1 := h0.1 (dt h1)
      conv => whnf
      exact ⟨_, ⟨rfl, trivial⟩, rfl, by rw [eq_comm, decide_eq_true_iff]; exact .inl h1⟩
    · have h1 : ¬ ver = 0#32 := fun e => df h1 (h0.2 e)
      conv => whnf
      refine bcase (fun h2 => ?_) (fun h2 => ?_)
      · have h2 := dt h2
        conv => whnf
        exact ⟨_, ⟨rfl, trivial⟩, rfl, by rw [eq_comm, decide_eq_true_iff]; exact .inr (.inl (by omega))⟩
      · have h2 := df h2
        conv => whnf
        refine ⟨_, ⟨rfl, trivial⟩, rfl, ?_⟩
        rw [decide_eq_decide]
        constructor
        · intro h3; exact .inr (.inr (by omega))
        · rintro (h3 | h3 | h3)
          · exact absurd h3 h1
          · omega
          · omega
  rintro β w5 ⟨hw5, hβ⟩
  subst hw5
  conv => whnf
  refine vcCond_split lok rfl (fun h1 => ?_) (fun h1 => ?_)
  · rw [h1] at hβ
    rw [if_pos (dt hβ.symm)]
    conv => whnf
    exact ⟨_, _, _, rfl, hsn, x4⟩
  · rw [h1] at hβ
    rw [if_neg (df hβ.symm)]
    conv => whnf
    exact ⟨_, _, _, rfl, hsn, x4⟩
end Go.Proofs.Ytgipackjnncabaa
