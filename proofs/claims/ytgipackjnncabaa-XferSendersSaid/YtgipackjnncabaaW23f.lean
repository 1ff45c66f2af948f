/- Walks of layer 23, sixth part: what a sender sends; the fixed calls. -/
import Derived.Test.YtgipackjnncabaaW23e
set_option linter.unusedVariables false
namespace Go.Proofs.Ytgipackjnncabaa
open Go.Vc Go.RowKit

/-- send -/
theorem send_calls {B : Nat} {w : World} {b c : Nat} {a : Option Addr} {s : SS} (h : SnAt 190 B w b a c s) (hl : s.data.length ≤ 2048) :
    Calls Try.prog 149 #[.pointer (some ⟨b, 0, none⟩)] w (Ret fun v w' => ∃ a' c', v = .slice a' (outF s).length c' ∧ Own 5 u8v w.heap.size w' a' c' (outF s) ∧ SnAt 190 B w' b a c (sendF s) ∧ Gr w w' (some b)) := by
  refine calls_of_vc lok Try.func149 ?_ rfl
  conv => whnf
  refine ⟨h.blk.can 5 (by simp [SS.cells]) _ rfl, fun w1 hw1 => ?_⟩
  have k1 := h.setField 5 (.int .i64 4) (sendF s) rfl rfl hw1
  obtain ⟨h1, g1⟩ := k1
  clear hw1
  have z1 := g1.size
  conv => whnf
  have gn := next_calls h1 hl
  have en : nextF (sendF s) = nextF s := rfl
  rw [en] at gn
  refine Calls.ret (gn) ?_
  rintro _ w2 ⟨a2, c2, rfl, hs2, x2⟩
  conv => whnf
  have h2 := h1.ext x2
  have g2 : Gr w w2 (some b) := g1.step (Gr.ofExt x2 none) (.inr (fun g hg => by cases hg))
  have eo : outF s = if (nextF s).2 = true then (packF (nextF s).1).1 else [] := rfl
  generalize nextF s = np at *
  obtain ⟨p, ok⟩ := np
  have hs2 : Sl u8v w2 a2 p.data := hs2
  conv => whnf
  intro w3 hw3
  have hb3 : Blk w3 w2.heap.size 112 (Pk.zero.cells none 0) := by rw [hw3]; exact Blk.new w2 112 _
  have x3 : Ext w2 w3 := by rw [hw3]; exact Ext.new _ _
  clear hw3
  conv => whnf
  have k4 := Blk.storeAgg lok hb3 (t := 112) (us := p.cells a2 c2) rfl 0 (Nat.le_refl 7) (Pk.one _ _ _)
  obtain ⟨w4, hr4, hb4, g4⟩ := k4
  have hb4 : Blk w4 w2.heap.size 112 (p.cells a2 c2) := hb4
  have x4 : Ext w2 w4 := g4.extOf x3 (fun g hg => by cases hg; exact Nat.le_refl _)
  refine ⟨w4, hr4, ?_⟩
  have g04 : Gr w w4 (some b) := g2.step (Gr.ofExt x4 none) (.inr (fun g hg => by cases hg))
  have h4 := h2.ext x4
  conv => whnf
  cases ok with
  | false =>
    rw [if_neg Bool.false_ne_true] at eo
    rw [eo]
    refine vcCond_true lok (rfl) ?_
    conv => whnf
    exact ⟨none, 0, rfl, Own.nil _ _ _ _, h4, g04⟩
  | true =>
    rw [if_pos rfl] at eo
    rw [eo]
    refine vcCond_false lok (rfl) ?_
    conv => whnf
    refine ⟨p.cells a2 c2, rfl, hb4.cells, ?_⟩
    conv => whnf
    refine Calls.ret (pack_calls p (hs2.ext x4)) ?_
    rintro _ w5 ⟨a5, c5, rfl, ho5, x5⟩
    conv => whnf
    exact ⟨a5, c5, rfl, ho5.base g04.size, h4.ext x5, g04.step (Gr.ofExt x5 none) (.inr (fun g hg => by cases hg))⟩

/-- Tick -/
theorem tick_calls {B : Nat} {w : World} {b c : Nat} {a : Option Addr} {s : SS} (h : SnAt 190 B w b a c s) (hl : s.data.length ≤ 2048) (hw : s.wait ≤ 9223372036854775807) :
    Calls Try.prog 87 #[.pointer (some ⟨b, 0, none⟩)] w (Ret fun v w' => ∃ a' c', v = .slice a' (tickF s).2.length c' ∧ Own 5 u8v w.heap.size w' a' c' (tickF s).2 ∧ SnAt 190 B w' b a c (tickF s).1 ∧ Gr w w' (some b)) := by
  have h0 : ((s.ver.toNat : Int) = 0) ↔ s.ver = 0#32 := int_eq (x := s.ver) (y := 0#32)
  refine calls_of_vc lok Try.func87 ?_ rfl
  conv => whnf
  refine vcReg_meet lok (fun β : Bool => [(3, .bool β)]) (fun β w' => w' = w ∧ β = decide (s.done = true ∨ s.ver = 0#32)) [3] (fun _ => rfl) rfl ?_ ?_
  · conv => whnf
    refine ⟨_, h.blk.cell (i := 4) rfl, ?_⟩
    conv => whnf
    refine bcase (fun h1 => ?_) (fun h1 => ?_)
    · conv => whnf
      exact ⟨_, ⟨rfl, trivial⟩, rfl, by rw [eq_comm, decide_eq_true_iff]; exact .inl h1⟩
    · conv => whnf
      refine ⟨_, h.blk.cell0 rfl, ?_⟩
      conv => whnf
      refine ⟨_, ⟨rfl, trivial⟩, rfl, ?_⟩
      rw [decide_eq_decide, h0]
      constructor
      · intro e; exact .inr e
      · rintro (e | e)
        · rw [h1] at e; cases e
        · exact e
  rintro β w1 ⟨hw1, hβ⟩
  subst hw1
  conv => whnf
  refine vcCond_split lok rfl (fun h1 => ?_) (fun h1 => ?_)
  · rw [h1] at hβ
    have e : tickF s = (s, []) := if_pos (dt hβ.symm)
    rw [e]
    conv => whnf
    exact ⟨none, 0, rfl, Own.nil _ _ _ _, h, Gr.refl _ _⟩
  rw [h1] at hβ
  have hn := df hβ.symm
  conv => whnf
  refine ⟨_, h.blk.cell (i := 5) rfl, ?_⟩
  conv => whnf
  refine vcCond_split lok rfl (fun h2 => ?_) (fun h2 => ?_)
  · have h2 := dt h2
    conv => whnf
    have e : tickF s = ({ s with wait := s.wait - 1 }, []) := by unfold tickF; rw [if_neg hn, if_pos h2]
    rw [e]
    refine ⟨_, h.blk.cell (i := 5) rfl, ?_⟩
    conv => whnf
    refine ⟨by omega, ?_⟩
    conv => whnf
    refine ⟨h.blk.can 5 (by simp [SS.cells]) _ rfl, fun w2 hw2 => ?_⟩
    have k2 := h.setField 5 (.int .i64 (s.wait - 1)) { s with wait := s.wait - 1 } rfl rfl hw2
    exact ⟨none, 0, rfl, Own.nil _ _ _ _, k2.1, k2.2⟩
  · have h2 := df h2
    conv => whnf
    have e : tickF s = (sendF s, outF s) := by unfold tickF; rw [if_neg hn, if_neg h2]
    rw [e]
    refine Calls.ret (send_calls h hl) ?_
    rintro _ w2 ⟨a2, c2, rfl, ho2, h2', g2⟩
    conv => whnf
    exact ⟨a2, c2, rfl, ho2, h2', g2⟩

/-- Done -/
theorem done_calls {B : Nat} {w : World} {b c : Nat} {a : Option Addr} {s : SS} (h : SnAt 190 B w b a c s) :
    Calls Try.prog 86 #[.pointer (some ⟨b, 0, none⟩)] w (Ret fun v w' => v = .bool s.done ∧ w' = w) := by
  refine calls_of_vc lok Try.func86 ?_ rfl
  conv => whnf
  refine vcReg_go lok ?_
  conv => whnf
  refine ⟨_, h.blk.cell (i := 4) rfl, ?_⟩
  conv => whnf
  exact ⟨rfl, rfl⟩

def kP : Pk := ⟨1, 7#32, 70, 0, 0, 0#32, []⟩
theorem kP_can : canP kP = true := by decide
def kSS : SS := ⟨7#32, List.replicate 70 0#8, 0#32, false, false, 0⟩

set_option maxHeartbeats 2000000 in
/-- the fixed calls -/
theorem known23 {w : World} : Calls Try.prog 83 #[] w (Ret fun v w' => v = .bool true ∧ Ext w w') := by
  refine calls_of_vc (args := []) lok Try.func83 ?_ rfl
  conv => whnf
  have b112 : Try.prog.built 112 [(0, .int .i64 1), (1, .int .u32 7), (2, .int .i64 70)] = some (kP.cells none 0).toArray := by kernel_rfl
  refine ⟨_, fun w => run_build w 112 _ _ b112, ?_⟩
  have ep : packF kP = (sealF (bodyF kP), 0) := if_pos kP_can
  have eu : unpackF (sealF (bodyF kP)) = (kP, 0) := unpack_pack kP_can
  have el : (sealF (bodyF kP)).length = 11 := by rw [sealF_len]; rfl
  have eo : outF kSS = sealF (bodyF kP) := by
    have e1 : nextF kSS = (kP, true) := rfl
    unfold outF
    rw [e1, if_pos rfl, ep]
  generalize hB : sealF (bodyF kP) = pb at *
  conv => whnf
  have gp := pack_calls (w := w) kP (a := none) (c := 0) (.inl rfl)
  rw [ep] at gp
  refine Calls.ret (gp) ?_
  rintro _ w1 ⟨a1, c1, rfl, ho1, x1⟩
  conv => whnf
  have ho1 : Own 5 u8v w.heap.size w1 a1 c1 pb := ho1
  have gu := unpack_calls ho1.sl (by omega) ho1.le.1
  rw [eu] at gu
  refine Calls.ret (gu) ?_
  rintro _ w2 ⟨a2, c2, rfl, ho2, x2⟩
  conv => whnf
  conv => whnf
  intro w3 hw3
  have hb3 : Blk w3 w2.heap.size 112 (Pk.zero.cells none 0) := by rw [hw3]; exact Blk.new w2 112 _
  have x3 : Ext w2 w3 := by rw [hw3]; exact Ext.new _ _
  clear hw3
  conv => whnf
  have k4 := Blk.storeAgg lok hb3 (t := 112) (us := kP.cells a2 c2) rfl 0 (Nat.le_refl 7) (Pk.one _ _ _)
  obtain ⟨w4, hr4, hb4, g4⟩ := k4
  have hb4 : Blk w4 w2.heap.size 112 (kP.cells a2 c2) := hb4
  have x4 : Ext w2 w4 := g4.extOf x3 (fun g hg => by cases hg; exact Nat.le_refl _)
  refine ⟨w4, hr4, ?_⟩
  conv => whnf
  have k5 := run_makeOwn e8 w4.heap.size w4 (Nat.le_refl _) 70 70 (Nat.le_refl _) (by decide)
  obtain ⟨w5, hr5, ho5, x5⟩ := k5
  refine ⟨_, _, hr5, ?_⟩
  conv => whnf
  have gs := newSender_calls (c := 70) 7#32 ho5.sl (by decide)
  refine Calls.ret (gs) ?_
  rintro _ w6 hp
  conv => whnf
  have x06 : Ext w w5 := ((x1.trans x2).trans x4).trans x5
  rcases hp with ⟨hno, _, _⟩ | ⟨_, b, a6, c6, rfl, hs6, x6⟩
  · exact absurd hno (by decide)
  have hs6 : SnAt 190 w5.heap.size w6 b a6 c6 kSS := hs6
  conv => whnf
  refine vcReg_meet lok (fun β : Bool => [(40, .bool β)]) (fun β w' => w' = w6 ∧ β = false) [40] (fun _ => rfl) rfl ?_ ?_
  · conv => whnf
    refine ⟨_, ⟨rfl, trivial⟩, rfl, ?_⟩
    show (!decide (((pb.length : Nat) : Int) = 11)) = false
    rw [el]
    rfl
  rintro β w7 ⟨hw7, hβ⟩
  subst hw7 hβ
  conv => whnf
  refine vcCond_false lok (rfl) ?_
  conv => whnf
  have hb7 := (hb4.ext x5).ext x6
  have ho7 := (((ho1.ext x2).ext x4).ext x5).ext x6
  have x07 := x06.trans x6
  have q1 := hb4.lt
  have q2 := hs6.lo
  have q3 : ∀ g, blockOf a1 = some g → g < w1.heap.size := fun g hg => (ho1.ge g hg).2
  have q4 := x2.size
  have q5 := x4.size
  have q6 := x5.size
  have q7 := x06.size
  refine vcDraw_meet lok mixed (fun w' => Blk w' w2.heap.size 112 (kP.cells a2 c2) ∧ Own 5 u8v w.heap.size w' a1 c1 pb) [5] [0, 1, 2, 3, 4, 7, 8, 5, 6, 9, 10, 11, 12, 13, 14, 15, 16, 17, 18, 19, 20, 21, 22]
    (fun _ : Unit => [(0, .bool true)]) (fun _ w' => Ext w w') [0] (fun _ => rfl) rfl (by kernel_rfl) (fun w8 hw8 => ⟨⟨hb7.ext (hw8 ▸ Ext.drew w7), ho7.ext (hw8 ▸ Ext.drew w7)⟩, ?_⟩) ?_
  · have x8 : Ext w7 w8 := hw8 ▸ Ext.drew w7
    have hs8 := hs6.ext x8
    conv => whnf
    refine ⟨_, fun w' hw' => hw'.1.cell (i := 2) rfl, ?_⟩
    conv => whnf
    refine ⟨_, fun w' hw' => run_toStr hw'.2.sl, ?_⟩
    conv => whnf
    have gt := tick_calls hs8 (by decide) (by decide)
    have et : tickF kSS = (sendF kSS, pb) := by
      have e1 : tickF kSS = (sendF kSS, outF kSS) := rfl
      rw [e1, eo]
    rw [et] at gt
    refine Calls.ret (gt) ?_
    rintro _ w9 ⟨a9, c9, rfl, ho9, hs9, g9⟩
    conv => whnf
    have ho9 : Own 5 u8v w8.heap.size w9 a9 c9 pb := ho9
    have hs9 : SnAt 190 w5.heap.size w9 b a6 c6 (sendF kSS) := hs9
    have hb9 : Blk w9 w2.heap.size 112 (kP.cells a2 c2) := (hb7.ext x8).keep (g9.block _ (hb7.ext x8).lt (fun q => by have q' := Option.some.inj q; omega))
    have ho19 := g9.keepOwn (ho7.ext x8) (fun g hg q => by have q' := Option.some.inj q; have := q3 g hg; omega)
    refine ⟨fun w' => (Blk w' w2.heap.size 112 (kP.cells a2 c2) ∧ Own 5 u8v w.heap.size w' a1 c1 pb) ∧ Sl u8v w' a9 pb, fun _ h => h.1, ⟨⟨hb9, ho19⟩, ho9.sl⟩, ?_⟩
    conv => whnf
    refine ⟨_, fun w' hw' => run_toStr hw'.2, ?_⟩
    conv => whnf
    intro γ hγ
    have hγ2 : γ = true := by rw [str_eq hγ rfl rfl]; simp
    clear hγ
    subst hγ2
    conv => whnf
    have gt2 := tick_calls hs9 (by decide) (by decide)
    have et2 : tickF (sendF kSS) = ({ sendF kSS with wait := 3 }, []) := rfl
    rw [et2] at gt2
    refine Calls.ret (gt2) ?_
    rintro _ w10 ⟨a10, c10, rfl, ho10, hs10, g10⟩
    conv => whnf
    refine Calls.ret (done_calls hs10) ?_
    rintro _ w11 ⟨rfl, hw11⟩
    conv => whnf
    subst hw11
    exact ⟨(), ⟨rfl, trivial⟩, g10.extOf (g9.extOf (x07.trans x8) (fun g hg => by cases hg; omega)) (fun g hg => by cases hg; omega)⟩
  rintro _ w8 x8
  conv => whnf
  exact ⟨rfl, x8⟩
end Go.Proofs.Ytgipackjnncabaa
