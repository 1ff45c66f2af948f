/- The laws XferPacks and XferBack, walked. -/
import Derived.Test.YtgipackjnncabaaW23f
import Derived.Test.YtgipackjnncabaaSh
set_option linter.unusedVariables false
namespace Go.Proofs.Ytgipackjnncabaa
open Go.Vc Go.RowKit

theorem fit_pk {w : World} {es : List Value} (h : Fit w (.st (.pair 1 (.int .i64) (.pair 1 (.int .u32) (.pair 1 (.int .i64) (.pair 1 (.int .i64) (.pair 1 (.int .i64) (.pair 1 (.int .u32) (.pair 1 (.slice 1 (.int .u8)) .unit)))))))) es) :
    ∃ (p : Pk) (a : Option Addr) (c : Nat), es = p.cells a c ∧ Sl u8v w a p.data ∧ p.data.length ≤ c := by
  obtain ⟨c1, r1, e1, _, ⟨n1, h1, k1⟩, c2, r2, e2, _, ⟨n2, h2, k2⟩, c3, r3, e3, _, ⟨n3, h3, k3⟩, c4, r4, e4, _, ⟨n4, h4, k4⟩, c5, r5, e5, _, ⟨n5, h5, k5⟩, c6, r6, e6, _, ⟨n6, h6, k6⟩, c7, r7, e7, _, h7, h8⟩ := h
  have h8 : r7 = [] := h8
  obtain ⟨a, len, cap, hs, hl1, hl2, hl3⟩ := h7
  obtain ⟨bs, eb, sb, cb⟩ := fit_u8 (w := w) (a := a) (len := len) (cap := cap) ⟨a, len, cap, rfl, hl1, hl2, hl3⟩
  obtain ⟨v, hv⟩ := wf_u32 k2
  obtain ⟨u, hu⟩ := wf_u32 k6
  refine ⟨⟨n1, v, n3, n4, n5, u, bs⟩, a, cap, ?_, sb, by show bs.length ≤ cap; omega⟩
  rw [e1, e2, e3, e4, e5, e6, e7, h1, h2, h3, h4, h5, h6, hs, h8, hv, hu, ← eb]
  rfl

theorem unpack_len (bs : List (BitVec 8)) : (unpackF bs).1.data.length ≤ bs.length := by
  have hol := open_len bs
  have hx : (upF (openF bs).1).1.data.length ≤ (openF bs).1.length := by
    unfold upF
    generalize (openF bs).1 = x
    simp only
    split
    · simp
    · split
      · simp
      · split <;> simp
  unfold unpackF
  split
  · split
    · show (upF (openF bs).1).1.data.length ≤ _; omega
    · simp [Pk.zero]
  · simp [Pk.zero]

set_option maxHeartbeats 2000000 in
theorem xferPacks_walk {w : World} (p : Pk) {a b : Option Addr} {c d : Nat} {bs : List (BitVec 8)} (hp : Sl u8v w a p.data) (h : Sl u8v w b bs) (hd : bs.length ≤ d) :
    Calls Try.prog 24 #[.agg (p.cells a c).toArray, .slice b bs.length d] w (Law w) := by
  refine calls_of_vc lok Try.func24 ?_ rfl
  conv => whnf
  intro w1 hw1
  have hb1 : Blk w1 w.heap.size 70 (p.cells a c) := by rw [hw1]; exact Blk.new w 70 _
  have x1 : Ext w w1 := by rw [hw1]; exact Ext.new _ _
  clear hw1
  conv => whnf
  refine vcReg_meet lok (fun β : Bool => [(21, .bool β)]) (fun β w' => w' = w1 ∧ β = decide (10000 < p.data.length ∨ 10000 < bs.length)) [21] (fun _ => rfl) rfl ?_ ?_
  · conv => whnf
    refine ⟨_, hb1.cell (i := 6) rfl, ?_⟩
    conv => whnf
    refine bcase (fun h1 => ?_) (fun h1 => ?_)
    · conv => whnf
      exact ⟨_, ⟨rfl, trivial⟩, rfl, by have := dt h1; simp; omega⟩
    · conv => whnf
      exact ⟨_, ⟨rfl, trivial⟩, rfl, by have := df h1; rw [decide_eq_decide]; omega⟩
  rintro β w2 ⟨hw2, hβ⟩
  subst hw2
  conv => whnf
  refine vcCond_split lok rfl (fun h1 => ?_) (fun h1 => ?_)
  · conv => whnf
    refine Calls.ret (known23) ?_
    rintro _ w3 ⟨rfl, x3⟩
    conv => whnf
    exact ⟨rfl, x1.trans x3⟩
  rw [hβ] at h1
  have hl := df h1
  conv => whnf
  refine ⟨p.cells a c, rfl, hb1.cells, ?_⟩
  conv => whnf
  refine Calls.ret (given_calls p a c) ?_
  rintro _ w3 ⟨rfl, x3⟩
  conv => whnf
  have x03 := x1.trans x3
  refine Calls.ret (pack_calls p (hp.ext x03)) ?_
  rintro _ w4 ⟨a4, c4, rfl, ho4, x4⟩
  conv => whnf
  have x04 := x03.trans x4
  refine ⟨p.cells a c, rfl, ((hb1.ext x3).ext x4).cells, ?_⟩
  conv => whnf
  refine Calls.ret (rpack_calls p (hp.ext x04)) ?_
  rintro _ w5 ⟨a5, c5, rfl, ho5, x5⟩
  conv => whnf
  have x05 := x04.trans x5
  refine Calls.ret (unpack_calls (h.ext x05) (by omega) hd) ?_
  rintro _ w6 ⟨a6, c6, rfl, ho6, x6⟩
  conv => whnf
  have x06 := x05.trans x6
  have hul := unpack_len bs
  conv => whnf
  intro w7 hw7
  have hb7 : Blk w7 w6.heap.size 112 (Pk.zero.cells none 0) := by rw [hw7]; exact Blk.new w6 112 _
  have x7 : Ext w6 w7 := by rw [hw7]; exact Ext.new _ _
  clear hw7
  conv => whnf
  have k8 := Blk.storeAgg lok hb7 (t := 112) (us := (unpackF bs).1.cells a6 c6) rfl 0 (Nat.le_refl 7) (Pk.one _ _ _)
  obtain ⟨w8, hr8, hb8, g8⟩ := k8
  have hb8 : Blk w8 w6.heap.size 112 ((unpackF bs).1.cells a6 c6) := hb8
  have x8 : Ext w6 w8 := g8.extOf x7 (fun g hg => by cases hg; exact Nat.le_refl _)
  refine ⟨w8, hr8, ?_⟩
  have x08 := x06.trans x8
  conv => whnf
  refine Calls.ret (runpack_calls (h.ext x08) (by omega) hd) ?_
  rintro _ w9 ⟨a9, c9, rfl, ho9, x9⟩
  conv => whnf
  have x09 := x08.trans x9
  conv => whnf
  intro w10 hw10
  have hb10 : Blk w10 w9.heap.size 70 (Pk.zero.cells none 0) := by rw [hw10]; exact Blk.new w9 70 _
  have x10 : Ext w9 w10 := by rw [hw10]; exact Ext.new _ _
  clear hw10
  conv => whnf
  have k11 := Blk.storeAgg lok hb10 (t := 70) (us := (unpackF bs).1.cells a9 c9) rfl 0 (Nat.le_refl 7) (Pk.one _ _ _)
  obtain ⟨w11, hr11, hb11, g11⟩ := k11
  have hb11 : Blk w11 w9.heap.size 70 ((unpackF bs).1.cells a9 c9) := hb11
  have x11 : Ext w9 w11 := g11.extOf x10 (fun g hg => by cases hg; exact Nat.le_refl _)
  refine ⟨w11, hr11, ?_⟩
  have x011 := x09.trans x11
  have ho4' := ho4.ext (((x5.trans x6).trans x8).trans (x9.trans x11))
  have ho5' := ho5.ext ((x6.trans x8).trans (x9.trans x11))
  have ho6' := ho6.ext (x8.trans (x9.trans x11))
  have ho9' := ho9.ext x11
  have hb8' := hb8.ext (x9.trans x11)
  clear hr8 hr11 g8 g11 hb7 hb10 x7 x10
  generalize unpackF bs = up at *
  obtain ⟨q, e⟩ := up
  conv => whnf
  refine vcDraw_meet lok mixed (Ext w11) [12] [0, 1, 2, 3, 4, 5, 6, 7, 8, 9, 10, 11, 13, 12, 14, 15, 16, 17, 18, 19, 20, 21, 22, 23, 24]
    (fun _ : Unit => [(4, .bool true)]) (fun _ w' => Ext w11 w') [4] (fun _ => rfl) rfl (by kernel_rfl) (fun w12 hw12 => ⟨hw12 ▸ Ext.drew w11, ?_⟩) ?_
  · have x12 : Ext w11 w12 := hw12 ▸ Ext.drew w11
    conv => whnf
    refine ⟨_, fun w' hw' => run_toStr (ho4'.sl.ext hw'), ?_⟩
    conv => whnf
    refine ⟨_, fun w' hw' => run_toStr (ho5'.sl.ext hw'), ?_⟩
    conv => whnf
    intro γ hγ
    have hγ2 : γ = true := by rw [str_eq hγ rfl rfl]; simp
    clear hγ
    subst hγ2
    conv => whnf
    refine bcase (fun _ => ?_) (fun h5 => absurd rfl (df h5))
    conv => whnf
    refine ⟨q.cells a6 c6, rfl, fun w' hw' => (hb8'.ext hw').cells, ?_⟩
    conv => whnf
    refine ⟨q.cells a9 c9, rfl, fun w' hw' => (hb11.ext hw').cells, ?_⟩
    conv => whnf
    refine Calls.ret (taken_calls q a6 c6) ?_
    rintro _ w13 ⟨rfl, x13⟩
    conv => whnf
    refine ⟨_, fun _ h => h, x12.trans x13, ?_⟩
    conv => whnf
    refine Calls.ret (psame_calls q (ho6'.sl.ext (x12.trans x13)) (ho9'.sl.ext (x12.trans x13))) ?_
    rintro _ w14 ⟨rfl, x14⟩
    conv => whnf
    refine bcase (fun _ => ?_) (fun h5 => absurd rfl (df h5))
    conv => whnf
    refine Calls.ret (known23) ?_
    rintro _ w15 ⟨rfl, x15⟩
    conv => whnf
    exact ⟨(), ⟨rfl, trivial⟩, ((x12.trans x13).trans x14).trans x15⟩
  rintro _ w12 x12
  conv => whnf
  exact ⟨rfl, x011.trans x12⟩

set_option maxHeartbeats 2000000 in
theorem xferBack_walk {w : World} (p : Pk) {a b : Option Addr} {c d : Nat} {bs : List (BitVec 8)} (hp : Sl u8v w a p.data) (h : Sl u8v w b bs) (hd : bs.length ≤ d) :
    Calls Try.prog 25 #[.agg (p.cells a c).toArray, .slice b bs.length d] w (Law w) := by
  refine calls_of_vc lok Try.func25 ?_ rfl
  conv => whnf
  intro w1 hw1
  have hb1 : Blk w1 w.heap.size 70 (p.cells a c) := by rw [hw1]; exact Blk.new w 70 _
  have x1 : Ext w w1 := by rw [hw1]; exact Ext.new _ _
  clear hw1
  conv => whnf
  refine vcReg_meet lok (fun β : Bool => [(21, .bool β)]) (fun β w' => w' = w1 ∧ β = decide (10000 < p.data.length ∨ 10000 < bs.length)) [21] (fun _ => rfl) rfl ?_ ?_
  · conv => whnf
    refine ⟨_, hb1.cell (i := 6) rfl, ?_⟩
    conv => whnf
    refine bcase (fun h1 => ?_) (fun h1 => ?_)
    · conv => whnf
      exact ⟨_, ⟨rfl, trivial⟩, rfl, by have := dt h1; simp; omega⟩
    · conv => whnf
      exact ⟨_, ⟨rfl, trivial⟩, rfl, by have := df h1; rw [decide_eq_decide]; omega⟩
  rintro β w2 ⟨hw2, hβ⟩
  subst hw2
  conv => whnf
  refine vcCond_split lok rfl (fun h1 => ?_) (fun h1 => ?_)
  · conv => whnf
    refine Calls.ret (known23) ?_
    rintro _ w3 ⟨rfl, x3⟩
    conv => whnf
    exact ⟨rfl, x1.trans x3⟩
  rw [hβ] at h1
  have hl := df h1
  conv => whnf
  refine ⟨p.cells a c, rfl, hb1.cells, ?_⟩
  conv => whnf
  refine Calls.ret (given_calls p a c) ?_
  rintro _ w3 ⟨rfl, x3⟩
  conv => whnf
  have x03 := x1.trans x3
  refine Calls.ret (pack_calls p (hp.ext x03)) ?_
  rintro _ w4 ⟨a4, c4, rfl, ho4, x4⟩
  conv => whnf
  have x04 := x03.trans x4
  have hb14 := (hb1.ext x3).ext x4
  have hpk : (canP p = false ∧ packF p = ([], 1)) ∨ (canP p = true ∧ packF p = (sealF (bodyF p), 0)) := by
    unfold packF
    cases canP p <;> simp
  conv => whnf
  refine vcCond_meet (fun _ : Unit => [(1, .slice b bs.length d)]) (fun _ w' => Ext w w') ?_ ?_
  · rcases hpk with ⟨hcp, ep⟩ | ⟨hcp, ep⟩
    · rw [ep]
      refine vcCond_false lok (rfl) ?_
      conv => whnf
      exact ⟨(), ⟨rfl, trivial⟩, x04⟩
    · rw [ep] at ho4 ⊢
      refine vcCond_true lok (rfl) ?_
      conv => whnf
      have hbl : (bodyF p).length ≤ 10020 := by
        unfold bodyF
        simp only [List.length_append, enc_len]
        split
        · simp [enc_len]
        · split
          · simp [enc_len]; omega
          · simp [enc_len]
      have hsl := sealF_len (bodyF p)
      have eu := unpack_pack hcp
      generalize sealF (bodyF p) = pb at *
      have ho4 : Own 5 u8v w3.heap.size w4 a4 c4 pb := ho4
      have gu := unpack_calls ho4.sl (by omega) ho4.le.1
      rw [eu] at gu
      refine Calls.ret (gu) ?_
      rintro _ w5 ⟨a5, c5, rfl, ho5, x5⟩
      conv => whnf
      have ho5 : Own 5 u8v w4.heap.size w5 a5 c5 p.data := ho5
      conv => whnf
      intro w7 hw7
      have hb7 : Blk w7 w5.heap.size 112 (Pk.zero.cells none 0) := by rw [hw7]; exact Blk.new w5 112 _
      have x7 : Ext w5 w7 := by rw [hw7]; exact Ext.new _ _
      clear hw7
      conv => whnf
      have k8 := Blk.storeAgg lok hb7 (t := 112) (us := p.cells a5 c5) rfl 0 (Nat.le_refl 7) (Pk.one _ _ _)
      obtain ⟨w8, hr8, hb8, g8⟩ := k8
      have hb8 : Blk w8 w5.heap.size 112 (p.cells a5 c5) := hb8
      have x8 : Ext w5 w8 := g8.extOf x7 (fun g hg => by cases hg; exact Nat.le_refl _)
      refine ⟨w8, hr8, ?_⟩
      have x08 := (x04.trans x5).trans x8
      have hb18 := (hb14.ext x5).ext x8
      conv => whnf
      refine vcDraw_meet lok mixed (Ext w8) [4] [0, 1, 2, 3, 5, 4, 6, 7, 8]
        (fun _ : Unit => [(44, .bool false)]) (fun _ w' => Ext w8 w') [44] (fun _ => rfl) rfl (by kernel_rfl) (fun w12 hw12 => ⟨hw12 ▸ Ext.drew w8, ?_⟩) ?_
      · have x12 : Ext w8 w12 := hw12 ▸ Ext.drew w8
        conv => whnf
        refine ⟨p.cells a5 c5, rfl, fun w' hw' => (hb8.ext hw').cells, ?_⟩
        conv => whnf
        refine ⟨p.cells a c, rfl, fun w' hw' => (hb18.ext hw').cells, ?_⟩
        conv => whnf
        refine Calls.ret (taken_calls p a5 c5) ?_
        rintro _ w13 ⟨rfl, x13⟩
        conv => whnf
        refine ⟨_, fun _ h => h, x12.trans x13, ?_⟩
        conv => whnf
        refine Calls.ret (psame_calls p (ho5.sl.ext (x8.trans (x12.trans x13))) (hp.ext (x08.trans (x12.trans x13)))) ?_
        rintro _ w14 ⟨rfl, x14⟩
        conv => whnf
        exact ⟨(), ⟨rfl, trivial⟩, (x12.trans x13).trans x14⟩
      rintro _ w12 x12
      conv => whnf
      refine vcCond_false lok (rfl) ?_
      conv => whnf
      exact ⟨(), ⟨rfl, trivial⟩, x08.trans x12⟩
  rintro _ w5 x05
  conv => whnf
  have hul := unpack_len bs
  refine Calls.ret (unpack_calls (h.ext x05) (by omega) hd) ?_
  rintro _ w6 ⟨a6, c6, rfl, ho6, x6⟩
  conv => whnf
  have x06 := x05.trans x6
  conv => whnf
  intro w7 hw7
  have hb7 : Blk w7 w6.heap.size 112 (Pk.zero.cells none 0) := by rw [hw7]; exact Blk.new w6 112 _
  have x7 : Ext w6 w7 := by rw [hw7]; exact Ext.new _ _
  clear hw7
  conv => whnf
  have k8 := Blk.storeAgg lok hb7 (t := 112) (us := (unpackF bs).1.cells a6 c6) rfl 0 (Nat.le_refl 7) (Pk.one _ _ _)
  obtain ⟨w8, hr8, hb8, g8⟩ := k8
  have hb8 : Blk w8 w6.heap.size 112 ((unpackF bs).1.cells a6 c6) := hb8
  have x8 : Ext w6 w8 := g8.extOf x7 (fun g hg => by cases hg; exact Nat.le_refl _)
  refine ⟨w8, hr8, ?_⟩
  have x08 := x06.trans x8
  have ho8 := ho6.ext x8
  clear hr8 g8 hb7 x7
  conv => whnf
  refine vcCond_split lok rfl (fun k1 => ?_) (fun k1 => ?_)
  · have k1 := ne_true k1
    have ez : (unpackF bs).1 = Pk.zero := by
      unfold unpackF at k1 ⊢
      split
      · rename_i q
        rw [if_pos q] at k1
        split
        · rename_i q2
          rw [if_pos q2] at k1
          exact absurd rfl k1
        · rfl
      · rfl
    rw [ez] at hb8 ho8
    conv => whnf
    refine vcReg_go lok ?_
    conv => whnf
    refine ⟨Pk.zero.cells a6 c6, rfl, hb8.cells, ?_⟩
    conv => whnf
    refine Calls.ret (taken_calls Pk.zero a6 c6) ?_
    rintro _ w9 ⟨rfl, x9⟩
    conv => whnf
    refine ⟨_, fun w => run_build w 70 _ _ built70z, ?_⟩
    conv => whnf
    have gs := psame_calls (w := w9) Pk.zero (a := a6) (b := none) (c := c6) (d := 0) (.inl rfl) (.inl rfl)
    refine Calls.ret (gs) ?_
    rintro _ w10 ⟨rfl, x10⟩
    conv => whnf
    refine Calls.ret (known23) ?_
    rintro _ w11 ⟨rfl, x11⟩
    conv => whnf
    exact ⟨rfl, ((x08.trans x9).trans x10).trans x11⟩
  · have k1 := ne_false k1
    have epk := pack_unpack k1
    conv => whnf
    refine ⟨(unpackF bs).1.cells a6 c6, rfl, hb8.cells, ?_⟩
    conv => whnf
    have gp := pack_calls (unpackF bs).1 (c := c6) ho8.sl
    rw [epk] at gp
    refine Calls.ret (gp) ?_
    rintro _ w9 ⟨a9, c9, rfl, ho9, x9⟩
    conv => whnf
    conv => whnf
    refine vcReg_go lok ?_
    conv => whnf
    refine ⟨_, run_toStr ho9.sl, ?_⟩
    conv => whnf
    refine ⟨_, run_toStr (h.ext (x08.trans x9)), ?_⟩
    conv => whnf
    intro γ hγ
    have hγ2 : γ = true := by rw [str_eq hγ rfl rfl]; simp
    clear hγ
    subst hγ2
    conv => whnf
    refine Calls.ret (known23) ?_
    rintro _ w11 ⟨rfl, x11⟩
    conv => whnf
    exact ⟨rfl, (x08.trans x9).trans x11⟩
end Go.Proofs.Ytgipackjnncabaa
