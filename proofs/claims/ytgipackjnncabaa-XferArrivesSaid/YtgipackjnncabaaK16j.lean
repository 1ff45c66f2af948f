/- Own texts of this claim, joined: L23a, L23b, L22a, L22b, L22c, L22d. -/
import Derived.Test.YtgipackjnncabaaK16i

/- The laws XferPacks and XferBack, walked. -/
set_option linter.unusedVariables false
namespace Go.Proofs.Ytgipackjnncabaa
open Go.Vc Go.RowKit

theorem fit_pk {w : World} {es : List Value} (h : Fit w (.st (.pair 1 (.int .i64) (.pair 1 (.int .u32) (.pair 1 (.int .i64) (.pair 1 (.int .i64) (.pair 1 (.int .i64) (.pair 1 (.int .u32) (.pair 1 (.slice 1 (.int .u8)) .unit)))))))) es) :
    ∃ (p : Pk) (a : Option Addr) (c : Nat), es = p.cells a c ∧ Sl u8v w a p.data ∧ p.data.length ≤ c := by
  obtain ⟨c1, r1, e1, _, ⟨n1, h1, k1⟩, c2, r2, e2, _, ⟨n2, h2, k2⟩, c3, r3, e3, _, ⟨n3, h3, k3⟩, c4, r4, e4, _, ⟨n4, h4, k4⟩, c5, r5, e5, _, ⟨n5, h5, k5⟩, c6, r6, e6, _, ⟨n6, h6, k6⟩, c7, r7, e7, _, h7, h8⟩ := h
  have h8 : r7 = [] := h8
  obtain ⟨a, len, cap, hs, hl1, hl2, hl3⟩ := h7
  obtain ⟨bs, eb, sb, cb⟩ := fit_u8 (w := w) (a := a) (len := len) (cap := cap) ⟨a, len, cap, rfl, hl1, hl2, hl3⟩
  obtain ⟨v, hv⟩ := wf_u32 k2
  obtain ⟨u, hu⟩ := wf_u32 k6
  refine ⟨⟨n1, v, n3, n4, n5, u, bs⟩, a, cap, ?_, sb, by show bs.length ≤ cap; omega⟩
  rw [e1, e2, e3, e4, e5, e6, e7, h1, h2, h3, h4, h5, h6, hs, h8, hv, hu, ← eb]
  rfl

theorem unpack_len (bs : List (BitVec 8)) : (unpackF bs).1.data.length ≤ bs.length := by
  have hol := open_len bs
  have hx : (upF (openF bs).1).1.data.length ≤ (openF bs).1.length := by
    unfold upF
    generalize (openF bs).1 = x
    simp only
    split
    · simp
    · split
      · simp
      · split <;> simp
  unfold unpackF
  split
  · split
    · show (upF (openF bs).1).1.data.length ≤ _; omega
    · simp [Pk.zero]
  · simp [Pk.zero]

set_option maxHeartbeats 2000000 in
theorem xferPacks_walk {w : World} (p : Pk) {a b : Option Addr} {c d : Nat} {bs : List (BitVec 8)} (hp : Sl u8v w a p.data) (h : Sl u8v w b bs) (hd : bs.length ≤ d) :
    Calls Try.prog 24 #[.agg (p.cells a c).toArray, .slice b bs.length d] w (Law w) := by
  refine calls_of_vc lok Try.func24 ?_ rfl
  conv => whnf
  intro w1 hw1
  have hb1 : Blk w1 w.heap.size 70 (p.cells a c) := by rw [hw1]; exact Blk.new w 70 _
  have x1 : Ext w w1 := by rw [hw1]; exact Ext.new _ _
  clear hw1
  conv => whnf
  refine vcReg_meet lok (fun β : Bool => [(21, .bool β)]) (fun β w' => w' = w1 ∧ β = decide (10000 < p.data.length ∨ 10000 < bs.length)) [21] (fun _ => rfl) rfl ?_ ?_
  · conv => whnf
    refine ⟨_, hb1.cell (i := 6) rfl, ?_⟩
    conv => whnf
    refine bcase (fun h1 => ?_) (fun h1 => ?_)
    · conv => whnf
      exact ⟨_, ⟨rfl, trivial⟩, rfl, by have := dt h1; simp; omega⟩
    · conv => whnf
      exact ⟨_, ⟨rfl, trivial⟩, rfl, by have := df h1; rw [decide_eq_decide]; omega⟩
  rintro β w2 ⟨hw2, hβ⟩
  subst hw2
  conv => whnf
  refine vcCond_split lok rfl (fun h1 => ?_) (fun h1 => ?_)
  · conv => whnf
    refine Calls.ret (known23) ?_
    rintro _ w3 ⟨rfl, x3⟩
    conv => whnf
    exact ⟨rfl, x1.trans x3⟩
  rw [hβ] at h1
  have hl := df h1
  conv => whnf
  refine ⟨p.cells a c, rfl, hb1.cells, ?_⟩
  conv => whnf
  refine Calls.ret (given_calls p a c) ?_
  rintro _ w3 ⟨rfl, x3⟩
  conv => whnf
  have x03 := x1.trans x3
  refine Calls.ret (pack_calls p (hp.ext x03)) ?_
  rintro _ w4 ⟨a4, c4, rfl, ho4, x4⟩
  conv => whnf
  have x04 := x03.trans x4
  refine ⟨p.cells a c, rfl, ((hb1.ext x3).ext x4).cells, ?_⟩
  conv => whnf
  refine Calls.ret (rpack_calls p (hp.ext x04)) ?_
  rintro _ w5 ⟨a5, c5, rfl, ho5, x5⟩
  conv => whnf
  have x05 := x04.trans x5
  refine Calls.ret (unpack_calls (h.ext x05) (by omega) hd) ?_
  rintro _ w6 ⟨a6, c6, rfl, ho6, x6⟩
  conv => whnf
  have x06 := x05.trans x6
  have hul := unpack_len bs
  conv => whnf
  intro w7 hw7
  have hb7 : Blk w7 w6.heap.size 112 (Pk.zero.cells none 0) := by rw [hw7]; exact Blk.new w6 112 _
  have x7 : Ext w6 w7 := by rw [hw7]; exact Ext.new _ _
  clear hw7
  conv => whnf
  have k8 := Blk.storeAgg lok hb7 (t := 112) (us := (unpackF bs).1.cells a6 c6) rfl 0 (Nat.le_refl 7) (Pk.one _ _ _)
  obtain ⟨w8, hr8, hb8, g8⟩ := k8
  have hb8 : Blk w8 w6.heap.size 112 ((unpackF bs).1.cells a6 c6) := hb8
  have x8 : Ext w6 w8 := g8.extOf x7 (fun g hg => by cases hg; exact Nat.le_refl _)
  refine ⟨w8, hr8, ?_⟩
  have x08 := x06.trans x8
  conv => whnf
  refine Calls.ret (runpack_calls (h.ext x08) (by omega) hd) ?_
  rintro _ w9 ⟨a9, c9, rfl, ho9, x9⟩
  conv => whnf
  have x09 := x08.trans x9
  conv => whnf
  intro w10 hw10
  have hb10 : Blk w10 w9.heap.size 70 (Pk.zero.cells none 0) := by rw [hw10]; exact Blk.new w9 70 _
  have x10 : Ext w9 w10 := by rw [hw10]; exact Ext.new _ _
  clear hw10
  conv => whnf
  have k11 := Blk.storeAgg lok hb10 (t := 70) (us := (unpackF bs).1.cells a9 c9) rfl 0 (Nat.le_refl 7) (Pk.one _ _ _)
  obtain ⟨w11, hr11, hb11, g11⟩ := k11
  have hb11 : Blk w11 w9.heap.size 70 ((unpackF bs).1.cells a9 c9) := hb11
  have x11 : Ext w9 w11 := g11.extOf x10 (fun g hg => by cases hg; exact Nat.le_refl _)
  refine ⟨w11, hr11, ?_⟩
  have x011 := x09.trans x11
  have ho4' := ho4.ext (((x5.trans x6).trans x8).trans (x9.trans x11))
  have ho5' := ho5.ext ((x6.trans x8).trans (x9.trans x11))
  have ho6' := ho6.ext (x8.trans (x9.trans x11))
  have ho9' := ho9.ext x11
  have hb8' := hb8.ext (x9.trans x11)
  clear hr8 hr11 g8 g11 hb7 hb10 x7 x10
  generalize unpackF bs = up at *
  obtain ⟨q, e⟩ := up
  conv => whnf
  refine vcDraw_meet lok mixed (Ext w11) [12] [0, 1, 2, 3, 4, 5, 6, 7, 8, 9, 10, 11, 13, 12, 14, 15, 16, 17, 18, 19, 20, 21, 22, 23, 24]
    (fun _ : Unit => [(4, .bool true)]) (fun _ w' => Ext w11 w') [4] (fun _ => rfl) rfl (by kernel_rfl) (fun w12 hw12 => ⟨hw12 ▸ Ext.drew w11, ?_⟩) ?_
  · have x12 : Ext w11 w12 := hw12 ▸ Ext.drew w11
    conv => whnf
    refine ⟨_, fun w' hw' => run_toStr (ho4'.sl.ext hw'), ?_⟩
    conv => whnf
    refine ⟨_, fun w' hw' => run_toStr (ho5'.sl.ext hw'), ?_⟩
    conv => whnf
    intro γ hγ
    have hγ2 : γ = true := by rw [str_eq hγ rfl rfl]; simp
    clear hγ
    subst hγ2
    conv => whnf
    refine bcase (fun _ => ?_) (fun h5 => absurd rfl (df h5))
    conv => whnf
    refine ⟨q.cells a6 c6, rfl, fun w' hw' => (hb8'.ext hw').cells, ?_⟩
    conv => whnf
    refine ⟨q.cells a9 c9, rfl, fun w' hw' => (hb11.ext hw').cells, ?_⟩
    conv => whnf
    refine Calls.ret (taken_calls q a6 c6) ?_
    rintro _ w13 ⟨rfl, x13⟩
    conv => whnf
    refine ⟨_, fun _ h => h, x12.trans x13, ?_⟩
    conv => whnf
    refine Calls.ret (psame_calls q (ho6'.sl.ext (x12.trans x13)) (ho9'.sl.ext (x12.trans x13))) ?_
    rintro _ w14 ⟨rfl, x14⟩
    conv => whnf
    refine bcase (fun _ => ?_) (fun h5 => absurd rfl (df h5))
    conv => whnf
    refine Calls.ret (known23) ?_
    rintro _ w15 ⟨rfl, x15⟩
    conv => whnf
    exact ⟨(), ⟨rfl, trivial⟩, ((x12.trans x13).trans x14).trans x15⟩
  rintro _ w12 x12
  conv => whnf
  exact ⟨rfl, x011.trans x12⟩

set_option maxHeartbeats 2000000 in
theorem xferBack_walk {w : World} (p : Pk) {a b : Option Addr} {c d : Nat} {bs : List (BitVec 8)} (hp : Sl u8v w a p.data) (h : Sl u8v w b bs) (hd : bs.length ≤ d) :
    Calls Try.prog 25 #[.agg (p.cells a c).toArray, .slice b bs.length d] w (Law w) := by
  refine calls_of_vc lok Try.func25 ?_ rfl
  conv => whnf
  intro w1 hw1
  have hb1 : Blk w1 w.heap.size 70 (p.cells a c) := by rw [hw1]; exact Blk.new w 70 _
  have x1 : Ext w w1 := by rw [hw1]; exact Ext.new _ _
  clear hw1
  conv => whnf
  refine vcReg_meet lok (fun β : Bool => [(21, .bool β)]) (fun β w' => w' = w1 ∧ β = decide (10000 < p.data.length ∨ 10000 < bs.length)) [21] (fun _ => rfl) rfl ?_ ?_
  · conv => whnf
    refine ⟨_, hb1.cell (i := 6) rfl, ?_⟩
    conv => whnf
    refine bcase (fun h1 => ?_) (fun h1 => ?_)
    · conv => whnf
      exact ⟨_, ⟨rfl, trivial⟩, rfl, by have := dt h1; simp; omega⟩
    · conv => whnf
      exact ⟨_, ⟨rfl, trivial⟩, rfl, by have := df h1; rw [decide_eq_decide]; omega⟩
  rintro β w2 ⟨hw2, hβ⟩
  subst hw2
  conv => whnf
  refine vcCond_split lok rfl (fun h1 => ?_) (fun h1 => ?_)
  · conv => whnf
    refine Calls.ret (known23) ?_
    rintro _ w3 ⟨rfl, x3⟩
    conv => whnf
    exact ⟨rfl, x1.trans x3⟩
  rw [hβ] at h1
  have hl := df h1
  conv => whnf
  refine ⟨p.cells a c, rfl, hb1.cells, ?_⟩
  conv => whnf
  refine Calls.ret (given_calls p a c) ?_
  rintro _ w3 ⟨rfl, x3⟩
  conv => whnf
  have x03 := x1.trans x3
  refine Calls.ret (pack_calls p (hp.ext x03)) ?_
  rintro _ w4 ⟨a4, c4, rfl, ho4, x4⟩
  conv => whnf
  have x04 := x03.trans x4
  have hb14 := (hb1.ext x3).ext x4
  have hpk : (canP p = false ∧ packF p = ([], 1)) ∨ (canP p = true ∧ packF p = (sealF (bodyF p), 0)) := by
    unfold packF
    cases canP p <;> simp
  conv => whnf
  refine vcCond_meet (fun _ : Unit => [(1, .slice b bs.length d)]) (fun _ w' => Ext w w') ?_ ?_
  · rcases hpk with ⟨hcp, ep⟩ | ⟨hcp, ep⟩
    · rw [ep]
      refine vcCond_false lok (rfl) ?_
      conv => whnf
      exact ⟨(), ⟨rfl, trivial⟩, x04⟩
    · rw [ep] at ho4 ⊢
      refine vcCond_true lok (rfl) ?_
      conv => whnf
      have hbl : (bodyF p).length ≤ 10020 := by
        unfold bodyF
        simp only [List.length_append, enc_len]
        split
        · simp [enc_len]
        · split
          · simp [enc_len]; omega
          · simp [enc_len]
      have hsl := sealF_len (bodyF p)
      have eu := unpack_pack hcp
      generalize sealF (bodyF p) = pb at *
      have ho4 : Own 5 u8v w3.heap.size w4 a4 c4 pb := ho4
      have gu := unpack_calls ho4.sl (by omega) ho4.le.1
      rw [eu] at gu
      refine Calls.ret (gu) ?_
      rintro _ w5 ⟨a5, c5, rfl, ho5, x5⟩
      conv => whnf
      have ho5 : Own 5 u8v w4.heap.size w5 a5 c5 p.data := ho5
      conv => whnf
      intro w7 hw7
      have hb7 : Blk w7 w5.heap.size 112 (Pk.zero.cells none 0) := by rw [hw7]; exact Blk.new w5 112 _
      have x7 : Ext w5 w7 := by rw [hw7]; exact Ext.new _ _
      clear hw7
      conv => whnf
      have k8 := Blk.storeAgg lok hb7 (t := 112) (us := p.cells a5 c5) rfl 0 (Nat.le_refl 7) (Pk.one _ _ _)
      obtain ⟨w8, hr8, hb8, g8⟩ := k8
      have hb8 : Blk w8 w5.heap.size 112 (p.cells a5 c5) := hb8
      have x8 : Ext w5 w8 := g8.extOf x7 (fun g hg => by cases hg; exact Nat.le_refl _)
      refine ⟨w8, hr8, ?_⟩
      have x08 := (x04.trans x5).trans x8
      have hb18 := (hb14.ext x5).ext x8
      conv => whnf
      refine vcDraw_meet lok mixed (Ext w8) [4] [0, 1, 2, 3, 5, 4, 6, 7, 8]
        (fun _ : Unit => [(44, .bool false)]) (fun _ w' => Ext w8 w') [44] (fun _ => rfl) rfl (by kernel_rfl) (fun w12 hw12 => ⟨hw12 ▸ Ext.drew w8, ?_⟩) ?_
      · have x12 : Ext w8 w12 := hw12 ▸ Ext.drew w8
        conv => whnf
        refine ⟨p.cells a5 c5, rfl, fun w' hw' => (hb8.ext hw').cells, ?_⟩
        conv => whnf
        refine ⟨p.cells a c, rfl, fun w' hw' => (hb18.ext hw').cells, ?_⟩
        conv => whnf
        refine Calls.ret (taken_calls p a5 c5) ?_
        rintro _ w13 ⟨rfl, x13⟩
        conv => whnf
        refine ⟨_, fun _ h => h, x12.trans x13, ?_⟩
        conv => whnf
        refine Calls.ret (psame_calls p (ho5.sl.ext (x8.trans (x12.trans x13))) (hp.ext (x08.trans (x12.trans x13)))) ?_
        rintro _ w14 ⟨rfl, x14⟩
        conv => whnf
        exact ⟨(), ⟨rfl, trivial⟩, (x12.trans x13).trans x14⟩
      rintro _ w12 x12
      conv => whnf
      refine vcCond_false lok (rfl) ?_
      conv => whnf
      exact ⟨(), ⟨rfl, trivial⟩, x08.trans x12⟩
  rintro _ w5 x05
  conv => whnf
  have hul := unpack_len bs
  refine Calls.ret (unpack_calls (h.ext x05) (by omega) hd) ?_
  rintro _ w6 ⟨a6, c6, rfl, ho6, x6⟩
  conv => whnf
  have x06 := x05.trans x6
  conv => whnf
  intro w7 hw7
  have hb7 : Blk w7 w6.heap.size 112 (Pk.zero.cells none 0) := by rw [hw7]; exact Blk.new w6 112 _
  have x7 : Ext w6 w7 := by rw [hw7]; exact Ext.new _ _
  clear hw7
  conv => whnf
  have k8 := Blk.storeAgg lok hb7 (t := 112) (us := (unpackF bs).1.cells a6 c6) rfl 0 (Nat.le_refl 7) (Pk.one _ _ _)
  obtain ⟨w8, hr8, hb8, g8⟩ := k8
  have hb8 : Blk w8 w6.heap.size 112 ((unpackF bs).1.cells a6 c6) := hb8
  have x8 : Ext w6 w8 := g8.extOf x7 (fun g hg => by cases hg; exact Nat.le_refl _)
  refine ⟨w8, hr8, ?_⟩
  have x08 := x06.trans x8
  have ho8 := ho6.ext x8
  clear hr8 g8 hb7 x7
  conv => whnf
  refine vcCond_split lok rfl (fun k1 => ?_) (fun k1 => ?_)
  · have k1 := ne_true k1
    have ez : (unpackF bs).1 = Pk.zero := by
      unfold unpackF at k1 ⊢
      split
      · rename_i q
        rw [if_pos q] at k1
        split
        · rename_i q2
          rw [if_pos q2] at k1
          exact absurd rfl k1
        · rfl
      · rfl
    rw [ez] at hb8 ho8
    conv => whnf
    refine vcReg_go lok ?_
    conv => whnf
    refine ⟨Pk.zero.cells a6 c6, rfl, hb8.cells, ?_⟩
    conv => whnf
    refine Calls.ret (taken_calls Pk.zero a6 c6) ?_
    rintro _ w9 ⟨rfl, x9⟩
    conv => whnf
    refine ⟨_, fun w => run_build w 70 _ _ built70z, ?_⟩
    conv => whnf
    have gs := psame_calls (w := w9) Pk.zero (a := a6) (b := none) (c := c6) (d := 0) (.inl rfl) (.inl rfl)
    refine Calls.ret (gs) ?_
    rintro _ w10 ⟨rfl, x10⟩
    conv => whnf
    refine Calls.ret (known23) ?_
    rintro _ w11 ⟨rfl, x11⟩
    conv => whnf
    exact ⟨rfl, ((x08.trans x9).trans x10).trans x11⟩
  · have k1 := ne_false k1
    have epk := pack_unpack k1
    conv => whnf
    refine ⟨(unpackF bs).1.cells a6 c6, rfl, hb8.cells, ?_⟩
    conv => whnf
    have gp := pack_calls (unpackF bs).1 (c := c6) ho8.sl
    rw [epk] at gp
    refine Calls.ret (gp) ?_
    rintro _ w9 ⟨a9, c9, rfl, ho9, x9⟩
    conv => whnf
    conv => whnf
    refine vcReg_go lok ?_
    conv => whnf
    refine ⟨_, run_toStr ho9.sl, ?_⟩
    conv => whnf
    refine ⟨_, run_toStr (h.ext (x08.trans x9)), ?_⟩
    conv => whnf
    intro γ hγ
    have hγ2 : γ = true := by rw [str_eq hγ rfl rfl]; simp
    clear hγ
    subst hγ2
    conv => whnf
    refine Calls.ret (known23) ?_
    rintro _ w11 ⟨rfl, x11⟩
    conv => whnf
    exact ⟨rfl, (x08.trans x9).trans x11⟩
end Go.Proofs.Ytgipackjnncabaa

/- The law XferSenders, walked. -/
set_option linter.unusedVariables false
namespace Go.Proofs.Ytgipackjnncabaa
open Go.Vc Go.RowKit

theorem own_pre {α : Type} {T : TypeId} {f : α → Value} {B : Nat} {w : World} {a : Option Addr} {c : Nat} {xs ys : List α} (h : Own T f B w a c (xs ++ ys)) : Own T f B w a c xs := by
  obtain ⟨h1, h2⟩ := h
  refine ⟨by simp, ?_⟩
  rcases h2 with ⟨h2, h3⟩ | ⟨g, cap, cur, hv, hB, hh, hn, hcm, hs, ht⟩
  · rw [List.length_append] at h3
    injection h2 with e1 e2 e3
    have : xs.length = 0 := by omega
    exact .inl ⟨by rw [e1, e3, this], this⟩
  · injection hv with e1 e2 e3
    rw [List.length_append] at hn
    refine .inr ⟨g, cap, cur, by rw [e1, e3], hB, hh, by omega, hcm, hs, ?_⟩
    simp only [Nat.mul_one, List.map_append, List.length_append] at ht ⊢
    have h4 := congrArg (List.take xs.length) ht
    rw [List.take_take, Nat.min_eq_left (by omega), List.take_left' (by rw [List.length_map])] at h4
    exact h4

/-- an event: its cells, and what they read as -/
structure Ev where
  tick : Bool
  raw : Bool
  b : List (BitVec 8)
  p : Pk
  ba : Option Addr
  bc : Nat
  pa : Option Addr
  pc : Nat
def Ev.cells (e : Ev) : List Value := [.bool e.tick, .bool e.raw, .slice e.ba e.b.length e.bc] ++ e.p.cells e.pa e.pc
structure EvOk (w : World) (e : Ev) : Prop where
  b : Sl u8v w e.ba e.b
  bc : e.b.length ≤ e.bc
  p : Sl u8v w e.pa e.p.data
  pc : e.p.data.length ≤ e.pc
theorem EvOk.ext {w w' : World} {e : Ev} (h : EvOk w e) (x : Ext w w') : EvOk w' e := ⟨h.b.ext x, h.bc, h.p.ext x, h.pc⟩

def bytesE (e : Ev) : List (BitVec 8) := if e.raw = true then e.b.take 3000 else (packF e.p).1

theorem pack_len (p : Pk) : (packF p).1.length ≤ 3000 := by
  unfold packF
  split
  · rename_i h
    show (sealF (bodyF p)).length ≤ 3000
    rw [sealF_len]
    rcases canP_cases h with ⟨e, _⟩ | ⟨e, _, h2⟩ | ⟨e, _⟩
    · rw [e]; simp [bodyF, enc_len]
    · have : (bodyF p).length = 6 + p.data.length := by rw [e]; simp [bodyF, enc_len]; omega
      omega
    · rw [e]; simp [bodyF, enc_len]
  · exact Nat.zero_le _

theorem bytesE_len (e : Ev) : (bytesE e).length ≤ 3000 := by
  unfold bytesE
  split
  · rw [List.length_take]; omega
  · exact pack_len _

/-- bytes -/
theorem evBytes_calls {w : World} (e : Ev) (h : EvOk w e) :
    Calls Try.prog 76 #[.agg e.cells.toArray] w (Ret fun v w' => ∃ a c, v = .slice a (bytesE e).length c ∧ Sl u8v w' a (bytesE e) ∧ (bytesE e).length ≤ c ∧ Ext w w') := by
  refine calls_of_vc lok Try.func76 ?_ rfl
  conv => whnf
  intro w1 hw1
  have hb1 : Blk w1 w.heap.size 72 e.cells := by rw [hw1]; exact Blk.new w 72 _
  have x1 : Ext w w1 := by rw [hw1]; exact Ext.new _ _
  clear hw1
  conv => whnf
  refine ⟨_, hb1.cell (i := 1) rfl, ?_⟩
  conv => whnf
  refine vcCond_split lok rfl (fun h1 => ?_) (fun h1 => ?_)
  · have er : bytesE e = e.b.take 3000 := if_pos h1
    have el : (bytesE e).length = min 3000 e.b.length := by rw [er, List.length_take]
    conv => whnf
    refine ⟨_, hb1.cell (i := 2) rfl, ?_⟩
    conv => whnf
    refine ⟨_, hb1.cell (i := 2) rfl, ?_⟩
    conv => whnf
    have e5 : (if (3000 : Int) < (e.b.length : Int) then (3000 : Int) else (e.b.length : Int)) = ((bytesE e).length : Int) := by rw [el]; split <;> omega
    rw [e5]
    have hbc := h.bc
    refine ⟨⟨by omega, by omega⟩, ?_⟩
    rw [Int.toNat_natCast]
    conv => whnf
    exact ⟨e.ba, e.bc, rfl, by rw [er]; exact (h.b.ext x1).take 3000, by omega, x1⟩
  · have er : bytesE e = (packF e.p).1 := if_neg (by rw [h1]; exact Bool.false_ne_true)
    conv => whnf
    refine ⟨e.p.cells e.pa e.pc, rfl, hb1.cellsAt 3 _ (fun i v hv => by rw [← hv]; exact (List.getElem?_append_right (Nat.le_add_right 3 i)).trans (by show (e.p.cells e.pa e.pc)[3 + i - 3]? = _; rw [show 3 + i - 3 = i by omega])), ?_⟩
    conv => whnf
    refine Calls.ret (rpack_calls e.p (h.p.ext x1)) ?_
    rintro _ w2 ⟨a2, c2, rfl, ho2, x2⟩
    conv => whnf
    rw [er]
    exact ⟨a2, c2, rfl, ho2.sl, ho2.le.1, x1.trans x2⟩

section
variable {T B : Nat} {w w' : World} {b c : Nat} {a : Option Addr} {s : SS}
theorem SnAt.keep (h : SnAt T B w b a c s) {row : Option Nat} (g : Gr w w' row) (h1 : row ≠ some b) (h2 : ∀ x, blockOf a = some x → row ≠ some x) : SnAt T B w' b a c s :=
  ⟨h.blk.keep (g.block _ h.blk.lt (fun e => h1 e.symm)), g.keepOwn h.own h2, h.lo, h.ne⟩
end

theorem fit_ev {w : World} {es : List Value} (h : Fit w (.st (.pair 1 .bool (.pair 1 .bool (.pair 1 (.slice 1 (.int .u8)) (.pair 7 (.st (.pair 1 (.int .i64) (.pair 1 (.int .u32) (.pair 1 (.int .i64) (.pair 1 (.int .i64) (.pair 1 (.int .i64) (.pair 1 (.int .u32) (.pair 1 (.slice 1 (.int .u8)) .unit)))))))) .unit))))) es) :
    ∃ e : Ev, es = e.cells ∧ EvOk w e := by
  obtain ⟨c1, r1, e1, _, ⟨n1, h1⟩, c2, r2, e2, _, ⟨n2, h2⟩, c3, r3, e3, _, h3, c4, r4, e4, _, h4, h5⟩ := h
  have h5 : r4 = [] := h5
  obtain ⟨a, len, cap, hs, hl1, hl2, hl3⟩ := h3
  have g := fit_u8 (w := w) (a := a) (len := len) (cap := cap) ⟨a, len, cap, rfl, hl1, hl2, hl3⟩
  obtain ⟨bs, eb, sb, cb⟩ := g
  have g := fit_pk h4
  obtain ⟨p, pa, pc, ep, sp, cp⟩ := g
  refine ⟨⟨n1, n2, bs, p, a, cap, pa, pc⟩, ?_, sb, by show bs.length ≤ cap; omega, sp, cp⟩
  rw [e1, e2, e3, e4, h1, h2, hs, ep, h5, ← eb, List.append_nil]
  rfl

/-- an event comes to a sender -/
def evS (s : SS) (e : Ev) : SS × List (BitVec 8) := if e.tick = true then tickF s else recvF s (bytesE e)

theorem take_same (s : SS) (p : Pk) : (takeF s p).ver = s.ver ∧ (takeF s p).data = s.data ∧ (takeF s p).wait = s.wait := by
  unfold takeF
  split
  · exact ⟨rfl, rfl, rfl⟩
  · split <;> exact ⟨rfl, rfl, rfl⟩
theorem evS_same (s : SS) (e : Ev) (hw : s.wait ≤ 9223372036854775807 ) (h0 : 0 ≤ s.wait) : (evS s e).1.ver = s.ver ∧ (evS s e).1.data = s.data ∧ 0 ≤ (evS s e).1.wait ∧ (evS s e).1.wait ≤ 9223372036854775807 := by
  unfold evS
  split
  · unfold tickF
    split
    · exact ⟨rfl, rfl, h0, hw⟩
    · split
      · exact ⟨rfl, rfl, by show 0 ≤ s.wait - 1; omega, by show s.wait - 1 ≤ _; omega⟩
      · exact ⟨rfl, rfl, by show (0 : Int) ≤ 4; decide, by show (4 : Int) ≤ _; decide⟩
  · unfold recvF
    have g := take_same s (unpackF (bytesE e)).1
    split
    · exact ⟨rfl, rfl, h0, hw⟩
    · split
      · exact ⟨g.1, g.2.1, by show (0 : Int) ≤ 4; decide, by show (4 : Int) ≤ _; decide⟩
      · exact ⟨g.1, g.2.1, by rw [g.2.2]; exact h0, by rw [g.2.2]; exact hw⟩

theorem out_len (s : SS) : (outF s).length ≤ 3000 := by
  unfold outF
  split
  · exact pack_len _
  · exact Nat.zero_le _
theorem evS_len (s : SS) (e : Ev) : (evS s e).2.length ≤ 3000 := by
  unfold evS
  split
  · unfold tickF
    split
    · exact Nat.zero_le _
    · split
      · exact Nat.zero_le _
      · exact out_len _
  · unfold recvF
    split
    · exact Nat.zero_le _
    · split
      · exact out_len _
      · exact Nat.zero_le _

/-- both senders, apart -/
structure TwoS (B : Nat) (w : World) (b : Nat) (a : Option Addr) (c : Nat) (b' : Nat) (a' : Option Addr) (c' : Nat) (s : SS) : Prop where
  f : SnAt 190 B w b a c s
  r : SnAt 136 B w b' a' c' s
  n1 : b ≠ b'
  n2 : ∀ g, blockOf a = some g → g ≠ b'
  n3 : ∀ g, blockOf a' = some g → g ≠ b
theorem TwoS.ext {B : Nat} {w w' : World} {b c b' c' : Nat} {a a' : Option Addr} {s : SS} (h : TwoS B w b a c b' a' c' s) (x : Ext w w') : TwoS B w' b a c b' a' c' s := ⟨h.f.ext x, h.r.ext x, h.n1, h.n2, h.n3⟩
theorem TwoS.lt {B : Nat} {w : World} {b c b' c' : Nat} {a a' : Option Addr} {s : SS} (h : TwoS B w b a c b' a' c' s) : B ≤ b ∧ b < w.heap.size ∧ B ≤ b' ∧ b' < w.heap.size ∧ (∀ g, blockOf a = some g → g < w.heap.size) ∧ ∀ g, blockOf a' = some g → g < w.heap.size :=
  ⟨h.f.lo, h.f.blk.lt, h.r.lo, h.r.blk.lt, fun g hg => (h.f.own.ge g hg).2, fun g hg => (h.r.own.ge g hg).2⟩

set_option maxHeartbeats 2000000 in
theorem xferSenders_walk {w : World} (ver : BitVec 32) {a la : Option Addr} {c lc : Nat} {bs : List (BitVec 8)} {es : List Ev} (h : Sl u8v w a bs) (hc : bs.length ≤ c) (hl : SlN 10 Ev.cells w la es) (hok : ∀ e ∈ es, EvOk w e) :
    Calls Try.prog 27 #[.int .u32 ver.toNat, .slice a bs.length c, .slice la es.length lc] w (Law w) := by
  refine calls_of_vc lok Try.func27 ?_ rfl
  conv => whnf
  refine vcCond_split lok rfl (fun h1 => ?_) (fun h1 => ?_)
  · conv => whnf
    refine Calls.ret (known23) ?_
    rintro _ w1 ⟨rfl, x1⟩
    conv => whnf
    exact ⟨rfl, x1⟩
  have h1 := df h1
  conv => whnf
  refine Calls.ret (lent_calls h (by omega)) ?_
  rintro _ w1 ⟨a1, c1, rfl, ho1, x1⟩
  conv => whnf
  have hs1 : Sl u8v w1 a1 bs := by simpa using ho1.sl.take bs.length
  have hc1 : bs.length + 1 ≤ c1 := by simpa using ho1.le.1
  refine Calls.ret (newSender_calls ver hs1 (by omega)) ?_
  rintro _ w2 hp
  conv => whnf
  rcases hp with ⟨hbad, rfl, hw2⟩ | ⟨hgood, b, a2, c2, rfl, hs2, x2⟩
  · subst hw2
    conv => whnf
    have g3 := rnewSender_calls (w := w2) (c := c) ver (h.ext x1) (by omega)
    rw [if_pos hbad] at g3
    refine Calls.ret (g3) ?_
    rintro _ w3 ⟨b, a3, c3, rfl, hs3, x3⟩
    conv => whnf
    refine vcReg_go lok ?_
    conv => whnf
    refine Calls.ret (kept_calls (ho1.ext x3).sl (h.ext (x1.trans x3)) hc1 (by omega)) ?_
    rintro _ w4 ⟨rfl, hw4⟩
    conv => whnf
    subst hw4
    conv => whnf
    refine vcCond_false lok (rfl) ?_
    conv => whnf
    have z1 := x1.size
    have z3 := x3.size
    refine Calls.ret (spoil_calls (own_pre (ho1.ext x3)) (by omega) (by omega)) ?_
    rintro _ w5 ⟨rfl, g5⟩
    conv => whnf
    have x5 : Ext w w5 := g5.extOf (x1.trans x3) (fun g hg => (ho1.ge g hg).1)
    conv => whnf
    refine vcLoop_inv lok (σ := Unit) (fun _ => [(12, .int .i64 0), (8, .pointer none), (10, .pointer (some ⟨b, 0, none⟩)), (2, .slice la es.length lc)]) (fun _ w6 => w6 = w5) (fun _ => 0) () ⟨rfl, rfl, rfl, rfl, trivial⟩ rfl ?_
    rintro _ w6 hw6
    subst hw6
    conv => whnf
    refine vcReg_meet lok (fun β : Bool => [(62, .bool β)]) (fun β w' => w' = w6 ∧ β = false) [62] (fun _ => rfl) rfl ?_ ?_
    · conv => whnf
      refine bcase (fun _ => ?_) (fun _ => ?_)
      · conv => whnf
        exact ⟨_, ⟨rfl, trivial⟩, rfl, rfl⟩
      · conv => whnf
        exact ⟨_, ⟨rfl, trivial⟩, rfl, rfl⟩
    rintro β w7 ⟨hw7, hβ⟩
    subst hw7 hβ
    conv => whnf
    refine vcCond_false lok (rfl) ?_
    conv => whnf
    refine Calls.ret (known23) ?_
    rintro _ w8 ⟨rfl, x8⟩
    conv => whnf
    exact ⟨rfl, x5.trans x8⟩
  · conv => whnf
    have g3 := rnewSender_calls (w := w2) (c := c) ver (h.ext (x1.trans x2)) (by omega)
    rw [if_neg hgood] at g3
    refine Calls.ret (g3) ?_
    rintro _ w3 ⟨b', a3, c3, rfl, hs3, x3⟩
    conv => whnf
    have x13 := x2.trans x3
    refine vcReg_go lok ?_
    conv => whnf
    refine Calls.ret (kept_calls (ho1.ext x13).sl (h.ext (x1.trans x13)) hc1 (by omega)) ?_
    rintro _ w4 ⟨rfl, hw4⟩
    conv => whnf
    subst hw4
    conv => whnf
    refine vcCond_false lok (rfl) ?_
    conv => whnf
    have z1 := x1.size
    have z2 := x2.size
    have z3 := x3.size
    have q2 := hs2.blk.lt
    have q2' := hs2.lo
    have q3' := hs3.lo
    refine Calls.ret (spoil_calls (own_pre (ho1.ext x13)) (by omega) (by omega)) ?_
    rintro _ w5 ⟨rfl, g5⟩
    conv => whnf
    have x5 : Ext w w5 := g5.extOf (x1.trans x13) (fun g hg => (ho1.ge g hg).1)
    have qo : ∀ g, blockOf a1 = some g → g < w1.heap.size := fun g hg => (ho1.ge g hg).2
    have t5 : TwoS w.heap.size w5 b a2 c2 b' a3 c3 ⟨ver, bs, 0#32, false, false, 0⟩ :=
      ⟨((hs2.ext x3).base z1).keep g5 (fun e => by have := qo _ e; omega) (fun g hg e => by have := qo _ e; have := (hs2.own.ge g hg).1; omega),
       (hs3.base (by omega)).keep g5 (fun e => by have := qo _ e; omega) (fun g hg e => by have := qo _ e; have := (hs3.own.ge g hg).1; omega),
       by omega, fun g hg e => by have := (hs2.own.ge g hg).2; omega, fun g hg e => by have := (hs3.own.ge g hg).1; omega⟩
    have hv : ver ≠ 0#32 := fun e => hgood (.inl e)
    have hl2 : bs.length ≤ 2048 := by
      rcases Nat.lt_or_ge 2048 bs.length with e | e
      · exact absurd (.inr (.inr e)) hgood
      · exact e
    conv => whnf
    refine vcLoop_inv lok (σ := Nat × SS) (fun ⟨i, s⟩ => [(12, .int .i64 i), (8, .pointer (some ⟨b, 0, none⟩)), (10, .pointer (some ⟨b', 0, none⟩)), (2, .slice la es.length lc)])
      (fun ⟨i, s⟩ w6 => i ≤ es.length ∧ TwoS w.heap.size w6 b a2 c2 b' a3 c3 s ∧ s.ver = ver ∧ s.data = bs ∧ (0 ≤ s.wait ∧ s.wait ≤ 9223372036854775807) ∧ Ext w w6) (fun t => es.length - t.1)
      (0, ⟨ver, bs, 0#32, false, false, 0⟩) ⟨rfl, rfl, rfl, rfl, trivial⟩ ⟨Nat.zero_le _, t5, rfl, rfl, ⟨by show (0 : Int) ≤ 0; decide, by show (0 : Int) ≤ _; decide⟩, x5⟩ ?_
    rintro ⟨i, s⟩ w6 ⟨hi, t6, hsv, hsd, ⟨hw0, hw1⟩, x6⟩
    conv => whnf
    refine vcReg_meet lok (fun β : Bool => [(62, .bool β)]) (fun β w' => w' = w6 ∧ β = decide (i < es.length ∧ i < 60)) [62] (fun _ => rfl) rfl ?_ ?_
    · conv => whnf
      refine bcase (fun h1 => ?_) (fun h1 => ?_)
      · have h1 := dt h1
        conv => whnf
        refine bcase (fun h2 => ?_) (fun h2 => ?_)
        · have h2 := dt h2
          conv => whnf
          exact ⟨_, ⟨rfl, trivial⟩, rfl, by rw [eq_comm, decide_eq_true_iff]; omega⟩
        · have h2 := df h2
          conv => whnf
          refine ⟨false, ⟨?_, trivial⟩, rfl, by rw [eq_comm, decide_eq_false_iff_not]; omega⟩
          rfl
      · have h1 := df h1
        conv => whnf
        exact ⟨_, ⟨rfl, trivial⟩, rfl, by rw [eq_comm, decide_eq_false_iff_not]; omega⟩
    rintro β w7 ⟨hw7, hβ⟩
    subst hw7
    conv => whnf
    refine vcCond_split lok rfl (fun h1 => ?_) (fun h1 => ?_)
    rotate_left
    · rw [h1] at hβ
      conv => whnf
      refine Calls.ret (known23) ?_
      rintro _ w8 ⟨rfl, x8⟩
      conv => whnf
      exact ⟨rfl, x6.trans x8⟩
    rw [h1] at hβ
    have hlt := dt hβ.symm
    have hix : i < es.length := hlt.1
    have he := (hok es[i] (List.getElem_mem hix)).ext x6
    conv => whnf
    have g7 := (hl.ext x6).at i hix
    have hmem := List.getElem_mem hix
    generalize hei : es[i] = e at *
    obtain ⟨lp, lo, ela, hcell⟩ := g7
    refine ⟨lp, lo, ela, ⟨by omega, by omega⟩, ?_⟩
    conv => whnf
    refine ⟨_, hcell 0 _ rfl, ?_⟩
    conv => whnf
    have k6 := t6.lt
    obtain ⟨k1, k2, k3, k4, k5, k7⟩ := k6
    have n1 := t6.n1
    have hsl : s.data.length ≤ 2048 := by rw [hsd]; exact hl2
    have hsn : s.ver ≠ 0#32 := by rw [hsv]; exact hv
    refine vcCond_meet (fun t : Option Addr × Nat × Option Addr × Nat => [(13, .slice t.1 (evS s e).2.length t.2.1), (14, .slice t.2.2.1 (evS s e).2.length t.2.2.2), (12, .int .i64 i), (8, .pointer (some ⟨b, 0, none⟩)), (10, .pointer (some ⟨b', 0, none⟩)), (2, .slice la es.length lc)])
      (fun t w8 => Own 5 u8v w7.heap.size w8 t.1 t.2.1 (evS s e).2 ∧ Sl u8v w8 t.2.2.1 (evS s e).2 ∧ w7.heap.size ≤ w8.heap.size ∧ TwoS w.heap.size w8 b a2 c2 b' a3 c3 (evS s e).1 ∧ Ext w w8) ?_ ?_
    · refine vcCond_split lok rfl (fun h2 => ?_) (fun h2 => ?_)
      · have ee : evS s e = tickF s := if_pos h2
        rw [ee]
        conv => whnf
        refine Calls.ret (tick_calls t6.f hsl hw1) ?_
        rintro _ w8 ⟨a8, c8, rfl, ho8, hf8, g8⟩
        conv => whnf
        have r8 := t6.r.keep g8 (fun q => by have q' := Option.some.inj q; omega) (fun g hg q => t6.n3 g hg (Option.some.inj q).symm)
        refine Calls.ret (rtick_calls r8 hsl hw1 hsn) ?_
        rintro _ w9 ⟨a9, c9, rfl, ho9, hr9, g9⟩
        conv => whnf
        exact ⟨(a8, c8, a9, c9), ⟨rfl, rfl, rfl, rfl, rfl, rfl, trivial⟩, g9.keepOwn ho8 (fun g hg q => by have q' := Option.some.inj q; have := (ho8.ge g hg).1; omega), ho9.sl, Nat.le_trans g8.size g9.size,
          ⟨hf8.keep g9 (fun q => by have q' := Option.some.inj q; omega) (fun g hg q => t6.n2 g hg (Option.some.inj q).symm), hr9, t6.n1, t6.n2, t6.n3⟩,
          g9.extOf (g8.extOf x6 (fun g hg => by cases hg; exact k1)) (fun g hg => by cases hg; exact k3)⟩
      · have ee : evS s e = recvF s (bytesE e) := if_neg (by rw [h2]; exact Bool.false_ne_true)
        rw [ee]
        have hbl := bytesE_len e
        conv => whnf
        refine ⟨lp, lo, ela, ⟨by omega, by omega⟩, ?_⟩
        conv => whnf
        refine ⟨e.cells, rfl, hcell, ?_⟩
        conv => whnf
        refine Calls.ret (evBytes_calls e he) ?_
        rintro _ w8 ⟨a8, c8, rfl, hs8, hc8, x8⟩
        conv => whnf
        have t8 := t6.ext x8
        have z8 := x8.size
        refine Calls.ret (recv_calls t8.f hsl hsn hs8 (by omega) hc8) ?_
        rintro _ w9 ⟨a9, c9, rfl, ho9, hf9, g9⟩
        conv => whnf
        have x9 : Ext w w9 := g9.extOf (x6.trans x8) (fun g hg => by cases hg; exact k1)
        have r9 := t8.r.keep g9 (fun q => by have q' := Option.some.inj q; omega) (fun g hg q => t6.n3 g hg (Option.some.inj q).symm)
        have z9 := g9.size
        refine ⟨lp, lo, ela, ⟨by omega, by omega⟩, ?_⟩
        conv => whnf
        have he9 := (hok e hmem).ext x9
        have hcell9 : CellsAt w9 lp (lo + i * 10) e.cells := by
          have g7 := (hl.ext x9).at i hix
          rw [hei] at g7
          obtain ⟨lp', lo', ela', hc'⟩ := g7
          rw [ela] at ela'
          cases ela'
          exact hc'
        refine ⟨e.cells, rfl, hcell9, ?_⟩
        conv => whnf
        refine Calls.ret (evBytes_calls e he9) ?_
        rintro _ w10 ⟨a10, c10, rfl, hs10, hc10, x10⟩
        conv => whnf
        have z10 := x10.size
        refine Calls.ret (rrecv_calls (r9.ext x10) hsl hs10 (by omega) hc10) ?_
        rintro _ w11 ⟨a11, c11, rfl, ho11, hr11, g11⟩
        conv => whnf
        exact ⟨(a9, c9, a11, c11), ⟨rfl, rfl, rfl, rfl, rfl, rfl, trivial⟩, (g11.keepOwn (ho9.ext x10) (fun g hg q => by have q' := Option.some.inj q; have := (ho9.ge g hg).1; omega)).base z8, ho11.sl, Nat.le_trans (Nat.le_trans z8 z9) (Nat.le_trans z10 g11.size),
          ⟨(hf9.ext x10).keep g11 (fun q => by have q' := Option.some.inj q; omega) (fun g hg q => t6.n2 g hg (Option.some.inj q).symm), hr11, t6.n1, t6.n2, t6.n3⟩,
          g11.extOf (x9.trans x10) (fun g hg => by cases hg; exact k3)⟩
    rintro ⟨a8, c8, a9, c9⟩ w8 ⟨ho8, hs9, hz78, t8, x8⟩
    have ho8 : Own 5 u8v w7.heap.size w8 a8 c8 (evS s e).2 := ho8
    have hs9 : Sl u8v w8 a9 (evS s e).2 := hs9
    have hsm := evS_same s e hw1 hw0
    have hel := evS_len s e
    obtain ⟨m1, m2, m3, m4⟩ := hsm
    have z6 := x6.size
    have k6 := t8.lt
    generalize hq : evS s e = q at *
    obtain ⟨t, out⟩ := q
    simp only at ho8 hs9 t8 m1 m2 m3 m4 hel
    conv => whnf
    refine vcDraw_meet lok mixed (Ext w8) [7] [0, 1, 2, 3, 4, 5, 6, 8, 9, 10, 11, 7, 12, 13]
      (fun _ : Unit => [(101, .bool false)]) (fun _ w' => Ext w8 w') [101] (fun _ => rfl) rfl (by kernel_rfl) (fun w9 hw9 => ⟨hw9 ▸ Ext.drew w8, ?_⟩) ?_
    · have x9 : Ext w8 w9 := hw9 ▸ Ext.drew w8
      conv => whnf
      refine ⟨_, fun w' hw' => run_toStr (ho8.sl.ext hw'), ?_⟩
      conv => whnf
      refine ⟨_, fun w' hw' => run_toStr (hs9.ext hw'), ?_⟩
      conv => whnf
      intro γ hγ
      have hγ2 : γ = true := by rw [str_eq hγ rfl rfl]; simp
      clear hγ
      subst hγ2
      conv => whnf
      refine ⟨_, fun w' hw' => (t8.r.ext hw').blk.cell (i := 4) rfl, ?_⟩
      conv => whnf
      refine Calls.ret (done_calls (t8.f.ext x9)) ?_
      rintro _ w10 ⟨rfl, hw10⟩
      conv => whnf
      subst hw10
      refine ⟨_, fun _ h => h, x9, ?_⟩
      conv => whnf
      refine ⟨(), ⟨?_, trivial⟩, x9⟩
      cases t.done <;> rfl
    rintro _ w9 x9
    conv => whnf
    refine vcCond_false lok (rfl) ?_
    conv => whnf
    have z8 := x8.size
    have z9 := x9.size
    have z78 : w7.heap.size ≤ w8.heap.size := hz78
    refine Calls.ret (spoil_calls (bs := out) (ho8.ext x9) (by omega) (by omega)) ?_
    rintro _ w10 ⟨rfl, g10⟩
    conv => whnf
    obtain ⟨j1, j2, j3, j4, j5, j6⟩ := k6
    have qo : ∀ g, blockOf a8 = some g → w7.heap.size ≤ g := fun g hg => (ho8.ge g hg).1
    have t9 := t8.ext x9
    conv => whnf
    refine ⟨by omega, ?_⟩
    conv => whnf
    refine ⟨(i + 1, t), ⟨rfl, rfl, rfl, rfl, trivial⟩, ⟨by omega, ⟨t9.f.keep g10 (fun q => by have := qo _ q; omega) (fun g hg q => by have := qo _ q; have := k5 g hg; omega), t9.r.keep g10 (fun q => by have := qo _ q; omega) (fun g hg q => by have := qo _ q; have := k7 g hg; omega), t6.n1, t6.n2, t6.n3⟩, m1.trans hsv, m2.trans hsd, ⟨m3, m4⟩, g10.extOf (x8.trans x9) (fun g hg => by have := qo _ hg; omega)⟩, by omega⟩
end Go.Proofs.Ytgipackjnncabaa

/- Layer 22: the fixed calls; the law SlotsNil, walked. -/
set_option linter.unusedVariables false
namespace Go.Proofs.Ytgipackjnncabaa
open Go.Vc Go.RowKit

theorem fit_cap {w : World} {m : Nat} {s : Sh} {a : Option Addr} {len cap : Nat} (h : Fit w (.slice m s) [.slice a len cap]) : len ≤ 9223372036854775807 := by
  obtain ⟨a', l', c', h1, h2, h3, _⟩ := h
  simp only [List.cons.injEq, Value.slice.injEq, and_true] at h1
  obtain ⟨_, rfl, rfl⟩ := h1
  exact Nat.le_trans h2 (Nat.le_trans h3 (by decide))
/-! ### slots that are not there -/
section
variable {w : World} {P : Option Addr}
/-- there are none -/
def NoSl (P : Option Addr) (w : World) : Prop := ∀ slot, Calls Try.prog 171 #[.pointer P, .int .i64 slot] w (Ret fun v w' => v = .int .i64 26 ∧ w' = w)
theorem noSl_nil (w : World) : NoSl none w := by
  intro slot
  refine calls_of_vc lok Try.func171 ?_ rfl
  conv => whnf
  refine vcReg_go lok ?_
  conv => whnf
  refine vcCond_true lok (rfl) ?_
  conv => whnf
  exact ⟨rfl, rfl⟩
theorem noSl_zero {sb : Nat} {cs : List Value} (hb : Blk w sb 162 cs) (h0 : cs[0]? = some (.pointer none)) : NoSl (some ⟨sb, 0, none⟩) w := by
  intro slot
  refine calls_of_vc lok Try.func171 ?_ rfl
  conv => whnf
  refine vcReg_go lok ?_
  conv => whnf
  refine ⟨_, hb.cell (i := 0) h0, ?_⟩
  conv => whnf
  refine vcCond_true lok (rfl) ?_
  conv => whnf
  exact ⟨rfl, rfl⟩
theorem nhead_calls (h : NoSl P w) (slot : Int) : Calls Try.prog 128 #[.pointer P, .int .i64 slot] w (Ret fun v w' => v = .tuple #[.int .u32 0, .int .i64 0, .bool false] ∧ w' = w) := by
  refine calls_of_vc lok Try.func128 ?_ rfl
  conv => whnf
  refine vcReg_go lok ?_
  conv => whnf
  refine Calls.ret (h slot) ?_
  rintro _ w1 ⟨rfl, rfl⟩
  conv => whnf
  refine vcCond_true lok (rfl) ?_
  conv => whnf
  exact ⟨rfl, rfl⟩
theorem nhave_calls (h : NoSl P w) (slot : Int) : Calls Try.prog 127 #[.pointer P, .int .i64 slot] w (Ret fun v w' => v = .tuple #[.int .u32 0, .bool false] ∧ w' = w) := by
  refine calls_of_vc lok Try.func127 ?_ rfl
  conv => whnf
  refine Calls.ret (nhead_calls h slot) ?_
  rintro _ w1 ⟨rfl, rfl⟩
  conv => whnf
  refine vcCond_true lok (rfl) ?_
  conv => whnf
  exact ⟨rfl, rfl⟩
theorem nsealed_calls (h : NoSl P w) (slot : Int) : Calls Try.prog 130 #[.pointer P, .int .i64 slot] w (Ret fun v w' => v = .bool false ∧ w' = w) := by
  refine calls_of_vc lok Try.func130 ?_ rfl
  conv => whnf
  refine Calls.ret (nhave_calls h slot) ?_
  rintro _ w1 ⟨rfl, rfl⟩
  conv => whnf
  refine vcReg_go lok ?_
  conv => whnf
  exact ⟨rfl, rfl⟩
theorem nwhole_calls (h : NoSl P w) (slot : Int) : Calls Try.prog 150 #[.pointer P, .int .i64 slot] w (Ret fun v w' => v = .tuple #[.int .i64 0, .int .i64 26] ∧ w' = w) := by
  refine calls_of_vc lok Try.func150 ?_ rfl
  conv => whnf
  refine Calls.ret (h slot) ?_
  rintro _ w1 ⟨rfl, rfl⟩
  conv => whnf
  refine vcCond_true lok (rfl) ?_
  conv => whnf
  exact ⟨rfl, rfl⟩
theorem nbytes_calls (h : NoSl P w) (slot : Int) : Calls Try.prog 89 #[.pointer P, .int .i64 slot] w (Ret fun v w' => v = .tuple #[.slice none 0 0, .int .i64 26] ∧ w' = w) := by
  refine calls_of_vc lok Try.func89 ?_ rfl
  conv => whnf
  refine Calls.ret (nwhole_calls h slot) ?_
  rintro _ w1 ⟨rfl, rfl⟩
  conv => whnf
  refine vcCond_true lok (rfl) ?_
  conv => whnf
  exact ⟨rfl, rfl⟩
theorem nseal_calls (h : NoSl P w) (slot : Int) : Calls Try.prog 129 #[.pointer P, .int .i64 slot] w (Ret fun v w' => v = .int .i64 26 ∧ w' = w) := by
  refine calls_of_vc lok Try.func129 ?_ rfl
  conv => whnf
  refine Calls.ret (nwhole_calls h slot) ?_
  rintro _ w1 ⟨rfl, rfl⟩
  conv => whnf
  refine vcCond_true lok (rfl) ?_
  conv => whnf
  exact ⟨rfl, rfl⟩
theorem ndrop_calls (h : NoSl P w) (slot : Int) : Calls Try.prog 132 #[.pointer P, .int .i64 slot] w (Ret fun v w' => v = .int .i64 26 ∧ w' = w) := by
  refine calls_of_vc lok Try.func132 ?_ rfl
  conv => whnf
  refine Calls.ret (h slot) ?_
  rintro _ w1 ⟨rfl, rfl⟩
  conv => whnf
  refine vcCond_true lok (rfl) ?_
  conv => whnf
  exact ⟨rfl, rfl⟩
theorem nbegin_calls (h : NoSl P w) (slot : Int) (v n : Int) : Calls Try.prog 124 #[.pointer P, .int .i64 slot, .int .u32 v, .int .i64 n] w (Ret fun v w' => v = .int .i64 26 ∧ w' = w) := by
  refine calls_of_vc lok Try.func124 ?_ rfl
  conv => whnf
  refine Calls.ret (h slot) ?_
  rintro _ w1 ⟨rfl, rfl⟩
  conv => whnf
  refine vcCond_true lok (rfl) ?_
  conv => whnf
  exact ⟨rfl, rfl⟩
theorem nwrite_calls (h : NoSl P w) (slot n : Int) {a : Option Addr} {k c : Nat} : Calls Try.prog 125 #[.pointer P, .int .i64 slot, .int .i64 n, .slice a k c] w (Ret fun v w' => v = .int .i64 26 ∧ w' = w) := by
  refine calls_of_vc lok Try.func125 ?_ rfl
  conv => whnf
  refine Calls.ret (h slot) ?_
  rintro _ w1 ⟨rfl, rfl⟩
  conv => whnf
  refine vcCond_true lok (rfl) ?_
  conv => whnf
  exact ⟨rfl, rfl⟩
theorem nsopen_calls (n : Int) : Calls Try.prog 72 #[.pointer none, .int .i64 n] w (Ret fun v w' => v = .tuple #[.pointer none, .int .i64 26] ∧ w' = w) := by
  refine calls_of_vc lok Try.func72 ?_ rfl
  conv => whnf
  refine vcCond_true lok (rfl) ?_
  conv => whnf
  exact ⟨rfl, rfl⟩
end

/-! ### the fixed calls -/
def k22S : FS := newFS (List.replicate (256 * (6 : Int).toNat) ones)

set_option maxHeartbeats 4000000 in
theorem known22 {w : World} : Calls Try.prog 131 #[] w (Ret fun v w' => v = .bool true ∧ Ext w w') := by
  have l0 : k22S.ws.length = 1536 := List.length_replicate
  have n0 : Num k22S 1536 0 := ⟨l0, ⟨Int.le_refl _, Int.le_refl _⟩, by show (-1 : Int) ≤ _; decide⟩
  have hpl := k22_plain (s := k22S) rfl (by show (-1 : Int) < 0; decide) l0
  refine calls_of_vc (args := []) lok Try.func131 ?_ rfl
  conv => whnf
  refine Calls.ret (new_calls 6) ?_
  rintro _ w1 hp
  conv => whnf
  rcases hp with ⟨hno, _, _⟩ | ⟨_, g, gw, c, rfl, h1, x1⟩
  · exact absurd hno (by decide)
  replace h1 : FlAt 181 w.heap.size w1 g gw c k22S := h1
  generalize k22S = s0 at *
  obtain ⟨s1, s2, e1, e2, e3, e4, e5⟩ := hpl
  have n1 := begin_num (at_ := 0) (slot := 0) (v := 7#32) (m := 70) n0
  rw [e1] at n1
  have n1 : Num s1 1536 17 := n1
  have n2 := write_num (at_ := 0) (slot := 0) (chunk := 1) (b := [97#8, 98#8, 99#8, 100#8, 101#8, 102#8]) n1
  rw [e2] at n2
  have n2 : Num s2 1536 34 := n2
  have l1 := n1.len
  have l2 := n2.len
  conv => whnf
  refine Calls.ret (sopen_calls h1 (by omega) 0) ?_
  rintro _ w2 hp
  conv => whnf
  rcases hp with ⟨hno, _, _⟩ | ⟨m, hm, _, sb, rfl, hsb, S2, x2⟩
  · exact absurd ⟨by decide, by rw [l0]; decide⟩ hno
  have hm0 : m = 0 := by omega
  subst hm0
  clear hm
  have h1lo := h1.lo
  have h1lt := h1.lt
  have z1 := x1.size
  conv => whnf
  refine vcReg_go lok ?_
  conv => whnf
  refine vcCond_false lok (rfl) ?_
  conv => whnf
  have g3 := sbegin_calls S2 0 7#32 70 (by rw [l0]; exact n0) (by decide)
  rw [e1] at g3
  refine Calls.ret (g3) ?_
  rintro _ w3 ⟨rfl, S3, m3⟩
  conv => whnf
  replace S3 : SlAt w.heap.size w3 sb g gw c 0 s1 := S3
  have x3 := FlMod.above m3 (x1.trans x2) h1lo h1lt.2.2
  have g4 := run_buildN (P := Try.prog) (t := 22) (e := 5) e8.toElem [u8v 97#8, u8v 98#8, u8v 99#8, u8v 100#8, u8v 101#8, u8v 102#8] (by simp [u8v, Value.oneCell']) (by simp) w3
  refine ⟨_, _, g4, ?_⟩
  conv => whnf
  have g5 := run_convLit und22 und5 [97#8, 98#8, 99#8, 100#8, 101#8, 102#8] w3 6 6
  obtain ⟨w5, hr5, hs5, x5⟩ := g5
  refine ⟨_, _, hr5, ?_⟩
  conv => whnf
  have g6 := swrite_calls (bc := 6) (S3.ext x5) 0 1 hs5 (by decide) (by rw [l1]; exact n1) (by decide)
  rw [e2] at g6
  refine Calls.ret (g6) ?_
  rintro _ w6 ⟨rfl, S6, m6⟩
  conv => whnf
  replace S6 : SlAt w.heap.size w6 sb g gw c 0 s2 := S6
  have x6 := FlMod.above m6 (x3.trans x5) h1lo h1lt.2.2
  have g7 := shave_calls S6 0
  rw [e3] at g7
  refine Calls.ret (g7) ?_
  rintro _ w7 ⟨rfl, x7⟩
  conv => whnf
  have g8 := sbytes_calls (S6.ext x7) 0
  rw [e4] at g8
  refine Calls.ret (g8) ?_
  rintro _ w8 ⟨a8, c8, rfl, _, x8⟩
  conv => whnf
  have x78 := x7.trans x8
  have g9 := swrite_calls (bc := 0) (ba := none) (b := []) (S6.ext x78) 0 2 (Sl.nil _ _ _) (by decide) (by rw [l2]; exact n2) (by decide)
  rw [e5] at g9
  refine vcReg_go lok ?_
  conv => whnf
  refine Calls.ret (g9) ?_
  rintro _ w9 ⟨rfl, S9, m9⟩
  conv => whnf
  exact ⟨rfl, FlMod.above m9 (x6.trans x78) h1lo h1lt.2.2⟩

set_option maxHeartbeats 4000000 in
theorem slotsNil_walk {w : World} (slot n : Int) {a : Option Addr} {k c : Nat} : Calls Try.prog 34 #[.int .i64 slot, .int .i64 n, .slice a k c] w (Law w) := by
  refine calls_of_vc lok Try.func34 ?_ rfl
  conv => whnf
  refine vcCond_split lok rfl (fun h1 => ?_) (fun h1 => ?_)
  · conv => whnf
    refine Calls.ret (known22) ?_
    rintro _ w1 ⟨rfl, x1⟩
    conv => whnf
    exact ⟨rfl, x1⟩
  clear h1
  conv => whnf
  refine Calls.ret (nsopen_calls n) ?_
  rintro _ w1 ⟨rfl, rfl⟩
  conv => whnf
  have hn := noSl_nil w1
  refine Calls.ret (nhead_calls hn slot) ?_
  rintro _ w2 ⟨rfl, hw2⟩
  conv => whnf
  subst hw2
  refine Calls.ret (nhave_calls hn slot) ?_
  rintro _ w3 ⟨rfl, hw3⟩
  conv => whnf
  subst hw3
  refine Calls.ret (nbytes_calls hn slot) ?_
  rintro _ w4 ⟨rfl, hw4⟩
  conv => whnf
  subst hw4
  refine ⟨_, fun w => run_build w 162 _ _ (show Try.prog.built 162 [] = some #[.pointer none, .int .i64 0] by kernel_rfl), ?_⟩
  conv => whnf
  intro w5 hw5
  have hb : Blk w5 w4.heap.size 162 [.pointer none, .int .i64 0] := by rw [hw5]; exact Blk.new w4 162 _
  have x5 : Ext w4 w5 := by rw [hw5]; exact Ext.new _ _
  clear hw5
  have hz := noSl_zero hb rfl
  have hn := noSl_nil w5
  conv => whnf
  refine vcReg_go lok ?_
  conv => whnf
  refine Calls.ret (nbegin_calls hn slot 1 n) ?_
  rintro _ w6 ⟨rfl, hw6⟩
  conv => whnf
  subst hw6
  refine Calls.ret (nwrite_calls hn slot n) ?_
  rintro _ w7 ⟨rfl, hw7⟩
  conv => whnf
  subst hw7
  refine Calls.ret (nseal_calls hn slot) ?_
  rintro _ w8 ⟨rfl, hw8⟩
  conv => whnf
  subst hw8
  refine Calls.ret (ndrop_calls hn slot) ?_
  rintro _ w9 ⟨rfl, hw9⟩
  conv => whnf
  subst hw9
  refine Calls.ret (nsealed_calls hn slot) ?_
  rintro _ w10 ⟨rfl, hw10⟩
  conv => whnf
  subst hw10
  refine Calls.ret (ndrop_calls hz slot) ?_
  rintro _ w11 ⟨rfl, hw11⟩
  conv => whnf
  subst hw11
  refine Calls.ret (nsealed_calls hz slot) ?_
  rintro _ w12 ⟨rfl, hw12⟩
  conv => whnf
  subst hw12
  refine Calls.ret (known22) ?_
  rintro _ w13 ⟨rfl, x13⟩
  conv => whnf
  exact ⟨rfl, x5.trans x13⟩
end Go.Proofs.Ytgipackjnncabaa

/- Layer 22: images and their chunks; the law SlotsBack, walked. -/
set_option linter.unusedVariables false
namespace Go.Proofs.Ytgipackjnncabaa
open Go.Vc Go.RowKit

theorem wf_u16 {n : Int} (h : (Lit.int .u16 n).wf = true) : ∃ m : Nat, n = m ∧ m ≤ 65535 := by
  obtain ⟨h1, h2⟩ := wf_le h
  simp [IntKind.min, IntKind.max, IntKind.signed, IntKind.bits] at h1 h2
  exact ⟨n.toNat, by omega, by omega⟩
theorem rem_nat (n m : Nat) : ((n : Int)).tmod (m : Int) = ((n % m : Nat) : Int) := by rw [Int.ofNat_tmod]
theorem quo_nat (n m : Nat) : ((n : Int)).tdiv (m : Int) = ((n / m : Nat) : Int) := by rw [Int.ofNat_tdiv]
theorem run_byte (w : World) (x : BitVec 8) : ∃ w', (Instr.buildSlice 22 1 #[(0, u8v x)]).run Try.prog w = .ok (.slice (some ⟨w.heap.size, 0, none⟩) 1 1) w' ∧ Sl u8v w' (some ⟨w.heap.size, 0, none⟩) [x] ∧ Ext w w' := by
  have g := run_buildN (P := Try.prog) (t := 22) (e := 5) e8.toElem [u8v x] (by simp [u8v, Value.oneCell']) (by simp) w
  exact ⟨_, g, Sl.lit (f := u8v) [x] w, Ext.new _ _⟩

/-- Long (the reference's) -/
theorem rlong_calls {w : World} (m : Nat) (hm : m ≤ 2048) (k : Int) (hk : -9223372036854775808 ≤ k ∧ k ≤ 9223372036854775807) :
    Calls Try.prog 176 #[.int .i64 m, .int .i64 k] w (Ret fun v w' => v = .int .i64 (if 0 ≤ k ∧ k < 32 ∧ 64 * k < m then (lenC m k.toNat : Int) else 0) ∧ w' = w) := by
  refine calls_of_vc lok Try.func176 ?_ rfl
  conv => whnf
  refine vcReg_meet lok (fun β : Bool => [(16, .bool β)]) (fun β w' => w' = w ∧ β = !decide (0 ≤ k ∧ k < 32 ∧ 64 * k < m)) [16] (fun _ => rfl) rfl ?_ ?_
  · conv => whnf
    refine bcase (fun h1 => ?_) (fun h1 => ?_)
    · have h1 := dt h1
      conv => whnf
      exact ⟨_, ⟨rfl, trivial⟩, rfl, by rw [decide_eq_false (by omega)]; rfl⟩
    have h1 := df h1
    conv => whnf
    refine bcase (fun h2 => ?_) (fun h2 => ?_)
    · have h2 := dt h2
      conv => whnf
      exact ⟨_, ⟨rfl, trivial⟩, rfl, by rw [decide_eq_false (by omega)]; rfl⟩
    have h2 := df h2
    conv => whnf
    refine ⟨by omega, ?_⟩
    conv => whnf
    refine ⟨_, ⟨rfl, trivial⟩, rfl, ?_⟩
    by_cases h3 : 64 * k < m
    · rw [decide_eq_false (by omega), decide_eq_true ⟨by omega, by omega, h3⟩]; rfl
    · rw [decide_eq_true (by omega), decide_eq_false (fun q => h3 q.2.2)]; rfl
  rintro β w1 ⟨hw1, hβ⟩
  subst hw1
  conv => whnf
  refine vcCond_split lok rfl (fun h1 => ?_) (fun h1 => ?_)
  · rw [h1] at hβ
    have hn : ¬ (0 ≤ k ∧ k < 32 ∧ 64 * k < m) := fun q => by rw [decide_eq_true q] at hβ; cases hβ
    rw [if_neg hn]
    conv => whnf
    exact ⟨rfl, rfl⟩
  rw [h1] at hβ
  have hy : 0 ≤ k ∧ k < 32 ∧ 64 * k < m := by
    by_cases q : 0 ≤ k ∧ k < 32 ∧ 64 * k < m
    · exact q
    · rw [decide_eq_false q] at hβ; cases hβ
  rw [if_pos hy]
  conv => whnf
  refine ⟨by omega, ?_⟩
  conv => whnf
  refine ⟨by omega, ?_⟩
  conv => whnf
  refine vcCond_split lok rfl (fun h2 => ?_) (fun h2 => ?_)
  · have h2 := dt h2
    conv => whnf
    refine ⟨by omega, ?_⟩
    conv => whnf
    refine ⟨by omega, ?_⟩
    conv => whnf
    refine ⟨?_, rfl⟩
    congr 1
    unfold lenC
    omega
  · have h2 := df h2
    conv => whnf
    refine ⟨?_, rfl⟩
    congr 1
    unfold lenC
    omega

/-- chunk -/
theorem lchunk_calls {w : World} {a : Option Addr} {c : Nat} {xs : List (BitVec 8)} (h : Sl u8v w a xs) (hl : xs.length ≤ 2048) (hc : xs.length ≤ c) (hcm : c ≤ 9223372036854775807) (k : Nat) (hk : 64 * k < xs.length) :
    Calls Try.prog 126 #[.slice a xs.length c, .int .i64 k] w (Ret fun v w' => ∃ a' c', v = .slice a' (chunkF xs k).length c' ∧ Sl u8v w' a' (chunkF xs k) ∧ w' = w) := by
  have hcl := chunkF_len xs k
  have hlc : lenC xs.length k ≤ 64 ∧ 64 * k + lenC xs.length k ≤ xs.length := by unfold lenC; omega
  refine calls_of_vc lok Try.func126 ?_ rfl
  conv => whnf
  refine ⟨by omega, ?_⟩
  conv => whnf
  refine ⟨by omega, ?_⟩
  conv => whnf
  refine Calls.ret (rlong_calls xs.length hl k (by omega)) ?_
  rintro _ w1 ⟨rfl, hw1⟩
  conv => whnf
  subst hw1
  rw [if_pos (by omega), Int.toNat_natCast]
  refine ⟨by omega, ?_⟩
  conv => whnf
  refine ⟨⟨by omega, by omega, by omega⟩, ?_⟩
  intro b hb
  have e1 : (64 * (k : Int)).toNat = 64 * k := by omega
  have e2 : (64 * (k : Int) + (lenC xs.length k : Int)).toNat - (64 * (k : Int)).toNat = (chunkF xs k).length := by omega
  have hsl := Sl.mid h (64 * k) (64 * k + lenC xs.length k) c (by omega) (by omega) hc
  have e3 : (xs.drop (64 * k)).take (64 * k + lenC xs.length k - 64 * k) = chunkF xs k := by
    unfold chunkF lenC
    rw [show 64 * k + min 64 (xs.length - 64 * k) - 64 * k = min 64 (xs.length - 64 * k) by omega]
    by_cases q : 64 ≤ xs.length - 64 * k
    · rw [Nat.min_eq_left q]
    · rw [Nat.min_eq_right (by omega), List.take_of_length_le (by rw [List.length_drop]; omega), List.take_of_length_le (by rw [List.length_drop]; omega)]
  rw [e3] at hsl
  rw [e1] at hb
  rw [← hb] at hsl
  rw [e2]
  exact ⟨b, _, rfl, hsl, rfl⟩

set_option maxHeartbeats 1000000 in
/-- image -/
theorem image_calls {w : World} {a : Option Addr} {c : Nat} {bs : List (BitVec 8)} (h : Sl u8v w a bs) (hl : bs.length ≤ 9223372036854775807) (n : Nat) (hn : n ≤ 2048) :
    Calls Try.prog 123 #[.slice a bs.length c, .int .i64 n] w (Ret fun v w' => ∃ a' c' xs, v = .slice a' n c' ∧ xs.length = n ∧ Own 5 u8v w.heap.size w' a' c' xs ∧ Ext w w') := by
  refine calls_of_vc lok Try.func123 ?_ rfl
  conv => whnf
  refine vcLoop_inv lok (σ := Nat × Option Addr × Nat × List (BitVec 8))
    (fun ⟨i, ra, rc, xs⟩ => [(6, .int .i64 i), (5, .slice ra xs.length rc), (0, .slice a bs.length c), (1, .int .i64 n)])
    (fun ⟨i, ra, rc, xs⟩ w' => i ≤ n ∧ xs.length = i ∧ Own 5 u8v w.heap.size w' ra rc xs ∧ Ext w w') (fun t => n - t.1)
    (0, none, 0, []) ⟨rfl, rfl, rfl, rfl, trivial⟩ ⟨Nat.zero_le _, rfl, Own.nil _ _ _ _, Ext.refl _⟩ ?_
  rintro ⟨i, ra, rc, xs⟩ w1 ⟨hi, hxl, ho1, x1⟩
  conv => whnf
  refine vcCond_split lok rfl (fun h2 => ?_) (fun h2 => ?_)
  · have h2 := dt h2
    conv => whnf
    refine ⟨by omega, ?_⟩
    conv => whnf
    intro z hz
    have gz : ∃ y : BitVec 8, z = (y.toNat : Int) := ⟨BitVec.ofInt 8 z, by rw [hz, wu8]; simp; omega⟩
    obtain ⟨y, hy⟩ := gz
    clear hz
    subst hy
    conv => whnf
    refine vcCond_meet (fun y : BitVec 8 => [(7, .int .u8 y.toNat), (6, .int .i64 i), (5, .slice ra xs.length rc), (0, .slice a bs.length c), (1, .int .i64 n)]) (fun y w' => Ext w1 w') ?_ ?_
    · refine vcCond_split lok rfl (fun h3 => ?_) (fun h3 => ?_)
      · have h3 := dt h3
        conv => whnf
        refine vcDraw_go lok mixed (fun w' => w' = w1.drew) [] [0, 1, 2, 3, 4, 5, 6, 7, 8, 9, 10, 11, 12, 13] (by kernel_rfl) (fun w2 hw2 => ⟨hw2, ?_⟩)
        have x2 : Ext w1 w2 := hw2 ▸ Ext.drew w1
        have hs2 := (h.ext x1).ext x2
        conv => whnf
        refine ⟨by omega, ?_⟩
        intro z hz
        have hz33 : z = ((i % bs.length : Nat) : Int) := by rw [hz]; exact rem_nat i bs.length
        clear hz
        subst hz33
        conv => whnf
        have hix : i % bs.length < bs.length := Nat.mod_lt _ (by omega)
        have g4 := hs2.at ((i % bs.length : Nat) : Int) (by omega) (by omega)
        obtain ⟨p4, o4, ha4, hc4⟩ := g4
        refine ⟨p4, o4, ha4, ⟨by omega, by omega⟩, ?_⟩
        conv => whnf
        refine ⟨_, fun w' hw' => by rw [hw', ← hw2]; exact hc4, ?_⟩
        generalize bs.getD ((i % bs.length : Nat) : Int).toNat default = v at *
        conv => whnf
        refine ⟨by omega, ?_⟩
        have hq : i / bs.length ≤ i := Nat.div_le_self _ _
        intro z hz
        have hz36 : z = ((i / bs.length : Nat) : Int) := by rw [hz, quo_nat]; generalize i / bs.length = qq at *; exact wi64 (by omega)
        clear hz
        subst hz36
        conv => whnf
        intro z hz
        clear hz
        conv => whnf
        intro z2 hz2
        have gz : ∃ y : BitVec 8, z2 = (y.toNat : Int) := ⟨BitVec.ofInt 8 z2, by rw [hz2, wu8]; simp; omega⟩
        obtain ⟨y2, hy2⟩ := gz
        clear hz2
        subst hy2
        exact ⟨y2, ⟨rfl, rfl, rfl, rfl, rfl, trivial⟩, x2⟩
      · conv => whnf
        exact ⟨y, ⟨rfl, rfl, rfl, rfl, rfl, trivial⟩, Ext.refl _⟩
    rintro y3 w3 x3
    conv => whnf
    have g6 := run_byte w3 y3
    obtain ⟨w6, hr6, hs6, x6⟩ := g6
    refine ⟨_, _, hr6, ?_⟩
    conv => whnf
    have z1 := x1.size
    have z3 := x3.size
    have z6 := x6.size
    have g7 := ((ho1.ext x3).ext x6).append (ty := 22) (d := 1) e8.toElem (fun _ => rfl) hs6 (by simp; omega) (by omega)
    obtain ⟨a7, c7, w7, hr7, ho7, hg7, _⟩ := g7
    refine ⟨_, _, hr7, ?_⟩
    have x7 : Ext w w7 := hg7.extOf (x1.trans (x3.trans x6)) (fun g hg => (ho1.ge g hg).1)
    have el : (xs ++ [y3]).length = i + 1 := by rw [List.length_append, hxl]; rfl
    have gy : ∃ ys, ys = xs ++ [y3] := ⟨_, rfl⟩
    obtain ⟨ys, hys⟩ := gy
    rw [← hys] at ho7 el ⊢
    conv => whnf
    refine ⟨by omega, ?_⟩
    conv => whnf
    exact ⟨(i + 1, a7, c7, ys), ⟨rfl, rfl, rfl, rfl, trivial⟩, ⟨by omega, el, ho7, x7⟩, by show n - (i + 1) < n - i; omega⟩
  · have h2 := df h2
    conv => whnf
    have hin : i = n := by omega
    subst hin
    exact ⟨ra, rc, xs, by rw [hxl], hxl, ho1, x1⟩
end Go.Proofs.Ytgipackjnncabaa

/- The law SlotsBack, walked. -/
set_option linter.unusedVariables false
namespace Go.Proofs.Ytgipackjnncabaa
open Go.Vc Go.RowKit

theorem have_or {ws vs : List (BitVec 32)} {p m k : Nat} (hk : k < 32) (hm : 64 * k < m) (h0 : vs.getD (p + 3 + k) 0#32 = 0#32) (h1 : ∀ j, j < 32 → j ≠ k → vs.getD (p + 3 + j) 0#32 = ws.getD (p + 3 + j) 0#32) :
    haveB vs p m 32 = haveB ws p m 32 ||| BitVec.twoPow 32 k := by
  apply BitVec.eq_of_getLsbD_eq
  intro i hi
  rw [BitVec.getLsbD_or, haveB_bit vs p m 32 i (Nat.le_refl _) hi, haveB_bit ws p m 32 i (Nat.le_refl _) hi, BitVec.getLsbD_twoPow]
  by_cases e : i = k
  · subst e
    have : bitB vs p m i = true := decide_eq_true ⟨hm, h0⟩
    rw [this]
    simp [hi]
  · have : bitB vs p m i = bitB ws p m i := by unfold bitB; rw [h1 i hi e]
    rw [this]
    simp [Ne.symm e, hi]
theorem seal_img {s : FS} {n : Nat} {slot : Int} {v : BitVec 32} {all : List (BitVec 8)} (hs : s.off = false) (hb : ¬ badF slot) (h : Img s.ws (atF n slot) v all) (hall : allB s.ws (atF n slot) all.length 32 = true) (hl : s.left < 0) :
    ∃ t, sealSF s n slot = (t, 0) ∧ sealedF t n slot = true := by
  have hlen := h.len
  have hmany := h.many
  have ew : wholeSF s n slot = (all.length, 0) := by
    unfold wholeSF haveW
    rw [check_ok hs hb, if_neg (by simp), h.head]
    exact if_pos hall
  have e : sealSF s n slot = (s.did (s.ws.set (atF n slot + 35) (s.ws.getD (atF n slot + 35) 0#32 &&& 0#32)), 0) := by
    unfold sealSF
    rw [ew, if_pos rfl]
    unfold progF
    rw [hs, if_neg (by simp), if_neg (by omega), if_neg (by omega), Int.toNat_natCast]
  refine ⟨_, e, ?_⟩
  have get := fun i => set_get0 s.ws (atF n slot + 35) i (s.ws.getD (atF n slot + 35) 0#32 &&& 0#32) (by omega)
  have eh : headW (s.ws.set (atF n slot + 35) (s.ws.getD (atF n slot + 35) 0#32 &&& 0#32)) (atF n slot) = some (v, all.length) := by
    have q := h.head
    unfold headW at q ⊢
    have l0 : (s.ws.set (atF n slot + 35) (s.ws.getD (atF n slot + 35) 0#32 &&& 0#32)).getD (atF n slot) 0#32 = s.ws.getD (atF n slot) 0#32 := by rw [get, if_neg (by omega)]
    have l1 : (s.ws.set (atF n slot + 35) (s.ws.getD (atF n slot + 35) 0#32 &&& 0#32)).getD (atF n slot + 1) 0#32 = s.ws.getD (atF n slot + 1) 0#32 := by rw [get, if_neg (by omega)]
    have l2 : (s.ws.set (atF n slot + 35) (s.ws.getD (atF n slot + 35) 0#32 &&& 0#32)).getD (atF n slot + 2) 0#32 = s.ws.getD (atF n slot + 2) 0#32 := by rw [get, if_neg (by omega)]
    rw [l0, l1, l2]
    exact q
  unfold sealedF haveF haveW
  rw [did_off, did_ws, hs, if_neg (by simp [hb]), eh]
  dsimp only
  have e35 : (s.ws.set (atF n slot + 35) (s.ws.getD (atF n slot + 35) 0#32 &&& 0#32)).getD (atF n slot + 35) 0#32 = 0#32 := by rw [get, if_pos rfl, BitVec.and_zero]
  have : allB (s.ws.set (atF n slot + 35) (s.ws.getD (atF n slot + 35) 0#32 &&& 0#32)) (atF n slot) all.length 32 = true := allB_iff.2 fun i hi hm => by
    rw [get, if_neg (by omega)]
    exact allB_iff.1 hall i hi hm
  rw [this, e35]
  rfl
theorem headR_img {s : FS} {n : Nat} {slot : Int} {v : BitVec 32} {all : List (BitVec 8)} (hs : s.off = false) (hb : ¬ badF slot) (h : Img s.ws (atF n slot) v all) : headR s n slot = (v, all.length, true) := by
  rw [headR_ok (check_ok hs hb), h.head]

set_option maxRecDepth 100000 in
set_option maxHeartbeats 8000000 in
theorem slotsBack_walk {w : World} {ba oa : Option Addr} {bc oc : Nat} {bs order : List (BitVec 8)} (hbs : Sl u8v w ba bs) (hbl : bs.length ≤ 9223372036854775807) (hor : Sl u8v w oa order) (hol : order.length ≤ 9223372036854775807) (sz : Nat) (hsz : sz ≤ 65535) :
    Calls Try.prog 33 #[.slice ba bs.length bc, .int .u16 sz, .slice oa order.length oc] w (Law w) := by
  refine calls_of_vc lok Try.func33 ?_ rfl
  conv => whnf
  intro z hz
  have hz2 : z = (sz : Int) := by rw [hz]; exact wi64 (by omega)
  clear hz
  subst hz2
  conv => whnf
  refine ⟨by decide, ?_⟩
  intro z hz
  have hz3 : z = ((sz % 2048 : Nat) : Int) := by rw [hz]; exact rem_nat sz 2048
  clear hz
  subst hz3
  conv => whnf
  refine ⟨by omega, ?_⟩
  conv => whnf
  have gn : ∃ n : Nat, n = 1 + sz % 2048 ∧ 1 ≤ n ∧ n ≤ 2048 := ⟨_, rfl, by omega, by omega⟩
  obtain ⟨n, hn, hn1, hn2⟩ := gn
  rw [show (1 : Int) + ((sz % 2048 : Nat) : Int) = (n : Int) by omega]
  conv => whnf
  refine Calls.ret (image_calls hbs hbl n hn2) ?_
  rintro _ w1 ⟨aa, ac, all, rfl, hal, hoa, x1⟩
  conv => whnf
  refine Calls.ret (new_calls 6) ?_
  rintro _ w2 hp
  conv => whnf
  rcases hp with ⟨hno, _, _⟩ | ⟨_, g, gw, fc, rfl, f2, x2⟩
  · exact absurd hno (by decide)
  replace f2 : FlAt 181 w1.heap.size w2 g gw fc k22S := f2
  have l0 : k22S.ws.length = 1536 := List.length_replicate
  have n0 : Num k22S 1536 0 := ⟨l0, ⟨Int.le_refl _, Int.le_refl _⟩, by show (-1 : Int) ≤ _; decide⟩
  have so : k22S.off = false := rfl
  have sl : k22S.left < 0 := by show (-1 : Int) < 0; decide
  generalize k22S = s0 at *
  have z1 := x1.size
  have f2lo := f2.lo
  have f2lt := f2.lt
  conv => whnf
  refine Calls.ret (sopen_calls f2 (by omega) 0) ?_
  rintro _ w3 hp
  conv => whnf
  rcases hp with ⟨hno, _, _⟩ | ⟨m, hm, _, sb, rfl, hsb, S3, x3⟩
  · exact absurd ⟨by decide, by rw [l0]; decide⟩ hno
  have hm0 : m = 0 := by omega
  subst hm0
  clear hm
  have hbad : ¬ badF 1 := by decide
  have hat : atF 0 1 = 768 := rfl
  have hcan : canN 5#32 (n : Int) := ⟨by decide, by decide, by omega, by omega⟩
  have gb := begin_cases (n := 0) (slot := 1) (v := 5#32) (m := n) so hbad hcan (by rw [hat, l0]; decide)
  rcases gb with ⟨t, e1, e2, e3, e4⟩ | ⟨_, _, _, q, _⟩
  rotate_left
  · omega
  have tl := e4 sl
  have tn := begin_num (at_ := 0) (slot := 1) (v := 5#32) (m := n) n0
  rw [e1] at tn
  replace tn : Num t 1536 17 := tn
  rw [Int.toNat_natCast, ← hal] at e2
  have timg := e2.img (all := all) (by rw [hat, tn.len]; decide)
  have x03 := x1.trans (x2.trans x3)
  have S3' : SlAt w.heap.size w3 sb g gw fc 0 s0 := ⟨S3.f.base z1, S3.b, S3.n1, S3.n2, S3.room, S3.small⟩
  have gbeg := sbegin_calls S3' 1 5#32 n (by rw [l0]; exact n0) (by decide)
  rw [e1] at gbeg
  have hoa3 := (hoa.ext x2).ext x3
  have nS : ∀ {w' w''}, FlMod g gw w' w'' → Own 5 u8v w.heap.size w' aa ac all → Own 5 u8v w.heap.size w'' aa ac all := fun {w' w''} m h => m.keepOwn h fun k hk e => by
    have := (hoa.ge k hk).2
    rcases e with e | e <;> omega
  conv => whnf
  refine vcReg_meet lok (fun β : Bool => [(52, .bool β)]) (fun β w' => β = false ∧ SlAt w.heap.size w' sb g gw fc 0 t ∧ FlMod g gw w3 w') [52] (fun _ => rfl) rfl ?_ ?_
  · conv => whnf
    refine Calls.ret (gbeg) ?_
    rintro _ w4 ⟨rfl, S4, m4⟩
    conv => whnf
    exact ⟨_, ⟨rfl, trivial⟩, rfl, S4, m4⟩
  rintro β w4 ⟨rfl, S4, m4⟩
  have hoa4 := nS m4 hoa3
  have x04 := FlMod.above m4 x03 (by omega) (by omega)
  clear gbeg e1 e2 S3 S3' hoa3 e4
  conv => whnf
  refine vcCond_false lok (rfl) ?_
  conv => whnf
  refine ⟨by omega, ?_⟩
  conv => whnf
  refine ⟨by decide, ?_⟩
  intro z hz
  have hz16 : z = (((n + 63) / 64 : Nat) : Int) := by rw [hz]; exact (congrArg IntKind.i64.wrap (quo_nat (n + 63) 64)).trans (wi64 (by omega))
  clear hz
  subst hz16
  conv => whnf
  have gmany : ∃ many : Nat, many = (n + 63) / 64 ∧ 1 ≤ many ∧ many ≤ 32 ∧ n ≤ 64 * many ∧ ∀ k, k < many → 64 * k < n := ⟨_, rfl, by omega, by omega, by omega, fun k hk => by omega⟩
  obtain ⟨many, hmany, hm1, hm2, hm3, hm4⟩ := gmany
  rw [← hmany]
  -- what a chunk's writing leaves
  have hac := hoa.le
  have hcm : maxLen ≤ 9223372036854775807 := by decide
  have step : ∀ (s : FS) (i : Nat) (w' : World) (k : Nat), k < many → SlAt w.heap.size w' sb g gw fc 0 s → Num s 1536 i → i ≤ 1152921504606846976 → s.off = false → s.left < 0 → Img s.ws (atF 0 1) 5#32 all → Own 5 u8v w.heap.size w' aa ac all →
      ∃ t, writeSF s 0 1 (k : Int) (chunkF all k) = (t, 0) ∧ t.off = false ∧ t.left < 0 ∧ Img t.ws (atF 0 1) 5#32 all ∧ Num t 1536 (i + 17) ∧ t.ws.getD (atF 0 1 + 3 + k) 0#32 = 0#32 ∧ (∀ j, j < 32 → j ≠ k → t.ws.getD (atF 0 1 + 3 + j) 0#32 = s.ws.getD (atF 0 1 + 3 + j) 0#32) := by
    intro s i w' k hk S sn hi so sl himg ho
    have hk2 := hm4 k hk
    have gw1 := write_img (slot := 1) (n := 0) so hbad himg k (by rw [hal]; exact hk2)
    have nn := write_num (at_ := 0) (slot := 1) (chunk := (k : Int)) (b := chunkF all k) sn
    rcases gw1 with ⟨t, g1, g2, g3, g4, g5, g6, g7⟩ | ⟨t, _, _, g3, _⟩
    · rw [g1] at nn
      exact ⟨t, g1, g2, g3 sl, g5, nn, g6, g7⟩
    · omega
  refine vcLoop_inv lok (σ := Nat)
    (fun i => [(13, .int .i64 i), (10, .pointer (some ⟨sb, 0, none⟩)), (8, .slice aa n ac), (7, .int .i64 n), (12, .int .i64 many), (2, .slice oa order.length oc), (9, .pointer (some ⟨g, 0, none⟩))])
    (fun i w' => i ≤ 60 ∧ ∃ s, SlAt w.heap.size w' sb g gw fc 0 s ∧ Num s 1536 (17 * i + 17) ∧ s.off = false ∧ s.left < 0 ∧ Img s.ws (atF 0 1) 5#32 all ∧ Own 5 u8v w.heap.size w' aa ac all ∧ Ext w w') (fun i => 60 - i)
    0 ⟨rfl, rfl, rfl, rfl, rfl, rfl, rfl, trivial⟩ ⟨Nat.zero_le _, t, S4, tn, e3, tl, timg, hoa4, x04⟩ ?_
  rintro i w5 ⟨hi60, s, S5, sn, so, sl, simg, ho5, x5⟩
  have slen := sn.len
  conv => whnf
  refine vcReg_meet lok (fun β : Bool => [(63, .bool β)]) (fun β w' => w' = w5 ∧ β = decide (i < order.length ∧ i < 60)) [63] (fun _ => rfl) rfl ?_ ?_
  · conv => whnf
    refine bcase (fun h1 => ?_) (fun h1 => ?_)
    · have h1 := dt h1
      conv => whnf
      refine ⟨_, ⟨rfl, trivial⟩, rfl, ?_⟩
      rw [decide_eq_decide]; omega
    · have h1 := df h1
      conv => whnf
      exact ⟨_, ⟨rfl, trivial⟩, rfl, by rw [eq_comm, decide_eq_false_iff_not]; omega⟩
  rintro β w6 ⟨hw6, hβ⟩
  subst hw6
  conv => whnf
  refine vcCond_split lok rfl (fun h1 => ?_) (fun h1 => ?_)
  · rw [h1] at hβ
    have hlt2 := dt hβ.symm
    conv => whnf
    have g24 := ((hor.ext x5)).at ((i : Int)) (by omega) (by omega)
    obtain ⟨p24, o24, ha24, hcell24⟩ := g24
    refine ⟨p24, o24, ha24, ⟨by omega, by omega⟩, ?_⟩
    conv => whnf
    refine ⟨_, hcell24, ?_⟩
    conv => whnf
    generalize order.getD (i : Int).toNat default = ov at *
    have hov := ov.isLt
    intro z hz
    have hz25 : z = (ov.toNat : Int) := by rw [hz]; exact wi64 (by omega)
    clear hz
    subst hz25
    conv => whnf
    refine ⟨by omega, ?_⟩
    intro z hz
    have hz26 : z = ((ov.toNat % many : Nat) : Int) := by rw [hz]; exact rem_nat _ _
    clear hz
    subst hz26
    conv => whnf
    have hkm : ov.toNat % many < many := Nat.mod_lt _ (by omega)
    generalize ov.toNat % many = k at *
    have hk2 := hm4 k hkm
    have gch := lchunk_calls ho5.sl (by omega) hac.1 (by omega) k (by omega)
    rw [hal] at gch
    refine Calls.ret (gch) ?_
    rintro _ w7 ⟨ca, cc, rfl, hcs, hw7⟩
    conv => whnf
    subst hw7
    have gst := step s (17 * i + 17) w7 k hkm S5 sn (by omega) so sl simg ho5
    obtain ⟨t2, g1, g2, g3, g4, g5, _, _⟩ := gst
    have gwr := swrite_calls (bc := cc) S5 1 (k : Int) hcs (by rw [chunkF_len]; have := lenC_le all.length k; omega) (by rw [slen]; exact sn) (by omega)
    rw [g1] at gwr
    refine Calls.ret (gwr) ?_
    rintro _ w8 ⟨rfl, S8, m8⟩
    conv => whnf
    replace S8 : SlAt w.heap.size w8 sb g gw fc 0 t2 := S8
    refine vcCond_false lok (rfl) ?_
    conv => whnf
    refine ⟨by omega, ?_⟩
    conv => whnf
    exact ⟨i + 1, ⟨rfl, rfl, rfl, rfl, rfl, rfl, rfl, trivial⟩, ⟨by omega, t2, S8, g5.up (by omega), g2, g3, g4, nS m8 ho5, FlMod.above m8 x5 (by omega) (by omega)⟩, by omega⟩
  clear hβ
  conv => whnf
  refine ⟨by omega, ?_⟩
  conv => whnf
  have hi2 : 17 * i + 17 ≤ 2000 := by omega
  have sn := sn.up hi2
  clear hi2
  rw [show ((many : Nat) : Int) - 1 = ((many : Nat) : Int) - 1 from rfl]
  refine vcLoop_inv lok (σ := Nat)
    (fun j => [(15, .int .i64 ((j : Int) - 1)), (10, .pointer (some ⟨sb, 0, none⟩)), (8, .slice aa n ac), (7, .int .i64 n)])
    (fun j w' => j ≤ many ∧ ∃ s, SlAt w.heap.size w' sb g gw fc 0 s ∧ Num s 1536 (2000 + 17 * (many - j)) ∧ s.off = false ∧ s.left < 0 ∧ Img s.ws (atF 0 1) 5#32 all ∧ Own 5 u8v w.heap.size w' aa ac all ∧ (∀ l, j ≤ l → l < many → s.ws.getD (atF 0 1 + 3 + l) 0#32 = 0#32) ∧ Ext w w') (fun j => j)
    many ⟨rfl, rfl, rfl, rfl, trivial⟩ ⟨Nat.le_refl _, s, S5, sn.up (by omega), so, sl, simg, ho5, fun l h1 h2 => by omega, x5⟩ ?_
  clear S5 sn so sl simg ho5 x5 slen
  rintro j w7 ⟨hj, s, S7, sn, so, sl, simg, ho7, hmk, x7⟩
  have slen := sn.len
  conv => whnf
  refine vcCond_split lok rfl (fun h3 => ?_) (fun h3 => ?_)
  · have h3 := dt h3
    conv => whnf
    have hj1 : 1 ≤ j := by omega
    have gk : ∃ k, j = k + 1 := ⟨j - 1, by omega⟩
    obtain ⟨k, rfl⟩ := gk
    rw [show ((k + 1 : Nat) : Int) - 1 = (k : Int) by omega]
    have hkm : k < many := by omega
    have hk2 := hm4 k hkm
    refine Calls.ret (shave_calls S7 1) ?_
    rintro _ w8 ⟨rfl, x8⟩
    conv => whnf
    have gch := lchunk_calls (ho7.ext x8).sl (by omega) hac.1 (by omega) k (by omega)
    rw [hal] at gch
    refine Calls.ret (gch) ?_
    rintro _ w9 ⟨ca, cc, rfl, hcs, hw9⟩
    conv => whnf
    subst hw9
    have gst := step s (2000 + 17 * (many - (k + 1))) w9 k hkm (S7.ext x8) sn (by omega) so sl simg (ho7.ext x8)
    obtain ⟨t2, g1, g2, g3, g4, g5, g6, g7⟩ := gst
    have gwr := swrite_calls (bc := cc) (S7.ext x8) 1 (k : Int) hcs (by rw [chunkF_len]; have := lenC_le all.length k; omega) (by rw [slen]; exact sn) (by omega)
    rw [g1] at gwr
    refine Calls.ret (gwr) ?_
    rintro _ w10 ⟨rfl, S10, m10⟩
    conv => whnf
    replace S10 : SlAt w.heap.size w10 sb g gw fc 0 t2 := S10
    have ho10 := nS m10 (ho7.ext x8)
    have x10 := FlMod.above m10 (x7.trans x8) (by omega) (by omega)
    have eh1 := img_have so hbad simg
    have eh2 := img_have g2 hbad g4
    have eor : haveB t2.ws (atF 0 1) all.length 32 = haveB s.ws (atF 0 1) all.length 32 ||| BitVec.twoPow 32 k := have_or (by omega) (by omega) g6 g7
    have eb := img_whole g2 hbad g4
    refine vcCond_false lok (rfl) ?_
    conv => whnf
    refine Calls.ret (shave_calls S10 1) ?_
    rintro _ w11 ⟨rfl, x11⟩
    conv => whnf
    rw [eh1, eh2, eor]
    intro y hz
    have hz41 : y = (k : Int) := by rw [hz, wu64]; omega
    clear hz
    subst hz41
    conv => whnf
    refine ⟨by omega, ?_⟩
    intro y2 hz
    have hz42 : y2 = ((BitVec.twoPow 32 k).toNat : Int) := by rw [hz, pow_nat k (by omega)]; exact shl_one k (by omega)
    clear hz
    subst hz42
    conv => whnf
    refine Calls.ret (sbytes_calls (S10.ext x11) 1) ?_
    rintro _ w12 ⟨xa, xc, rfl, hox, x12⟩
    conv => whnf
    rw [eb] at hox ⊢
    have ho12 := (ho10.ext x11).ext x12
    refine vcReg_meet lok (fun β : Bool => [(131, .bool β)]) (fun β w' => w' = w12 ∧ β = false) [131] (fun _ => rfl) rfl ?_ ?_
    · conv => whnf
      intro y3 hz
      have hz45 : y3 = ((haveB s.ws (atF 0 1) all.length 32 ||| BitVec.twoPow 32 k).toNat : Int) := by rw [hz]; exact or32 _ _
      clear hz
      subst hz45
      conv => whnf
      refine bcase (fun k4 => absurd rfl (ne_true k4)) (fun _ => ?_)
      cases hall : allB t2.ws (atF 0 1) all.length 32 with
      | false =>
        conv => whnf
        exact ⟨_, ⟨rfl, trivial⟩, rfl, rfl⟩
      | true =>
        rw [hall, if_pos rfl] at hox
        conv => whnf
        refine ⟨_, run_toStr hox.sl, ?_⟩
        conv => whnf
        have hst := run_toStr (P := Try.prog) (c := ac) ho12.sl
        rw [hal] at hst
        refine ⟨_, hst, ?_⟩
        conv => whnf
        intro γ hγ
        have hγ2 : γ = true := by rw [str_eq hγ rfl rfl]; simp
        clear hγ
        subst hγ2
        exact ⟨_, ⟨rfl, trivial⟩, rfl, rfl⟩
    rintro β w13 ⟨hw13, rfl⟩
    subst hw13
    conv => whnf
    refine vcCond_false lok (rfl) ?_
    conv => whnf
    refine ⟨by omega, ?_⟩
    conv => whnf
    refine ⟨k, ⟨rfl, rfl, rfl, rfl, trivial⟩, ⟨by omega, t2, (S10.ext x11).ext x12, g5.up (by omega), g2, g3, g4, ho12, fun l h1 h2 => ?_, x10.trans (x11.trans x12)⟩, by omega⟩
    by_cases e : l = k
    · subst e; exact g6
    · rw [g7 l (by omega) e]; exact hmk l (by omega) h2
  · have h3 := df h3
    conv => whnf
    have hj0 : j = 0 := by omega
    subst hj0
    have hall : allB s.ws (atF 0 1) all.length 32 = true := allB_iff.2 fun i hi hm => hmk i (Nat.zero_le _) (by omega)
    have eb := img_whole so hbad simg
    rw [hall, if_pos rfl] at eb
    have ehd := headR_img so hbad simg
    have gseal := seal_img so hbad simg hall sl
    obtain ⟨t3, q1, q2⟩ := gseal
    refine Calls.ret (sbytes_calls S7 1) ?_
    rintro _ w8 ⟨xa, xc, rfl, hox, x8⟩
    conv => whnf
    rw [eb] at hox ⊢
    refine Calls.ret (shead_calls (S7.ext x8) 1) ?_
    rintro _ w9 ⟨rfl, x9⟩
    conv => whnf
    rw [ehd]
    have gse := sseal_calls ((S7.ext x8).ext x9) 1 (by rw [slen]; exact sn) (by omega)
    rw [q1] at gse
    refine vcReg_go lok ?_
    conv => whnf
    refine ⟨_, run_toStr ((hox.ext x9).sl), ?_⟩
    conv => whnf
    have hst := run_toStr (P := Try.prog) (c := ac) ((ho7.ext x8).ext x9).sl
    rw [hal] at hst
    refine ⟨_, hst, ?_⟩
    conv => whnf
    intro γ hγ
    have hγ2 : γ = true := by rw [str_eq hγ rfl rfl]; simp
    clear hγ
    subst hγ2
    conv => whnf
    refine Calls.ret (gse) ?_
    rintro _ w10 ⟨rfl, S10, m10⟩
    conv => whnf
    replace S10 : SlAt w.heap.size w10 sb g gw fc 0 t3 := S10
    have gsd := ssealed_calls S10 1
    rw [q2] at gsd
    refine Calls.ret (gsd) ?_
    rintro _ w11 ⟨rfl, x11⟩
    conv => whnf
    refine bcase (fun _ => ?_) (fun k4 => absurd (by rw [hal]) (of_decide_eq_false k4))
    conv => whnf
    refine Calls.ret (known22) ?_
    rintro _ w12 ⟨rfl, x12⟩
    conv => whnf
    exact ⟨rfl, (FlMod.above m10 (x7.trans (x8.trans x9)) (by omega) (by omega)).trans (x11.trans x12)⟩
end Go.Proofs.Ytgipackjnncabaa

/- The law SlotsCrashes, walked. -/
set_option linter.unusedVariables false
namespace Go.Proofs.Ytgipackjnncabaa
open Go.Vc Go.RowKit

/-- a pair of words -/
def pairC (x : BitVec 32 × BitVec 32) : List Value := [u32v x.1, u32v x.2]
theorem fit_pair {w : World} {es : List Value} (h : Fit w (.arr 2 1 (.int .u32)) es) : ∃ x : BitVec 32 × BitVec 32, es = pairC x ∧ True := by
  obtain ⟨h1, h2⟩ := h
  match es, h1 with
  | [v1, v2], _ =>
    obtain ⟨n1, e1, k1⟩ := h2 0 (by decide)
    obtain ⟨n2, e2, k2⟩ := h2 1 (by decide)
    have e1 : [v1] = [Value.int .u32 n1] := e1
    have e2 : [v2] = [Value.int .u32 n2] := e2
    obtain ⟨x, hx⟩ := wf_u32 k1
    obtain ⟨m, hm⟩ := wf_u32 k2
    injection e1 with e1
    injection e2 with e2
    exact ⟨(x, m), by rw [e1, e2, hx, hm]; rfl, trivial⟩
theorem cut_pos (s : FS) (a : Int) (ha : 0 ≤ a) (m : BitVec 32) : cutF s a m = ({ s with left := a, mask := m }, 0) := by unfold cutF; rw [if_neg (by omega)]
theorem have_sub {ws vs : List (BitVec 32)} {p m : Nat} (h : ∀ j, j < 32 → ws.getD (p + 3 + j) 0#32 = 0#32 → vs.getD (p + 3 + j) 0#32 = 0#32) : haveB vs p m 32 &&& haveB ws p m 32 = haveB ws p m 32 := by
  apply BitVec.eq_of_getLsbD_eq
  intro i hi
  rw [BitVec.getLsbD_and, haveB_bit vs p m 32 i (Nat.le_refl _) hi, haveB_bit ws p m 32 i (Nat.le_refl _) hi]
  cases e : bitB ws p m i with
  | false => simp
  | true =>
    have q := of_decide_eq_true e
    have : bitB vs p m i = true := decide_eq_true ⟨q.1, h i hi q.2⟩
    rw [this]
    simp

set_option maxRecDepth 100000 in
set_option maxHeartbeats 8000000 in
theorem slotsCrashes_walk {w : World} {ba oa : Option Addr} {bc oc : Nat} {bs : List (BitVec 8)} {cuts : List (BitVec 32 × BitVec 32)} (hbs : Sl u8v w ba bs) (hbl : bs.length ≤ 9223372036854775807) (hcu : SlN 2 pairC w oa cuts) (hcl : cuts.length ≤ 9223372036854775807) (sz : Nat) (hsz : sz ≤ 65535) :
    Calls Try.prog 35 #[.slice ba bs.length bc, .int .u16 sz, .slice oa cuts.length oc] w (Law w) := by
  refine calls_of_vc lok Try.func35 ?_ rfl
  conv => whnf
  intro z hz
  have hz2 : z = (sz : Int) := by rw [hz]; exact wi64 (by omega)
  clear hz
  subst hz2
  conv => whnf
  refine ⟨by decide, ?_⟩
  intro z hz
  have hz3 : z = ((sz % 600 : Nat) : Int) := by rw [hz]; exact rem_nat sz 600
  clear hz
  subst hz3
  conv => whnf
  refine ⟨by omega, ?_⟩
  conv => whnf
  have gn : ∃ n : Nat, n = 1 + sz % 600 ∧ 1 ≤ n ∧ n ≤ 600 := ⟨_, rfl, by omega, by omega⟩
  obtain ⟨n, hn, hn1, hn2⟩ := gn
  rw [show (1 : Int) + ((sz % 600 : Nat) : Int) = (n : Int) by omega]
  conv => whnf
  refine Calls.ret (image_calls hbs hbl n (by omega)) ?_
  rintro _ w1 ⟨aa, ac, all, rfl, hal, hoa, x1⟩
  conv => whnf
  refine Calls.ret (new_calls 6) ?_
  rintro _ w2 hp
  conv => whnf
  rcases hp with ⟨hno, _, _⟩ | ⟨_, g, gw, fc, rfl, f2, x2⟩
  · exact absurd hno (by decide)
  replace f2 : FlAt 181 w1.heap.size w2 g gw fc k22S := f2
  have l0 : k22S.ws.length = 1536 := List.length_replicate
  have n0 : Num k22S 1536 0 := ⟨l0, ⟨Int.le_refl _, Int.le_refl _⟩, by show (-1 : Int) ≤ _; decide⟩
  have so : k22S.off = false := rfl
  have sl : k22S.left < 0 := by show (-1 : Int) < 0; decide
  generalize k22S = s0 at *
  have z1 := x1.size
  have f2lo := f2.lo
  have f2lt := f2.lt
  conv => whnf
  refine Calls.ret (sopen_calls f2 (by omega) 0) ?_
  rintro _ w3 hp
  conv => whnf
  rcases hp with ⟨hno, _, _⟩ | ⟨m, hm, _, sb, rfl, hsb, S3, x3⟩
  · exact absurd ⟨by decide, by rw [l0]; decide⟩ hno
  have hm0 : m = 0 := by omega
  subst hm0
  clear hm
  have hbad : ¬ badF 0 := by decide
  have hat : atF 0 0 = 0 := rfl
  have hcan : canN 9#32 (n : Int) := ⟨by decide, by decide, by omega, by omega⟩
  have gb := begin_cases (n := 0) (slot := 0) (v := 9#32) (m := n) so hbad hcan (by rw [hat, l0]; decide)
  rcases gb with ⟨t, e1, e2, e3, e4⟩ | ⟨_, _, _, q, _⟩
  rotate_left
  · omega
  have tn := begin_num (at_ := 0) (slot := 0) (v := 9#32) (m := n) n0
  rw [e1] at tn
  replace tn : Num t 1536 17 := tn
  rw [Int.toNat_natCast, ← hal] at e2
  have timg := e2.img (all := all) (by rw [hat, tn.len]; decide)
  have x03 := x1.trans (x2.trans x3)
  have S3' : SlAt w.heap.size w3 sb g gw fc 0 s0 := ⟨S3.f.base z1, S3.b, S3.n1, S3.n2, S3.room, S3.small⟩
  have gbeg := sbegin_calls S3' 0 9#32 n (by rw [l0]; exact n0) (by decide)
  rw [e1] at gbeg
  have hoa3 := (hoa.ext x2).ext x3
  have nS : ∀ {w' w''}, FlMod g gw w' w'' → Own 5 u8v w.heap.size w' aa ac all → Own 5 u8v w.heap.size w'' aa ac all := fun {w' w''} m h => m.keepOwn h fun k hk e => by
    have := (hoa.ge k hk).2
    rcases e with e | e <;> omega
  conv => whnf
  refine vcReg_meet lok (fun β : Bool => [(47, .bool β)]) (fun β w' => β = false ∧ SlAt w.heap.size w' sb g gw fc 0 t ∧ FlMod g gw w3 w') [47] (fun _ => rfl) rfl ?_ ?_
  · conv => whnf
    refine Calls.ret (gbeg) ?_
    rintro _ w4 ⟨rfl, S4, m4⟩
    conv => whnf
    exact ⟨_, ⟨rfl, trivial⟩, rfl, S4, m4⟩
  rintro β w4 ⟨rfl, S4, m4⟩
  have hoa4 := nS m4 hoa3
  have x04 := FlMod.above m4 x03 (by omega) (by omega)
  clear gbeg e1 e2 S3 S3' hoa3 e4 x03 m4 so sl n0
  conv => whnf
  refine vcCond_false lok (rfl) ?_
  conv => whnf
  refine ⟨by omega, ?_⟩
  conv => whnf
  refine ⟨by decide, ?_⟩
  intro z hz
  have hz16 : z = (((n + 63) / 64 : Nat) : Int) := by rw [hz]; exact (congrArg IntKind.i64.wrap (quo_nat (n + 63) 64)).trans (wi64 (by omega))
  clear hz
  subst hz16
  conv => whnf
  have gmany : ∃ many : Nat, many = (n + 63) / 64 ∧ 1 ≤ many ∧ many ≤ 10 ∧ n ≤ 64 * many ∧ ∀ k, k < many → 64 * k < n := ⟨_, rfl, by omega, by omega, by omega, fun k hk => by omega⟩
  obtain ⟨many, hmany, hm1, hm2, hm3, hm4⟩ := gmany
  rw [← hmany]
  have hac := hoa.le
  have hcm : maxLen ≤ 9223372036854775807 := by decide
  refine vcLoop_inv lok (σ := Nat)
    (fun i => [(13, .int .i64 i), (10, .pointer (some ⟨sb, 0, none⟩)), (8, .slice aa n ac), (12, .int .i64 many), (2, .slice oa cuts.length oc), (9, .pointer (some ⟨g, 0, none⟩))])
    (fun i w' => i ≤ 30 ∧ ∃ s, SlAt w.heap.size w' sb g gw fc 0 s ∧ Num s 1536 (200 * i + 17) ∧ s.off = false ∧ Img s.ws (atF 0 0) 9#32 all ∧ Own 5 u8v w.heap.size w' aa ac all ∧ Ext w w') (fun i => 30 - i)
    0 ⟨rfl, rfl, rfl, rfl, rfl, rfl, trivial⟩ ⟨Nat.zero_le _, t, S4, tn, e3, timg, hoa4, x04⟩ ?_
  clear S4 tn e3 timg hoa4 x04
  rintro i w5 ⟨hi30, s, S5, sn, so, simg, ho5, x5⟩
  have slen := sn.len
  conv => whnf
  refine vcReg_meet lok (fun β : Bool => [(58, .bool β)]) (fun β w' => w' = w5 ∧ β = decide (i < cuts.length ∧ i < 30)) [58] (fun _ => rfl) rfl ?_ ?_
  · conv => whnf
    refine bcase (fun h1 => ?_) (fun h1 => ?_)
    · have h1 := dt h1
      conv => whnf
      refine ⟨_, ⟨rfl, trivial⟩, rfl, ?_⟩
      rw [decide_eq_decide]; omega
    · have h1 := df h1
      conv => whnf
      exact ⟨_, ⟨rfl, trivial⟩, rfl, by rw [eq_comm, decide_eq_false_iff_not]; omega⟩
  rintro β w6 ⟨hw6, hβ⟩
  subst hw6
  conv => whnf
  refine vcCond_split lok rfl (fun h1 => ?_) (fun h1 => ?_)
  · rw [h1] at hβ
    have hlt2 := dt hβ.symm
    clear hβ
    have g5 := hcu.at i hlt2.1
    generalize cuts[i] = cm at *
    obtain ⟨pp, oo, hpa, hcell0⟩ := g5
    have hcell : ∀ k v, (pairC cm)[k]? = some v → w6.cell? ⟨pp, oo + i * 2 + k, none⟩ = some v := fun k v hv => Below.cell_of (w := w) x5 (cell_lt (hcell0 k v hv)) (hcell0 k v hv)
    have hx1 := cm.1.isLt
    conv => whnf
    refine vcDraw_go lok mixed (Ext w6) [] [0, 1, 2, 3, 4, 5, 6, 7, 8, 9, 10, 11, 12, 13] (by kernel_rfl) (fun w7 hw7 => ⟨hw7 ▸ Ext.drew w6, ?_⟩)
    have x7 : Ext w6 w7 := hw7 ▸ Ext.drew w6
    clear hw7
    conv => whnf
    refine ⟨pp, oo, hpa, ⟨by omega, by omega⟩, ?_⟩
    conv => whnf
    refine ⟨by decide, ?_⟩
    conv => whnf
    refine ⟨_, fun w' hw' => Below.cell_of hw' (cell_lt (hcell 0 _ rfl)) (hcell 0 _ rfl), ?_⟩
    conv => whnf
    refine ⟨by decide, ?_⟩
    intro z hz
    have hz28 : z = ((cm.1.toNat % 60 : Nat) : Int) := by rw [hz]; exact rem_nat _ 60
    clear hz
    subst hz28
    conv => whnf
    intro z hz
    have hz29 : z = ((cm.1.toNat % 60 : Nat) : Int) := by rw [hz]; exact wi64 (by omega)
    clear hz
    subst hz29
    conv => whnf
    refine ⟨pp, oo, hpa, ⟨by omega, by omega⟩, ?_⟩
    conv => whnf
    refine ⟨by decide, ?_⟩
    conv => whnf
    refine ⟨_, fun w' hw' => Below.cell_of hw' (cell_lt (hcell 1 _ rfl)) (hcell 1 _ rfl), ?_⟩
    conv => whnf
    have g8 := cut_calls (S5.ext x7).f ((cm.1.toNat % 60 : Nat) : Int) cm.2
    rw [cut_pos s _ (by omega) cm.2] at g8
    have sn8 := sn.cut ((cm.1.toNat % 60 : Nat) : Int) (by omega) cm.2
    rw [cut_pos s _ (by omega) cm.2] at sn8
    have gs1 : ∃ s1 : FS, s1 = { s with left := ((cm.1.toNat % 60 : Nat) : Int), mask := cm.2 } := ⟨_, rfl⟩
    obtain ⟨s1, hs1⟩ := gs1
    have sw1 : s1.ws = s.ws := by rw [hs1]
    have so1 : s1.off = false := by rw [hs1]; exact so
    rw [← hs1] at g8 sn8
    clear hs1
    refine Calls.ret (g8) ?_
    rintro _ w8 ⟨rfl, f8, m8⟩
    conv => whnf
    have S8 : SlAt w.heap.size w8 sb g gw fc 0 s1 := (S5.ext x7).next f8 m8 (by rw [sw1])
    have ho8 := nS m8 (ho5.ext x7)
    have x8 := FlMod.above m8 (x5.trans x7) (by omega) (by omega)
    have img1 : Img s1.ws (atF 0 0) 9#32 all := by rw [sw1]; exact simg
    replace sn8 : Num s1 1536 (200 * i + 18) := sn8
    refine Calls.ret (shave_calls S8 0) ?_
    rintro _ w9 ⟨rfl, x9⟩
    conv => whnf
    have eh1 := img_have so1 hbad img1
    rw [eh1]
    refine vcLoop_inv lok (σ := Nat)
      (fun k => [(16, .int .i64 k), (14, .int .u32 (haveB s1.ws (atF 0 0) all.length 32).toNat), (13, .int .i64 i), (10, .pointer (some ⟨sb, 0, none⟩)), (8, .slice aa n ac), (12, .int .i64 many), (2, .slice oa cuts.length oc), (9, .pointer (some ⟨g, 0, none⟩))])
      (fun k w' => k ≤ many ∧ ∃ s2, SlAt w.heap.size w' sb g gw fc 0 s2 ∧ Num s2 1536 (200 * i + 18 + 17 * k) ∧ Img s2.ws (atF 0 0) 9#32 all ∧ (∀ j, j < 32 → s1.ws.getD (atF 0 0 + 3 + j) 0#32 = 0#32 → s2.ws.getD (atF 0 0 + 3 + j) 0#32 = 0#32) ∧ Own 5 u8v w.heap.size w' aa ac all ∧ Ext w w') (fun k => many - k)
      0 ⟨rfl, rfl, rfl, rfl, rfl, rfl, rfl, rfl, trivial⟩ ⟨Nat.zero_le _, s1, S8.ext x9, sn8, img1, fun j _ q => q, ho8.ext x9, x8.trans x9⟩ ?_
    clear S8 ho8 x8 x9 m8 f8 eh1 S5 ho5 x5 x7 simg sn so slen hcell
    rintro k w10 ⟨hk, s2, S10, sn10, img2, hmk, ho10, x10⟩
    have sl10 := sn10.len
    conv => whnf
    refine vcReg_meet lok (fun β : Bool => [(86, .bool β)]) (fun β w' => w' = w10 ∧ β = (decide (k < many) && !s2.off)) [86] (fun _ => rfl) rfl ?_ ?_
    · conv => whnf
      refine bcase (fun h2 => ?_) (fun h2 => ?_)
      · have h2 := dt h2
        conv => whnf
        refine Calls.ret (fon_calls S10.f) ?_
        rintro _ w11 ⟨rfl, rfl⟩
        conv => whnf
        exact ⟨_, ⟨rfl, trivial⟩, rfl, by rw [decide_eq_true (by omega)]; rfl⟩
      · have h2 := df h2
        conv => whnf
        exact ⟨_, ⟨rfl, trivial⟩, rfl, by rw [decide_eq_false (by omega)]; rfl⟩
    rintro β2 w11 ⟨hw11, hβ2⟩
    subst hw11
    conv => whnf
    refine vcCond_split lok rfl (fun h3 => ?_) (fun h3 => ?_)
    · rw [h3] at hβ2
      have hkm : k < many := by
        by_cases q : k < many
        · exact q
        · rw [decide_eq_false q] at hβ2; cases hβ2
      have so2 : s2.off = false := by
        cases q : s2.off with
        | false => rfl
        | true => rw [q, decide_eq_true hkm] at hβ2; cases hβ2
      clear hβ2
      have hk2 := hm4 k hkm
      have gch := lchunk_calls ho10.sl (by omega) hac.1 (by omega) k (by omega)
      rw [hal] at gch
      conv => whnf
      refine Calls.ret (gch) ?_
      rintro _ w12 ⟨ca, cc, rfl, hcs, hw12⟩
      conv => whnf
      subst hw12
      have gwi := write_img (slot := 0) (n := 0) so2 hbad img2 k (by omega)
      have nn := write_num (at_ := 0) (slot := 0) (chunk := (k : Int)) (b := chunkF all k) sn10
      have gwr := swrite_calls (bc := cc) S10 0 (k : Int) hcs (by rw [chunkF_len]; have := lenC_le all.length k; omega) (by rw [sl10]; exact sn10) (by omega)
      have hres : ∃ t e, writeSF s2 0 0 (k : Int) (chunkF all k) = (t, e) ∧ ((e = 0 ∧ t.off = false) ∨ (e = 7 ∧ t.off = true)) ∧ Img t.ws (atF 0 0) 9#32 all ∧ (∀ j, j < 32 → s2.ws.getD (atF 0 0 + 3 + j) 0#32 = 0#32 → t.ws.getD (atF 0 0 + 3 + j) 0#32 = 0#32) := by
        rcases gwi with ⟨t, q1, q2, _, _, q5, q6, q7⟩ | ⟨t, q1, q2, _, _, q5, q6⟩
        · refine ⟨t, 0, q1, .inl ⟨rfl, q2⟩, q5, fun j hj h0 => ?_⟩
          by_cases e : j = k
          · subst e; exact q6
          · rw [q7 j hj e]; exact h0
        · exact ⟨t, 7, q1, .inr ⟨rfl, q2⟩, q5, q6⟩
      obtain ⟨t, e, q1, q2, q3, q4⟩ := hres
      rw [q1] at gwr nn
      clear gwi
      refine Calls.ret (gwr) ?_
      rintro _ w13 ⟨rfl, S13, m13⟩
      conv => whnf
      replace S13 : SlAt w.heap.size w13 sb g gw fc 0 t := S13
      replace nn : Num t 1536 (200 * i + 18 + 17 * k + 17) := nn
      refine vcReg_meet lok (fun β : Bool => [(104, .bool β)]) (fun β w' => w' = w13 ∧ β = false) [104] (fun _ => rfl) rfl ?_ ?_
      · rcases q2 with ⟨q2, q5⟩ | ⟨q2, q5⟩
        · subst q2
          conv => whnf
          exact ⟨_, ⟨rfl, trivial⟩, rfl, rfl⟩
        · subst q2
          conv => whnf
          refine Calls.ret (fon_calls S13.f) ?_
          rintro _ w14 ⟨rfl, rfl⟩
          conv => whnf
          exact ⟨_, ⟨rfl, trivial⟩, rfl, by rw [q5]; rfl⟩
      rintro β3 w14 ⟨hw14, rfl⟩
      subst hw14
      conv => whnf
      refine vcCond_false lok (rfl) ?_
      conv => whnf
      refine ⟨by omega, ?_⟩
      conv => whnf
      exact ⟨k + 1, ⟨rfl, rfl, rfl, rfl, rfl, rfl, rfl, rfl, trivial⟩, ⟨by omega, t, S13, nn.up (by omega), q3, fun j hj h0 => q4 j hj (hmk j hj h0), nS m13 ho10, FlMod.above m13 x10 (by omega) (by omega)⟩, by omega⟩
    · clear hβ2
      conv => whnf
      refine Calls.ret (start_calls S10.f) ?_
      rintro _ w12 ⟨rfl, f12, m12⟩
      conv => whnf
      have S12 : SlAt w.heap.size w12 sb g gw fc 0 (startF s2) := S10.next f12 m12 rfl
      have sn12 := sn10.start
      have so12 : (startF s2).off = false := rfl
      have img12 : Img (startF s2).ws (atF 0 0) 9#32 all := img2
      have hmk12 : ∀ j, j < 32 → s1.ws.getD (atF 0 0 + 3 + j) 0#32 = 0#32 → (startF s2).ws.getD (atF 0 0 + 3 + j) 0#32 = 0#32 := hmk
      have ho12 := nS m12 ho10
      have x12 := FlMod.above m12 x10 (by omega) (by omega)
      have gs3 : ∃ s3, s3 = startF s2 := ⟨_, rfl⟩
      obtain ⟨s3, hs3⟩ := gs3
      rw [← hs3] at S12 sn12 so12 img12 hmk12
      clear hs3 f12 m12 hmk img2
      refine Calls.ret (shave_calls S12 0) ?_
      rintro _ w13 ⟨rfl, x13⟩
      conv => whnf
      rw [img_have so12 hbad img12]
      intro y3 hz
      have hz54 : y3 = ((haveB s3.ws (atF 0 0) all.length 32 &&& haveB s1.ws (atF 0 0) all.length 32).toNat : Int) := by rw [hz]; exact and32 _ _
      clear hz
      subst hz54
      conv => whnf
      rw [have_sub hmk12]
      refine vcCond_false lok (by rw [decide_eq_true rfl]; rfl) ?_
      conv => whnf
      refine ⟨by omega, ?_⟩
      conv => whnf
      exact ⟨i + 1, ⟨rfl, rfl, rfl, rfl, rfl, rfl, trivial⟩, ⟨by omega, s3, S12.ext x13, sn12.up (by omega), so12, img12, ho12.ext x13, x12.trans x13⟩, by omega⟩
  · clear hβ
    conv => whnf
    have g8 := cut_calls S5.f 1048576 0#32
    rw [cut_pos s _ (by decide) 0#32] at g8
    have sn8 := sn.cut 1048576 (by decide) 0#32
    rw [cut_pos s _ (by decide) 0#32] at sn8
    have gs1 : ∃ s1 : FS, s1 = { s with left := 1048576, mask := 0#32 } := ⟨_, rfl⟩
    obtain ⟨s1, hs1⟩ := gs1
    have sw1 : s1.ws = s.ws := by rw [hs1]
    have so1 : s1.off = false := by rw [hs1]; exact so
    have sl1 : s1.left = 1048576 := by rw [hs1]
    rw [← hs1] at g8 sn8
    clear hs1
    refine Calls.ret (g8) ?_
    rintro _ w8 ⟨rfl, f8, m8⟩
    conv => whnf
    have S8 : SlAt w.heap.size w8 sb g gw fc 0 s1 := S5.next f8 m8 (by rw [sw1])
    have ho8 := nS m8 ho5
    have x8 := FlMod.above m8 x5 (by omega) (by omega)
    have img1 : Img s1.ws (atF 0 0) 9#32 all := by rw [sw1]; exact simg
    replace sn8 : Num s1 1536 (200 * i + 18) := sn8
    refine vcLoop_inv lok (σ := Nat)
      (fun k => [(20, .int .i64 k), (10, .pointer (some ⟨sb, 0, none⟩)), (8, .slice aa n ac), (12, .int .i64 many)])
      (fun k w' => k ≤ many ∧ ∃ s2, SlAt w.heap.size w' sb g gw fc 0 s2 ∧ Num s2 1536 (200 * i + 18 + 17 * k) ∧ s2.off = false ∧ 1048576 - 17 * (k : Int) ≤ s2.left ∧ Img s2.ws (atF 0 0) 9#32 all ∧ (∀ j, j < k → s2.ws.getD (atF 0 0 + 3 + j) 0#32 = 0#32) ∧ Own 5 u8v w.heap.size w' aa ac all ∧ Ext w w') (fun k => many - k)
      0 ⟨rfl, rfl, rfl, rfl, trivial⟩ ⟨Nat.zero_le _, s1, S8, sn8, so1, by rw [sl1]; decide, img1, fun j hj => absurd hj (Nat.not_lt_zero _), ho8, x8⟩ ?_
    clear S8 ho8 x8 m8 f8 S5 ho5 x5 simg sn so slen sn8 img1 so1 sl1
    rintro k w10 ⟨hk, s2, S10, sn10, so2, sl2, img2, hmk, ho10, x10⟩
    have sl10 := sn10.len
    conv => whnf
    refine vcCond_split lok rfl (fun h3 => ?_) (fun h3 => ?_)
    · have h3 := dt h3
      conv => whnf
      have hkm : k < many := by omega
      have hk2 := hm4 k hkm
      have gch := lchunk_calls ho10.sl (by omega) hac.1 (by omega) k (by omega)
      rw [hal] at gch
      refine Calls.ret (gch) ?_
      rintro _ w12 ⟨ca, cc, rfl, hcs, hw12⟩
      conv => whnf
      subst hw12
      have gwi := write_img (slot := 0) (n := 0) so2 hbad img2 k (by omega)
      have nn := write_num (at_ := 0) (slot := 0) (chunk := (k : Int)) (b := chunkF all k) sn10
      have gwr := swrite_calls (bc := cc) S10 0 (k : Int) hcs (by rw [chunkF_len]; have := lenC_le all.length k; omega) (by rw [sl10]; exact sn10) (by omega)
      rcases gwi with ⟨t, q1, q2, _, q4, q5, q6, q7⟩ | ⟨t, q1, q2, _, q4, q5, q6⟩
      rotate_left
      · omega
      rw [q1] at gwr nn
      refine Calls.ret (gwr) ?_
      rintro _ w13 ⟨rfl, S13, m13⟩
      conv => whnf
      replace S13 : SlAt w.heap.size w13 sb g gw fc 0 t := S13
      replace nn : Num t 1536 (200 * i + 18 + 17 * k + 17) := nn
      refine vcCond_false lok (rfl) ?_
      conv => whnf
      refine ⟨by omega, ?_⟩
      conv => whnf
      refine ⟨k + 1, ⟨rfl, rfl, rfl, rfl, trivial⟩, ⟨by omega, t, S13, nn.up (by omega), q2, by omega, q5, fun j hj => ?_, nS m13 ho10, FlMod.above m13 x10 (by omega) (by omega)⟩, by omega⟩
      by_cases e : j = k
      · subst e; exact q6
      · rw [q7 j (by omega) e]; exact hmk j (by omega)
    · have h3 := df h3
      conv => whnf
      have hall : allB s2.ws (atF 0 0) all.length 32 = true := allB_iff.2 fun j hj hm => hmk j (by omega)
      have eb := img_whole so2 hbad img2
      rw [hall, if_pos rfl] at eb
      refine Calls.ret (sbytes_calls S10 0) ?_
      rintro _ w12 ⟨xa, xc, rfl, hox, x12⟩
      conv => whnf
      rw [eb] at hox ⊢
      refine vcReg_go lok ?_
      conv => whnf
      refine ⟨_, run_toStr hox.sl, ?_⟩
      conv => whnf
      have hst := run_toStr (P := Try.prog) (c := ac) (ho10.ext x12).sl
      rw [hal] at hst
      refine ⟨_, hst, ?_⟩
      conv => whnf
      intro γ hγ
      have hγ2 : γ = true := by rw [str_eq hγ rfl rfl]; simp
      clear hγ
      subst hγ2
      conv => whnf
      refine Calls.ret (known22) ?_
      rintro _ w13 ⟨rfl, x13⟩
      conv => whnf
      exact ⟨rfl, x10.trans (x12.trans x13)⟩
end Go.Proofs.Ytgipackjnncabaa
