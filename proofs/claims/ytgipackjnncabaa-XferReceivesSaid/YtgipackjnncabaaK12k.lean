/- Own texts of this claim, joined: W23j, L23a, L23b, L22d, L22e, L23c. -/
import Derived.Test.YtgipackjnncabaaK12j

/- Walks of layer 23, tenth part: the document's receiver. -/
set_option linter.unusedVariables false
namespace Go.Proofs.Ytgipackjnncabaa
open Go.Vc Go.RowKit

theorem built70a (v h : Int) : Try.prog.built 70 [(0, .int .i64 3), (1, .int .u32 v), (5, .int .u32 h), (4, .int .i64 1)] = some #[.int .i64 3, .int .u32 v, .int .i64 0, .int .i64 0, .int .i64 1, .int .u32 h, .slice none 0 0] := by kernel_rfl
section
variable {B : Nat} {w w' : World} {rb g gw c n i : Nat} {s t : FS}
set_option maxHeartbeats 2000000 in
/-- stands -/
theorem rstands_calls (h : RsAt B w rb g gw c n s) (slot : Int) (ver : BitVec 32) :
    Calls Try.prog 148 #[.pointer (some ⟨rb, 0, none⟩), .int .i64 slot, .int .u32 ver.toNat] w (Ret (BytesPost (standsF s n slot ver) w)) := by
  unfold standsF
  refine calls_of_vc lok Try.func148 ?_ rfl
  conv => whnf
  refine Calls.ret (rshave_calls h slot) ?_
  rintro _ w1 ⟨rfl, x1⟩
  conv => whnf
  have gV : ∃ V, V = haveF s n slot := ⟨_, rfl⟩
  obtain ⟨V, hV⟩ := gV
  rw [← hV]
  clear hV
  obtain ⟨va, vb⟩ := V
  conv => whnf
  refine ⟨_, fun w => run_build w 70 _ _ (built70a _ _), ?_⟩
  conv => whnf
  intro w2 hw2
  have hb2 : Blk w2 w1.heap.size 70 (Pk.zero.cells none 0) := by rw [hw2]; exact Blk.new w1 70 _
  have x2 : Ext w1 w2 := by rw [hw2]; exact Ext.new _ _
  clear hw2
  conv => whnf
  have k3 := Blk.storeAgg lok hb2 (t := 70) (us := (ackP ver va 1).cells none 0) rfl 0 (Nat.le_refl 7) (Pk.one _ _ _)
  obtain ⟨w3, hr3, hb3, g3⟩ := k3
  have hb3 : Blk w3 w1.heap.size 70 ((ackP ver va 1).cells none 0) := hb3
  have x3 : Ext w1 w3 := g3.extOf x2 (fun g hg => by cases hg; exact Nat.le_refl _)
  refine ⟨w3, hr3, ?_⟩
  have x03 := x1.trans x3
  have z1 := x1.size
  clear hr3 g3 hb2 x2
  conv => whnf
  refine vcCond_split lok rfl (fun h3 => ?_) (fun h3 => ?_)
  · have h3 : vb = true := h3
    rw [h3, if_pos rfl]
    conv => whnf
    refine ⟨hb3.can 4 (by simp [Pk.cells]) _ rfl, fun w4 hw4 => ?_⟩
    have hb4 : Blk w4 w1.heap.size 70 ((ackP ver va 2).cells none 0) := by rw [hw4]; exact hb3.set 4 _
    have g4 := gr_of_set hw4
    have x04 : Ext w w4 := g4.extOf x03 (fun g hg => by cases hg; exact z1)
    clear hw4
    conv => whnf
    refine ⟨_, rfl, hb4.cells, ?_⟩
    conv => whnf
    refine Calls.ret (rpack_calls (ackP ver va 2) (a := none) (c := 0) (.inl rfl)) ?_
    rintro _ w5 ⟨a5, c5, rfl, ho5, x5⟩
    conv => whnf
    exact ⟨a5, c5, rfl, ho5.base x04.size, x04.trans x5⟩
  · have h3 : vb = false := h3
    rw [h3, if_neg Bool.false_ne_true]
    conv => whnf
    refine ⟨_, rfl, hb3.cells, ?_⟩
    conv => whnf
    refine Calls.ret (rpack_calls (ackP ver va 1) (a := none) (c := 0) (.inl rfl)) ?_
    rintro _ w5 ⟨a5, c5, rfl, ho5, x5⟩
    conv => whnf
    exact ⟨a5, c5, rfl, ho5.base x03.size, x03.trans x5⟩

/-- what comes of bytes -/
def RRcvPost (B rb g gw c n : Nat) (r : FS × List (BitVec 8) × Int) (w : World) (v : Value) (w' : World) : Prop :=
  ∃ a' c', v = .tuple #[.slice a' r.2.1.length c', .int .i64 r.2.2] ∧ Own 5 u8v w.heap.size w' a' c' r.2.1 ∧ RsAt B w' rb g gw c n r.1 ∧ FlMod g gw w w'

set_option maxRecDepth 100000 in
set_option maxHeartbeats 8000000 in
/-- Receive -/
theorem rrcv_calls (h : RsAt B w rb g gw c n s) (slot : Int) (least : BitVec 32) (busy : Bool) {a : Option Addr} {bc : Nat} {b : List (BitVec 8)} (hb : Sl u8v w a b) (hbl : b.length ≤ 16777216) (hbc : b.length ≤ bc) (hop : Num s s.ws.length i) (hi : i ≤ 1000000) :
    Calls Try.prog 78 #[.pointer (some ⟨rb, 0, none⟩), .int .i64 slot, .int .u32 least.toNat, .bool busy, .slice a b.length bc] w (Ret (RRcvPost B rb g gw c n (rcvF s n slot least busy b) w)) := by
  unfold rcvF
  refine calls_of_vc lok Try.func78 ?_ rfl
  conv => whnf
  refine Calls.ret (runpack_calls hb hbl hbc) ?_
  rintro _ w1 ⟨a1, c1, rfl, ho1, x1⟩
  conv => whnf
  have hcan := unpack_can (b := b)
  have gU : ∃ U, U = unpackF b := ⟨_, rfl⟩
  obtain ⟨U, hU⟩ := gU
  rw [← hU] at ho1 hcan ⊢
  clear hU
  obtain ⟨p, e⟩ := U
  have ho1 : Own 5 u8v w.heap.size w1 a1 c1 p.data := ho1
  have hcan : e = 0 → canP p = true := hcan
  have lt1 := h.f.lt
  have ltb := h.b.lt
  have z1 := x1.size
  dsimp only
  conv => whnf
  intro w2 hw2
  have hb2 : Blk w2 w1.heap.size 70 (Pk.zero.cells none 0) := by rw [hw2]; exact Blk.new w1 70 _
  have x2 : Ext w1 w2 := by rw [hw2]; exact Ext.new _ _
  clear hw2
  conv => whnf
  have k3 := Blk.storeAgg lok hb2 (t := 70) (us := p.cells a1 c1) rfl 0 (Nat.le_refl 7) (Pk.one _ _ _)
  obtain ⟨w3, hr3, hb3, g3⟩ := k3
  have hb3 : Blk w3 w1.heap.size 70 (p.cells a1 c1) := hb3
  have x3 : Ext w1 w3 := g3.extOf x2 (fun g hg => by cases hg; exact Nat.le_refl _)
  refine ⟨w3, hr3, ?_⟩
  have x03 := x1.trans x3
  have h3 := h.ext x03
  have hs3 := (ho1.ext x3).sl
  clear hr3 g3 hb2 x2
  have z3 := x03.size
  conv => whnf
  refine vcCond_split lok rfl (fun k1 => ?_) (fun k1 => ?_)
  · have k1 := ne_true k1
    rw [if_pos k1]
    conv => whnf
    exact ⟨none, 0, rfl, Own.nil _ _ _ _, h3, Mod.ofExt _ x03⟩
  have k1 := ne_false k1
  have hcan := hcan k1
  rw [if_neg (fun q => q k1)]
  conv => whnf
  refine ⟨_, hb3.cell (i := 0) rfl, ?_⟩
  conv => whnf
  refine vcCond_split lok rfl (fun k2 => ?_) (fun k2 => ?_)
  · have k2 := dt k2
    rw [if_pos k2]
    conv => whnf
    exact ⟨none, 0, rfl, Own.nil _ _ _ _, h3, Mod.ofExt _ x03⟩
  have k2 := df k2
  rw [if_neg k2]
  conv => whnf
  refine ⟨_, hb3.cell (i := 1) rfl, ?_⟩
  conv => whnf
  refine ⟨_, fun w => run_build w 70 _ _ (built70 _ _), ?_⟩
  conv => whnf
  refine Calls.ret (rpack_calls (ackP p.ver 0#32 0) (a := none) (c := 0) (.inl rfl)) ?_
  rintro _ w4 ⟨a4, c4, rfl, ho4, x4⟩
  have ho4 : Own 5 u8v w3.heap.size w4 a4 c4 (ackF p.ver 0#32 0) := ho4
  conv => whnf
  refine Calls.ret (rshead_calls (h3.ext x4) slot) ?_
  rintro _ w5 ⟨rfl, x5⟩
  conv => whnf
  have x05 := x03.trans (x4.trans x5)
  have h5 := h.ext x05
  have hb5 := hb3.ext (x4.trans x5)
  have hs5 := hs3.ext (x4.trans x5)
  have hA5 : Own 5 u8v w.heap.size w5 a4 c4 (ackF p.ver 0#32 0) := (ho4.ext x5).base z3
  have hAg := fun b hb => (ho4.ge b hb).1
  have z5 := x05.size
  have ea : (packF (ackP p.ver 0#32 0)).1 = ackF p.ver 0#32 0 := rfl
  rw [ea]
  have gA : ∃ A, A = ackF p.ver 0#32 0 := ⟨_, rfl⟩
  obtain ⟨A, hA⟩ := gA
  rw [← hA] at hA5
  clear ho4 ea
  rw [← hA]
  have hdl : p.data.length ≤ 9223372036854775807 ∧ -9223372036854775808 ≤ p.chunk ∧ p.chunk ≤ 9223372036854775807 := by
    rcases canP_cases hcan with ⟨q, _⟩ | ⟨_, ⟨m, q1, q2⟩, _, q⟩ | ⟨q, _⟩
    · rw [q]; exact ⟨Nat.zero_le _, (by decide : (-9223372036854775808 : Int) ≤ 0), (by decide : (0 : Int) ≤ 9223372036854775807)⟩
    · omega
    · rw [q]; exact ⟨Nat.zero_le _, (by decide : (-9223372036854775808 : Int) ≤ 0), (by decide : (0 : Int) ≤ 9223372036854775807)⟩
  unfold offerF dataF
  rw [← hA]
  have gH : ∃ H, H = headR s n slot := ⟨_, rfl⟩
  obtain ⟨H, hH⟩ := gH
  rw [← hH]
  clear hH hA
  obtain ⟨ha, hb', hc⟩ := H
  dsimp only
  conv => whnf
  refine vcReg_meet lok (fun β : Bool => [(50, .bool β)]) (fun β w' => w' = w5 ∧ β = decide (busy = true ∨ p.ver.toNat ≤ least.toNat)) [50] (fun _ => rfl) rfl ?_ ?_
  · conv => whnf
    refine bcase (fun k3 => ?_) (fun k3 => ?_)
    · conv => whnf
      exact ⟨_, ⟨rfl, trivial⟩, rfl, by rw [decide_eq_true (.inl k3)]⟩
    · conv => whnf
      refine ⟨_, hb5.cell (i := 1) rfl, ?_⟩
      conv => whnf
      refine ⟨_, ⟨rfl, trivial⟩, rfl, ?_⟩
      rw [decide_eq_decide]
      exact ⟨fun q => .inr (by omega), fun q => by rcases q with q | q; rw [k3] at q; cases q; omega⟩
  rintro β w6 ⟨hw6, hβ⟩
  subst hw6
  conv => whnf
  refine vcCond_split lok rfl (fun k3 => ?_) (fun k3 => ?_)
  · rw [k3] at hβ
    rw [if_pos (dt hβ.symm)]
    conv => whnf
    exact ⟨a4, c4, rfl, hA5, h5, Mod.ofExt _ x05⟩
  rw [k3] at hβ
  rw [if_neg (df hβ.symm)]
  clear hβ k3
  conv => whnf
  refine ⟨_, hb5.cell (i := 0) rfl, ?_⟩
  conv => whnf
  refine vcCond_split lok rfl (fun k3 => ?_) (fun k3 => ?_)
  · -- an offer
    have k3 := dt k3
    rw [if_pos k3]
    conv => whnf
    refine ⟨_, hb5.cell (i := 1) rfl, ?_⟩
    conv => whnf
    refine vcCond_split lok rfl (fun k4 => ?_) (fun k4 => ?_)
    · have k4 : p.ver = ones := ver_ne.1 (dt k4)
      rw [if_pos k4]
      conv => whnf
      exact ⟨a4, c4, rfl, hA5, h5, Mod.ofExt _ x05⟩
    have k4 : ¬ p.ver = ones := fun q => df k4 (ver_ne.2 q)
    rw [if_neg k4]
    conv => whnf
    refine vcReg_meet lok (fun β : Bool => [(72, .bool β)]) (fun β w' => w' = w6 ∧ β = !decide (hc = true ∧ ha = p.ver ∧ (hb' : Int) = p.size)) [72] (fun _ => rfl) rfl ?_ ?_
    · conv => whnf
      refine bcase (fun k1 => ?_) (fun k1 => ?_)
      · have k1 : hc = false := by simpa using k1
        conv => whnf
        exact ⟨_, ⟨rfl, trivial⟩, rfl, by rw [k1, decide_eq_false (fun q => by cases q.1)]; rfl⟩
      · have k1 : hc = true := by simpa using k1
        conv => whnf
        refine ⟨_, hb5.cell (i := 1) rfl, ?_⟩
        conv => whnf
        refine bcase (fun k2 => ?_) (fun k2 => ?_)
        · have k2 := ne_true k2
          conv => whnf
          exact ⟨_, ⟨rfl, trivial⟩, rfl, by rw [decide_eq_false (fun q => k2 (ver_ne.2 q.2.1))]; rfl⟩
        · have k2 := ver_ne.1 (ne_false k2)
          conv => whnf
          refine ⟨_, hb5.cell (i := 2) rfl, ?_⟩
          conv => whnf
          refine ⟨_, ⟨rfl, trivial⟩, rfl, ?_⟩
          congr 1
          rw [decide_eq_decide]
          exact ⟨fun q => ⟨k1, k2, q⟩, fun q => q.2.2⟩
    rintro β w7 ⟨hw7, hβ⟩
    subst hw7
    conv => whnf
    refine vcCond_split lok rfl (fun k5 => ?_) (fun k5 => ?_)
    · rw [k5] at hβ
      have k6 : ¬ (hc = true ∧ ha = p.ver ∧ (hb' : Int) = p.size) := fun q => by rw [decide_eq_true q] at hβ; cases hβ
      rw [if_neg k6]
      conv => whnf
      refine ⟨_, hb5.cell (i := 1) rfl, ?_⟩
      conv => whnf
      refine ⟨_, hb5.cell (i := 2) rfl, ?_⟩
      conv => whnf
      refine Calls.ret (rsbegin_calls h5 slot p.ver p.size hop (by omega)) ?_
      rintro _ w8 ⟨rfl, h8, m8⟩
      conv => whnf
      have hb8 := m8.keepBlk hb5 (fun e => by rcases e with e | e <;> omega)
      have m08 := (Mod.ofExt (fun k => k = g ∨ k = gw) x05).trans m8
      have z8 := m08.size
      have gW : ∃ W, W = beginSF s n slot p.ver p.size := ⟨_, rfl⟩
      obtain ⟨W, hW⟩ := gW
      rw [← hW] at h8 ⊢
      clear hW
      obtain ⟨t, e⟩ := W
      have h8 : RsAt B w8 rb g gw c n t := h8
      dsimp only
      conv => whnf
      refine vcCond_split lok rfl (fun k7 => ?_) (fun k7 => ?_)
      · have k7 := ne_true k7
        rw [if_neg k7]
        conv => whnf
        exact ⟨none, 0, rfl, Own.nil _ _ _ _, h8, m08⟩
      · have k7 := ne_false k7
        rw [if_pos k7]
        conv => whnf
        refine ⟨_, hb8.cell (i := 1) rfl, ?_⟩
        conv => whnf
        refine Calls.ret (rstands_calls h8 slot p.ver) ?_
        rintro _ w9 ⟨a9, c9, rfl, ho9, x9⟩
        conv => whnf
        exact ⟨a9, c9, rfl, ho9.base z8, h8.ext x9, m08.trans (Mod.ofExt _ x9)⟩
    · rw [k5] at hβ
      have k6 : hc = true ∧ ha = p.ver ∧ (hb' : Int) = p.size := by
        by_cases q : hc = true ∧ ha = p.ver ∧ (hb' : Int) = p.size
        · exact q
        · rw [decide_eq_false q] at hβ; cases hβ
      rw [if_pos k6]
      conv => whnf
      refine ⟨_, hb5.cell (i := 1) rfl, ?_⟩
      conv => whnf
      refine Calls.ret (rstands_calls h5 slot p.ver) ?_
      rintro _ w9 ⟨a9, c9, rfl, ho9, x9⟩
      conv => whnf
      exact ⟨a9, c9, rfl, ho9.base z5, h5.ext x9, Mod.ofExt _ (x05.trans x9)⟩
  -- data
  have k3 := df k3
  rw [if_neg k3]
  conv => whnf
  refine vcReg_meet lok (fun β : Bool => [(95, .bool β)]) (fun β w' => w' = w6 ∧ β = !decide (hc = true ∧ ha = p.ver)) [95] (fun _ => rfl) rfl ?_ ?_
  · conv => whnf
    refine bcase (fun k1 => ?_) (fun k1 => ?_)
    · have k1 : hc = false := by simpa using k1
      conv => whnf
      exact ⟨_, ⟨rfl, trivial⟩, rfl, by rw [k1, decide_eq_false (fun q => by cases q.1)]; rfl⟩
    · have k1 : hc = true := by simpa using k1
      conv => whnf
      refine ⟨_, hb5.cell (i := 1) rfl, ?_⟩
      conv => whnf
      refine ⟨_, ⟨rfl, trivial⟩, rfl, ?_⟩
      show (!decide ((ha.toNat : Int) = (p.ver.toNat : Int))) = _
      congr 1
      rw [decide_eq_decide]
      exact ⟨fun q => ⟨k1, ver_ne.1 q⟩, fun q => ver_ne.2 q.2⟩
  rintro β w7 ⟨hw7, hβ⟩
  subst hw7
  conv => whnf
  refine vcCond_split lok rfl (fun k4 => ?_) (fun k4 => ?_)
  · rw [k4] at hβ
    have k5 : ¬ (hc = true ∧ ha = p.ver) := fun q => by rw [decide_eq_true q] at hβ; cases hβ
    rw [if_pos k5]
    conv => whnf
    exact ⟨a4, c4, rfl, hA5, h5, Mod.ofExt _ x05⟩
  rw [k4] at hβ
  have k5 : hc = true ∧ ha = p.ver := by
    by_cases q : hc = true ∧ ha = p.ver
    · exact q
    · rw [decide_eq_false q] at hβ; cases hβ
  rw [if_neg (fun q => q k5)]
  clear k5 hβ k4
  conv => whnf
  refine ⟨_, hb5.cell (i := 3) rfl, ?_⟩
  conv => whnf
  refine ⟨_, hb5.cell (i := 6) rfl, ?_⟩
  conv => whnf
  refine Calls.ret (rswrite_calls h5 slot p.chunk hdl.2 hs5 hdl.1 hop (by omega)) ?_
  rintro _ w8 ⟨rfl, h8, m8⟩
  conv => whnf
  have sn8 := write_num (at_ := n) (slot := slot) (chunk := p.chunk) (b := p.data) hop
  have hb8 := m8.keepBlk hb5 (fun e => by rcases e with e | e <;> omega)
  have hA8 := m8.keepOwn hA5 (fun b hb e => by have := hAg b hb; rcases e with e | e <;> omega)
  have m08 := (Mod.ofExt (fun k => k = g ∨ k = gw) x05).trans m8
  have z8 := m08.size
  have gW : ∃ W, W = writeSF s n slot p.chunk p.data := ⟨_, rfl⟩
  obtain ⟨W, hW⟩ := gW
  rw [← hW] at h8 sn8 ⊢
  clear hW
  obtain ⟨t, e⟩ := W
  have h8 : RsAt B w8 rb g gw c n t := h8
  have sn8 : Num t s.ws.length (i + 17) := sn8
  have tl := sn8.len
  rw [← tl] at sn8
  dsimp only
  conv => whnf
  refine vcCond_split lok rfl (fun k4 => ?_) (fun k4 => ?_)
  · have k4 : e = 4 := by simpa using k4
    rw [if_neg (by omega), if_pos k4]
    conv => whnf
    refine Calls.ret (rsdrop_calls h8 slot sn8 (by omega)) ?_
    rintro _ w9 ⟨rfl, h9, m9⟩
    conv => whnf
    have hA9 := m9.keepOwn hA8 (fun b hb e => by have := hAg b hb; rcases e with e | e <;> omega)
    have m09 := m08.trans m9
    have gD : ∃ D, D = dropSF t n slot := ⟨_, rfl⟩
    obtain ⟨D, hD⟩ := gD
    rw [← hD] at h9 ⊢
    clear hD
    obtain ⟨u, d⟩ := D
    have h9 : RsAt B w9 rb g gw c n u := h9
    dsimp only
    conv => whnf
    refine vcCond_split lok rfl (fun k5 => ?_) (fun k5 => ?_)
    · have k5 := ne_true k5
      rw [if_neg k5]
      conv => whnf
      exact ⟨none, 0, rfl, Own.nil _ _ _ _, h9, m09⟩
    · have k5 := ne_false k5
      rw [if_pos k5]
      conv => whnf
      exact ⟨a4, c4, rfl, hA9, h9, m09⟩
  have k4 : ¬ e = 4 := by simpa using k4
  conv => whnf
  refine vcReg_meet lok (fun β : Bool => [(118, .bool β)]) (fun β w' => w' = w8 ∧ β = !decide (e = 0 ∨ e = 25)) [118] (fun _ => rfl) rfl ?_ ?_
  · conv => whnf
    refine bcase (fun k1 => ?_) (fun k1 => ?_)
    · have k1 : ¬ e = 0 := ne_true k1
      conv => whnf
      refine ⟨_, ⟨rfl, trivial⟩, rfl, ?_⟩
      congr 1
      rw [decide_eq_decide]
      omega
    · have k1 : e = 0 := ne_false k1
      conv => whnf
      exact ⟨_, ⟨rfl, trivial⟩, rfl, by rw [decide_eq_true (.inl k1)]; rfl⟩
  rintro β w9 ⟨hw9, hβ⟩
  subst hw9
  conv => whnf
  refine vcCond_split lok rfl (fun k5 => ?_) (fun k5 => ?_)
  · rw [k5] at hβ
    have k6 : ¬ (e = 0 ∨ e = 25) := fun q => by rw [decide_eq_true q] at hβ; cases hβ
    rw [if_neg k6, if_neg k4]
    conv => whnf
    exact ⟨none, 0, rfl, Own.nil _ _ _ _, h8, m08⟩
  · rw [k5] at hβ
    have k6 : e = 0 ∨ e = 25 := by
      by_cases q : e = 0 ∨ e = 25
      · exact q
      · rw [decide_eq_false q] at hβ; cases hβ
    rw [if_pos k6]
    conv => whnf
    refine ⟨_, hb8.cell (i := 1) rfl, ?_⟩
    conv => whnf
    refine Calls.ret (rstands_calls h8 slot p.ver) ?_
    rintro _ w10 ⟨a10, c10, rfl, ho10, x10⟩
    conv => whnf
    exact ⟨a10, c10, rfl, ho10.base z8, h8.ext x10, m08.trans (Mod.ofExt _ x10)⟩
end
end Go.Proofs.Ytgipackjnncabaa

/- The laws XferPacks and XferBack, walked. -/
set_option linter.unusedVariables false
namespace Go.Proofs.Ytgipackjnncabaa
open Go.Vc Go.RowKit

theorem fit_pk {w : World} {es : List Value} (h : Fit w (.st (.pair 1 (.int .i64) (.pair 1 (.int .u32) (.pair 1 (.int .i64) (.pair 1 (.int .i64) (.pair 1 (.int .i64) (.pair 1 (.int .u32) (.pair 1 (.slice 1 (.int .u8)) .unit)))))))) es) :
    ∃ (p : Pk) (a : Option Addr) (c : Nat), es = p.cells a c ∧ Sl u8v w a p.data ∧ p.data.length ≤ c := by
  obtain ⟨c1, r1, e1, _, ⟨n1, h1, k1⟩, c2, r2, e2, _, ⟨n2, h2, k2⟩, c3, r3, e3, _, ⟨n3, h3, k3⟩, c4, r4, e4, _, ⟨n4, h4, k4⟩, c5, r5, e5, _, ⟨n5, h5, k5⟩, c6, r6, e6, _, ⟨n6, h6, k6⟩, c7, r7, e7, _, h7, h8⟩ := h
  have h8 : r7 = [] := h8
  obtain ⟨a, len, cap, hs, hl1, hl2, hl3⟩ := h7
  obtain ⟨bs, eb, sb, cb⟩ := fit_u8 (w := w) (a := a) (len := len) (cap := cap) ⟨a, len, cap, rfl, hl1, hl2, hl3⟩
  obtain ⟨v, hv⟩ := wf_u32 k2
  obtain ⟨u, hu⟩ := wf_u32 k6
  refine ⟨⟨n1, v, n3, n4, n5, u, bs⟩, a, cap, ?_, sb, by show bs.length ≤ cap; omega⟩
  rw [e1, e2, e3, e4, e5, e6, e7, h1, h2, h3, h4, h5, h6, hs, h8, hv, hu, ← eb]
  rfl

theorem unpack_len (bs : List (BitVec 8)) : (unpackF bs).1.data.length ≤ bs.length := by
  have hol := open_len bs
  have hx : (upF (openF bs).1).1.data.length ≤ (openF bs).1.length := by
    unfold upF
    generalize (openF bs).1 = x
    simp only
    split
    · simp
    · split
      · simp
      · split <;> simp
  unfold unpackF
  split
  · split
    · show (upF (openF bs).1).1.data.length ≤ _; omega
    · simp [Pk.zero]
  · simp [Pk.zero]

set_option maxHeartbeats 2000000 in
theorem xferPacks_walk {w : World} (p : Pk) {a b : Option Addr} {c d : Nat} {bs : List (BitVec 8)} (hp : Sl u8v w a p.data) (h : Sl u8v w b bs) (hd : bs.length ≤ d) :
    Calls Try.prog 24 #[.agg (p.cells a c).toArray, .slice b bs.length d] w (Law w) := by
  refine calls_of_vc lok Try.func24 ?_ rfl
  conv => whnf
  intro w1 hw1
  have hb1 : Blk w1 w.heap.size 70 (p.cells a c) := by rw [hw1]; exact Blk.new w 70 _
  have x1 : Ext w w1 := by rw [hw1]; exact Ext.new _ _
  clear hw1
  conv => whnf
  refine vcReg_meet lok (fun β : Bool => [(21, .bool β)]) (fun β w' => w' = w1 ∧ β = decide (10000 < p.data.length ∨ 10000 < bs.length)) [21] (fun _ => rfl) rfl ?_ ?_
  · conv => whnf
    refine ⟨_, hb1.cell (i := 6) rfl, ?_⟩
    conv => whnf
    refine bcase (fun h1 => ?_) (fun h1 => ?_)
    · conv => whnf
      exact ⟨_, ⟨rfl, trivial⟩, rfl, by have := dt h1; simp; omega⟩
    · conv => whnf
      exact ⟨_, ⟨rfl, trivial⟩, rfl, by have := df h1; rw [decide_eq_decide]; omega⟩
  rintro β w2 ⟨hw2, hβ⟩
  subst hw2
  conv => whnf
  refine vcCond_split lok rfl (fun h1 => ?_) (fun h1 => ?_)
  · conv => whnf
    refine Calls.ret (known23) ?_
    rintro _ w3 ⟨rfl, x3⟩
    conv => whnf
    exact ⟨rfl, x1.trans x3⟩
  rw [hβ] at h1
  have hl := df h1
  conv => whnf
  refine ⟨p.cells a c, rfl, hb1.cells, ?_⟩
  conv => whnf
  refine Calls.ret (given_calls p a c) ?_
  rintro _ w3 ⟨rfl, x3⟩
  conv => whnf
  have x03 := x1.trans x3
  refine Calls.ret (pack_calls p (hp.ext x03)) ?_
  rintro _ w4 ⟨a4, c4, rfl, ho4, x4⟩
  conv => whnf
  have x04 := x03.trans x4
  refine ⟨p.cells a c, rfl, ((hb1.ext x3).ext x4).cells, ?_⟩
  conv => whnf
  refine Calls.ret (rpack_calls p (hp.ext x04)) ?_
  rintro _ w5 ⟨a5, c5, rfl, ho5, x5⟩
  conv => whnf
  have x05 := x04.trans x5
  refine Calls.ret (unpack_calls (h.ext x05) (by omega) hd) ?_
  rintro _ w6 ⟨a6, c6, rfl, ho6, x6⟩
  conv => whnf
  have x06 := x05.trans x6
  have hul := unpack_len bs
  conv => whnf
  intro w7 hw7
  have hb7 : Blk w7 w6.heap.size 112 (Pk.zero.cells none 0) := by rw [hw7]; exact Blk.new w6 112 _
  have x7 : Ext w6 w7 := by rw [hw7]; exact Ext.new _ _
  clear hw7
  conv => whnf
  have k8 := Blk.storeAgg lok hb7 (t := 112) (us := (unpackF bs).1.cells a6 c6) rfl 0 (Nat.le_refl 7) (Pk.one _ _ _)
  obtain ⟨w8, hr8, hb8, g8⟩ := k8
  have hb8 : Blk w8 w6.heap.size 112 ((unpackF bs).1.cells a6 c6) := hb8
  have x8 : Ext w6 w8 := g8.extOf x7 (fun g hg => by cases hg; exact Nat.le_refl _)
  refine ⟨w8, hr8, ?_⟩
  have x08 := x06.trans x8
  conv => whnf
  refine Calls.ret (runpack_calls (h.ext x08) (by omega) hd) ?_
  rintro _ w9 ⟨a9, c9, rfl, ho9, x9⟩
  conv => whnf
  have x09 := x08.trans x9
  conv => whnf
  intro w10 hw10
  have hb10 : Blk w10 w9.heap.size 70 (Pk.zero.cells none 0) := by rw [hw10]; exact Blk.new w9 70 _
  have x10 : Ext w9 w10 := by rw [hw10]; exact Ext.new _ _
  clear hw10
  conv => whnf
  have k11 := Blk.storeAgg lok hb10 (t := 70) (us := (unpackF bs).1.cells a9 c9) rfl 0 (Nat.le_refl 7) (Pk.one _ _ _)
  obtain ⟨w11, hr11, hb11, g11⟩ := k11
  have hb11 : Blk w11 w9.heap.size 70 ((unpackF bs).1.cells a9 c9) := hb11
  have x11 : Ext w9 w11 := g11.extOf x10 (fun g hg => by cases hg; exact Nat.le_refl _)
  refine ⟨w11, hr11, ?_⟩
  have x011 := x09.trans x11
  have ho4' := ho4.ext (((x5.trans x6).trans x8).trans (x9.trans x11))
  have ho5' := ho5.ext ((x6.trans x8).trans (x9.trans x11))
  have ho6' := ho6.ext (x8.trans (x9.trans x11))
  have ho9' := ho9.ext x11
  have hb8' := hb8.ext (x9.trans x11)
  clear hr8 hr11 g8 g11 hb7 hb10 x7 x10
  generalize unpackF bs = up at *
  obtain ⟨q, e⟩ := up
  conv => whnf
  refine vcDraw_meet lok mixed (Ext w11) [12] [0, 1, 2, 3, 4, 5, 6, 7, 8, 9, 10, 11, 13, 12, 14, 15, 16, 17, 18, 19, 20, 21, 22, 23, 24]
    (fun _ : Unit => [(4, .bool true)]) (fun _ w' => Ext w11 w') [4] (fun _ => rfl) rfl (by kernel_rfl) (fun w12 hw12 => ⟨hw12 ▸ Ext.drew w11, ?_⟩) ?_
  · have x12 : Ext w11 w12 := hw12 ▸ Ext.drew w11
    conv => whnf
    refine ⟨_, fun w' hw' => run_toStr (ho4'.sl.ext hw'), ?_⟩
    conv => whnf
    refine ⟨_, fun w' hw' => run_toStr (ho5'.sl.ext hw'), ?_⟩
    conv => whnf
    intro γ hγ
    have hγ2 : γ = true := by rw [str_eq hγ rfl rfl]; simp
    clear hγ
    subst hγ2
    conv => whnf
    refine bcase (fun _ => ?_) (fun h5 => absurd rfl (df h5))
    conv => whnf
    refine ⟨q.cells a6 c6, rfl, fun w' hw' => (hb8'.ext hw').cells, ?_⟩
    conv => whnf
    refine ⟨q.cells a9 c9, rfl, fun w' hw' => (hb11.ext hw').cells, ?_⟩
    conv => whnf
    refine Calls.ret (taken_calls q a6 c6) ?_
    rintro _ w13 ⟨rfl, x13⟩
    conv => whnf
    refine ⟨_, fun _ h => h, x12.trans x13, ?_⟩
    conv => whnf
    refine Calls.ret (psame_calls q (ho6'.sl.ext (x12.trans x13)) (ho9'.sl.ext (x12.trans x13))) ?_
    rintro _ w14 ⟨rfl, x14⟩
    conv => whnf
    refine bcase (fun _ => ?_) (fun h5 => absurd rfl (df h5))
    conv => whnf
    refine Calls.ret (known23) ?_
    rintro _ w15 ⟨rfl, x15⟩
    conv => whnf
    exact ⟨(), ⟨rfl, trivial⟩, ((x12.trans x13).trans x14).trans x15⟩
  rintro _ w12 x12
  conv => whnf
  exact ⟨rfl, x011.trans x12⟩

set_option maxHeartbeats 2000000 in
theorem xferBack_walk {w : World} (p : Pk) {a b : Option Addr} {c d : Nat} {bs : List (BitVec 8)} (hp : Sl u8v w a p.data) (h : Sl u8v w b bs) (hd : bs.length ≤ d) :
    Calls Try.prog 25 #[.agg (p.cells a c).toArray, .slice b bs.length d] w (Law w) := by
  refine calls_of_vc lok Try.func25 ?_ rfl
  conv => whnf
  intro w1 hw1
  have hb1 : Blk w1 w.heap.size 70 (p.cells a c) := by rw [hw1]; exact Blk.new w 70 _
  have x1 : Ext w w1 := by rw [hw1]; exact Ext.new _ _
  clear hw1
  conv => whnf
  refine vcReg_meet lok (fun β : Bool => [(21, .bool β)]) (fun β w' => w' = w1 ∧ β = decide (10000 < p.data.length ∨ 10000 < bs.length)) [21] (fun _ => rfl) rfl ?_ ?_
  · conv => whnf
    refine ⟨_, hb1.cell (i := 6) rfl, ?_⟩
    conv => whnf
    refine bcase (fun h1 => ?_) (fun h1 => ?_)
    · conv => whnf
      exact ⟨_, ⟨rfl, trivial⟩, rfl, by have := dt h1; simp; omega⟩
    · conv => whnf
      exact ⟨_, ⟨rfl, trivial⟩, rfl, by have := df h1; rw [decide_eq_decide]; omega⟩
  rintro β w2 ⟨hw2, hβ⟩
  subst hw2
  conv => whnf
  refine vcCond_split lok rfl (fun h1 => ?_) (fun h1 => ?_)
  · conv => whnf
    refine Calls.ret (known23) ?_
    rintro _ w3 ⟨rfl, x3⟩
    conv => whnf
    exact ⟨rfl, x1.trans x3⟩
  rw [hβ] at h1
  have hl := df h1
  conv => whnf
  refine ⟨p.cells a c, rfl, hb1.cells, ?_⟩
  conv => whnf
  refine Calls.ret (given_calls p a c) ?_
  rintro _ w3 ⟨rfl, x3⟩
  conv => whnf
  have x03 := x1.trans x3
  refine Calls.ret (pack_calls p (hp.ext x03)) ?_
  rintro _ w4 ⟨a4, c4, rfl, ho4, x4⟩
  conv => whnf
  have x04 := x03.trans x4
  have hb14 := (hb1.ext x3).ext x4
  have hpk : (canP p = false ∧ packF p = ([], 1)) ∨ (canP p = true ∧ packF p = (sealF (bodyF p), 0)) := by
    unfold packF
    cases canP p <;> simp
  conv => whnf
  refine vcCond_meet (fun _ : Unit => [(1, .slice b bs.length d)]) (fun _ w' => Ext w w') ?_ ?_
  · rcases hpk with ⟨hcp, ep⟩ | ⟨hcp, ep⟩
    · rw [ep]
      refine vcCond_false lok (rfl) ?_
      conv => whnf
      exact ⟨(), ⟨rfl, trivial⟩, x04⟩
    · rw [ep] at ho4 ⊢
      refine vcCond_true lok (rfl) ?_
      conv => whnf
      have hbl : (bodyF p).length ≤ 10020 := by
        unfold bodyF
        simp only [List.length_append, enc_len]
        split
        · simp [enc_len]
        · split
          · simp [enc_len]; omega
          · simp [enc_len]
      have hsl := sealF_len (bodyF p)
      have eu := unpack_pack hcp
      generalize sealF (bodyF p) = pb at *
      have ho4 : Own 5 u8v w3.heap.size w4 a4 c4 pb := ho4
      have gu := unpack_calls ho4.sl (by omega) ho4.le.1
      rw [eu] at gu
      refine Calls.ret (gu) ?_
      rintro _ w5 ⟨a5, c5, rfl, ho5, x5⟩
      conv => whnf
      have ho5 : Own 5 u8v w4.heap.size w5 a5 c5 p.data := ho5
      conv => whnf
      intro w7 hw7
      have hb7 : Blk w7 w5.heap.size 112 (Pk.zero.cells none 0) := by rw [hw7]; exact Blk.new w5 112 _
      have x7 : Ext w5 w7 := by rw [hw7]; exact Ext.new _ _
      clear hw7
      conv => whnf
      have k8 := Blk.storeAgg lok hb7 (t := 112) (us := p.cells a5 c5) rfl 0 (Nat.le_refl 7) (Pk.one _ _ _)
      obtain ⟨w8, hr8, hb8, g8⟩ := k8
      have hb8 : Blk w8 w5.heap.size 112 (p.cells a5 c5) := hb8
      have x8 : Ext w5 w8 := g8.extOf x7 (fun g hg => by cases hg; exact Nat.le_refl _)
      refine ⟨w8, hr8, ?_⟩
      have x08 := (x04.trans x5).trans x8
      have hb18 := (hb14.ext x5).ext x8
      conv => whnf
      refine vcDraw_meet lok mixed (Ext w8) [4] [0, 1, 2, 3, 5, 4, 6, 7, 8]
        (fun _ : Unit => [(44, .bool false)]) (fun _ w' => Ext w8 w') [44] (fun _ => rfl) rfl (by kernel_rfl) (fun w12 hw12 => ⟨hw12 ▸ Ext.drew w8, ?_⟩) ?_
      · have x12 : Ext w8 w12 := hw12 ▸ Ext.drew w8
        conv => whnf
        refine ⟨p.cells a5 c5, rfl, fun w' hw' => (hb8.ext hw').cells, ?_⟩
        conv => whnf
        refine ⟨p.cells a c, rfl, fun w' hw' => (hb18.ext hw').cells, ?_⟩
        conv => whnf
        refine Calls.ret (taken_calls p a5 c5) ?_
        rintro _ w13 ⟨rfl, x13⟩
        conv => whnf
        refine ⟨_, fun _ h => h, x12.trans x13, ?_⟩
        conv => whnf
        refine Calls.ret (psame_calls p (ho5.sl.ext (x8.trans (x12.trans x13))) (hp.ext (x08.trans (x12.trans x13)))) ?_
        rintro _ w14 ⟨rfl, x14⟩
        conv => whnf
        exact ⟨(), ⟨rfl, trivial⟩, (x12.trans x13).trans x14⟩
      rintro _ w12 x12
      conv => whnf
      refine vcCond_false lok (rfl) ?_
      conv => whnf
      exact ⟨(), ⟨rfl, trivial⟩, x08.trans x12⟩
  rintro _ w5 x05
  conv => whnf
  have hul := unpack_len bs
  refine Calls.ret (unpack_calls (h.ext x05) (by omega) hd) ?_
  rintro _ w6 ⟨a6, c6, rfl, ho6, x6⟩
  conv => whnf
  have x06 := x05.trans x6
  conv => whnf
  intro w7 hw7
  have hb7 : Blk w7 w6.heap.size 112 (Pk.zero.cells none 0) := by rw [hw7]; exact Blk.new w6 112 _
  have x7 : Ext w6 w7 := by rw [hw7]; exact Ext.new _ _
  clear hw7
  conv => whnf
  have k8 := Blk.storeAgg lok hb7 (t := 112) (us := (unpackF bs).1.cells a6 c6) rfl 0 (Nat.le_refl 7) (Pk.one _ _ _)
  obtain ⟨w8, hr8, hb8, g8⟩ := k8
  have hb8 : Blk w8 w6.heap.size 112 ((unpackF bs).1.cells a6 c6) := hb8
  have x8 : Ext w6 w8 := g8.extOf x7 (fun g hg => by cases hg; exact Nat.le_refl _)
  refine ⟨w8, hr8, ?_⟩
  have x08 := x06.trans x8
  have ho8 := ho6.ext x8
  clear hr8 g8 hb7 x7
  conv => whnf
  refine vcCond_split lok rfl (fun k1 => ?_) (fun k1 => ?_)
  · have k1 := ne_true k1
    have ez : (unpackF bs).1 = Pk.zero := by
      unfold unpackF at k1 ⊢
      split
      · rename_i q
        rw [if_pos q] at k1
        split
        · rename_i q2
          rw [if_pos q2] at k1
          exact absurd rfl k1
        · rfl
      · rfl
    rw [ez] at hb8 ho8
    conv => whnf
    refine vcReg_go lok ?_
    conv => whnf
    refine ⟨Pk.zero.cells a6 c6, rfl, hb8.cells, ?_⟩
    conv => whnf
    refine Calls.ret (taken_calls Pk.zero a6 c6) ?_
    rintro _ w9 ⟨rfl, x9⟩
    conv => whnf
    refine ⟨_, fun w => run_build w 70 _ _ built70z, ?_⟩
    conv => whnf
    have gs := psame_calls (w := w9) Pk.zero (a := a6) (b := none) (c := c6) (d := 0) (.inl rfl) (.inl rfl)
    refine Calls.ret (gs) ?_
    rintro _ w10 ⟨rfl, x10⟩
    conv => whnf
    refine Calls.ret (known23) ?_
    rintro _ w11 ⟨rfl, x11⟩
    conv => whnf
    exact ⟨rfl, ((x08.trans x9).trans x10).trans x11⟩
  · have k1 := ne_false k1
    have epk := pack_unpack k1
    conv => whnf
    refine ⟨(unpackF bs).1.cells a6 c6, rfl, hb8.cells, ?_⟩
    conv => whnf
    have gp := pack_calls (unpackF bs).1 (c := c6) ho8.sl
    rw [epk] at gp
    refine Calls.ret (gp) ?_
    rintro _ w9 ⟨a9, c9, rfl, ho9, x9⟩
    conv => whnf
    conv => whnf
    refine vcReg_go lok ?_
    conv => whnf
    refine ⟨_, run_toStr ho9.sl, ?_⟩
    conv => whnf
    refine ⟨_, run_toStr (h.ext (x08.trans x9)), ?_⟩
    conv => whnf
    intro γ hγ
    have hγ2 : γ = true := by rw [str_eq hγ rfl rfl]; simp
    clear hγ
    subst hγ2
    conv => whnf
    refine Calls.ret (known23) ?_
    rintro _ w11 ⟨rfl, x11⟩
    conv => whnf
    exact ⟨rfl, (x08.trans x9).trans x11⟩
end Go.Proofs.Ytgipackjnncabaa

/- The law XferSenders, walked. -/
set_option linter.unusedVariables false
namespace Go.Proofs.Ytgipackjnncabaa
open Go.Vc Go.RowKit

theorem own_pre {α : Type} {T : TypeId} {f : α → Value} {B : Nat} {w : World} {a : Option Addr} {c : Nat} {xs ys : List α} (h : Own T f B w a c (xs ++ ys)) : Own T f B w a c xs := by
  obtain ⟨h1, h2⟩ := h
  refine ⟨by simp, ?_⟩
  rcases h2 with ⟨h2, h3⟩ | ⟨g, cap, cur, hv, hB, hh, hn, hcm, hs, ht⟩
  · rw [List.length_append] at h3
    injection h2 with e1 e2 e3
    have : xs.length = 0 := by omega
    exact .inl ⟨by rw [e1, e3, this], this⟩
  · injection hv with e1 e2 e3
    rw [List.length_append] at hn
    refine .inr ⟨g, cap, cur, by rw [e1, e3], hB, hh, by omega, hcm, hs, ?_⟩
    simp only [Nat.mul_one, List.map_append, List.length_append] at ht ⊢
    have h4 := congrArg (List.take xs.length) ht
    rw [List.take_take, Nat.min_eq_left (by omega), List.take_left' (by rw [List.length_map])] at h4
    exact h4

/-- an event: its cells, and what they read as -/
structure Ev where
  tick : Bool
  raw : Bool
  b : List (BitVec 8)
  p : Pk
  ba : Option Addr
  bc : Nat
  pa : Option Addr
  pc : Nat
def Ev.cells (e : Ev) : List Value := [.bool e.tick, .bool e.raw, .slice e.ba e.b.length e.bc] ++ e.p.cells e.pa e.pc
structure EvOk (w : World) (e : Ev) : Prop where
  b : Sl u8v w e.ba e.b
  bc : e.b.length ≤ e.bc
  p : Sl u8v w e.pa e.p.data
  pc : e.p.data.length ≤ e.pc
theorem EvOk.ext {w w' : World} {e : Ev} (h : EvOk w e) (x : Ext w w') : EvOk w' e := ⟨h.b.ext x, h.bc, h.p.ext x, h.pc⟩

def bytesE (e : Ev) : List (BitVec 8) := if e.raw = true then e.b.take 3000 else (packF e.p).1

theorem pack_len (p : Pk) : (packF p).1.length ≤ 3000 := by
  unfold packF
  split
  · rename_i h
    show (sealF (bodyF p)).length ≤ 3000
    rw [sealF_len]
    rcases canP_cases h with ⟨e, _⟩ | ⟨e, _, h2⟩ | ⟨e, _⟩
    · rw [e]; simp [bodyF, enc_len]
    · have : (bodyF p).length = 6 + p.data.length := by rw [e]; simp [bodyF, enc_len]; omega
      omega
    · rw [e]; simp [bodyF, enc_len]
  · exact Nat.zero_le _

theorem bytesE_len (e : Ev) : (bytesE e).length ≤ 3000 := by
  unfold bytesE
  split
  · rw [List.length_take]; omega
  · exact pack_len _

/-- bytes -/
theorem evBytes_calls {w : World} (e : Ev) (h : EvOk w e) :
    Calls Try.prog 76 #[.agg e.cells.toArray] w (Ret fun v w' => ∃ a c, v = .slice a (bytesE e).length c ∧ Sl u8v w' a (bytesE e) ∧ (bytesE e).length ≤ c ∧ Ext w w') := by
  refine calls_of_vc lok Try.func76 ?_ rfl
  conv => whnf
  intro w1 hw1
  have hb1 : Blk w1 w.heap.size 72 e.cells := by rw [hw1]; exact Blk.new w 72 _
  have x1 : Ext w w1 := by rw [hw1]; exact Ext.new _ _
  clear hw1
  conv => whnf
  refine ⟨_, hb1.cell (i := 1) rfl, ?_⟩
  conv => whnf
  refine vcCond_split lok rfl (fun h1 => ?_) (fun h1 => ?_)
  · have er : bytesE e = e.b.take 3000 := if_pos h1
    have el : (bytesE e).length = min 3000 e.b.length := by rw [er, List.length_take]
    conv => whnf
    refine ⟨_, hb1.cell (i := 2) rfl, ?_⟩
    conv => whnf
    refine ⟨_, hb1.cell (i := 2) rfl, ?_⟩
    conv => whnf
    have e5 : (if (3000 : Int) < (e.b.length : Int) then (3000 : Int) else (e.b.length : Int)) = ((bytesE e).length : Int) := by rw [el]; split <;> omega
    rw [e5]
    have hbc := h.bc
    refine ⟨⟨by omega, by omega⟩, ?_⟩
    rw [Int.toNat_natCast]
    conv => whnf
    exact ⟨e.ba, e.bc, rfl, by rw [er]; exact (h.b.ext x1).take 3000, by omega, x1⟩
  · have er : bytesE e = (packF e.p).1 := if_neg (by rw [h1]; exact Bool.false_ne_true)
    conv => whnf
    refine ⟨e.p.cells e.pa e.pc, rfl, hb1.cellsAt 3 _ (fun i v hv => by rw [← hv]; exact (List.getElem?_append_right (Nat.le_add_right 3 i)).trans (by show (e.p.cells e.pa e.pc)[3 + i - 3]? = _; rw [show 3 + i - 3 = i by omega])), ?_⟩
    conv => whnf
    refine Calls.ret (rpack_calls e.p (h.p.ext x1)) ?_
    rintro _ w2 ⟨a2, c2, rfl, ho2, x2⟩
    conv => whnf
    rw [er]
    exact ⟨a2, c2, rfl, ho2.sl, ho2.le.1, x1.trans x2⟩

section
variable {T B : Nat} {w w' : World} {b c : Nat} {a : Option Addr} {s : SS}
theorem SnAt.keep (h : SnAt T B w b a c s) {row : Option Nat} (g : Gr w w' row) (h1 : row ≠ some b) (h2 : ∀ x, blockOf a = some x → row ≠ some x) : SnAt T B w' b a c s :=
  ⟨h.blk.keep (g.block _ h.blk.lt (fun e => h1 e.symm)), g.keepOwn h.own h2, h.lo, h.ne⟩
end

theorem fit_ev {w : World} {es : List Value} (h : Fit w (.st (.pair 1 .bool (.pair 1 .bool (.pair 1 (.slice 1 (.int .u8)) (.pair 7 (.st (.pair 1 (.int .i64) (.pair 1 (.int .u32) (.pair 1 (.int .i64) (.pair 1 (.int .i64) (.pair 1 (.int .i64) (.pair 1 (.int .u32) (.pair 1 (.slice 1 (.int .u8)) .unit)))))))) .unit))))) es) :
    ∃ e : Ev, es = e.cells ∧ EvOk w e := by
  obtain ⟨c1, r1, e1, _, ⟨n1, h1⟩, c2, r2, e2, _, ⟨n2, h2⟩, c3, r3, e3, _, h3, c4, r4, e4, _, h4, h5⟩ := h
  have h5 : r4 = [] := h5
  obtain ⟨a, len, cap, hs, hl1, hl2, hl3⟩ := h3
  have g := fit_u8 (w := w) (a := a) (len := len) (cap := cap) ⟨a, len, cap, rfl, hl1, hl2, hl3⟩
  obtain ⟨bs, eb, sb, cb⟩ := g
  have g := fit_pk h4
  obtain ⟨p, pa, pc, ep, sp, cp⟩ := g
  refine ⟨⟨n1, n2, bs, p, a, cap, pa, pc⟩, ?_, sb, by show bs.length ≤ cap; omega, sp, cp⟩
  rw [e1, e2, e3, e4, h1, h2, hs, ep, h5, ← eb, List.append_nil]
  rfl

/-- an event comes to a sender -/
def evS (s : SS) (e : Ev) : SS × List (BitVec 8) := if e.tick = true then tickF s else recvF s (bytesE e)

theorem take_same (s : SS) (p : Pk) : (takeF s p).ver = s.ver ∧ (takeF s p).data = s.data ∧ (takeF s p).wait = s.wait := by
  unfold takeF
  split
  · exact ⟨rfl, rfl, rfl⟩
  · split <;> exact ⟨rfl, rfl, rfl⟩
theorem evS_same (s : SS) (e : Ev) (hw : s.wait ≤ 9223372036854775807 ) (h0 : 0 ≤ s.wait) : (evS s e).1.ver = s.ver ∧ (evS s e).1.data = s.data ∧ 0 ≤ (evS s e).1.wait ∧ (evS s e).1.wait ≤ 9223372036854775807 := by
  unfold evS
  split
  · unfold tickF
    split
    · exact ⟨rfl, rfl, h0, hw⟩
    · split
      · exact ⟨rfl, rfl, by show 0 ≤ s.wait - 1; omega, by show s.wait - 1 ≤ _; omega⟩
      · exact ⟨rfl, rfl, by show (0 : Int) ≤ 4; decide, by show (4 : Int) ≤ _; decide⟩
  · unfold recvF
    have g := take_same s (unpackF (bytesE e)).1
    split
    · exact ⟨rfl, rfl, h0, hw⟩
    · split
      · exact ⟨g.1, g.2.1, by show (0 : Int) ≤ 4; decide, by show (4 : Int) ≤ _; decide⟩
      · exact ⟨g.1, g.2.1, by rw [g.2.2]; exact h0, by rw [g.2.2]; exact hw⟩

theorem out_len (s : SS) : (outF s).length ≤ 3000 := by
  unfold outF
  split
  · exact pack_len _
  · exact Nat.zero_le _
theorem evS_len (s : SS) (e : Ev) : (evS s e).2.length ≤ 3000 := by
  unfold evS
  split
  · unfold tickF
    split
    · exact Nat.zero_le _
    · split
      · exact Nat.zero_le _
      · exact out_len _
  · unfold recvF
    split
    · exact Nat.zero_le _
    · split
      · exact out_len _
      · exact Nat.zero_le _

/-- both senders, apart -/
structure TwoS (B : Nat) (w : World) (b : Nat) (a : Option Addr) (c : Nat) (b' : Nat) (a' : Option Addr) (c' : Nat) (s : SS) : Prop where
  f : SnAt 190 B w b a c s
  r : SnAt 136 B w b' a' c' s
  n1 : b ≠ b'
  n2 : ∀ g, blockOf a = some g → g ≠ b'
  n3 : ∀ g, blockOf a' = some g → g ≠ b
theorem TwoS.ext {B : Nat} {w w' : World} {b c b' c' : Nat} {a a' : Option Addr} {s : SS} (h : TwoS B w b a c b' a' c' s) (x : Ext w w') : TwoS B w' b a c b' a' c' s := ⟨h.f.ext x, h.r.ext x, h.n1, h.n2, h.n3⟩
theorem TwoS.lt {B : Nat} {w : World} {b c b' c' : Nat} {a a' : Option Addr} {s : SS} (h : TwoS B w b a c b' a' c' s) : B ≤ b ∧ b < w.heap.size ∧ B ≤ b' ∧ b' < w.heap.size ∧ (∀ g, blockOf a = some g → g < w.heap.size) ∧ ∀ g, blockOf a' = some g → g < w.heap.size :=
  ⟨h.f.lo, h.f.blk.lt, h.r.lo, h.r.blk.lt, fun g hg => (h.f.own.ge g hg).2, fun g hg => (h.r.own.ge g hg).2⟩

set_option maxHeartbeats 2000000 in
theorem xferSenders_walk {w : World} (ver : BitVec 32) {a la : Option Addr} {c lc : Nat} {bs : List (BitVec 8)} {es : List Ev} (h : Sl u8v w a bs) (hc : bs.length ≤ c) (hl : SlN 10 Ev.cells w la es) (hok : ∀ e ∈ es, EvOk w e) :
    Calls Try.prog 27 #[.int .u32 ver.toNat, .slice a bs.length c, .slice la es.length lc] w (Law w) := by
  refine calls_of_vc lok Try.func27 ?_ rfl
  conv => whnf
  refine vcCond_split lok rfl (fun h1 => ?_) (fun h1 => ?_)
  · conv => whnf
    refine Calls.ret (known23) ?_
    rintro _ w1 ⟨rfl, x1⟩
    conv => whnf
    exact ⟨rfl, x1⟩
  have h1 := df h1
  conv => whnf
  refine Calls.ret (lent_calls h (by omega)) ?_
  rintro _ w1 ⟨a1, c1, rfl, ho1, x1⟩
  conv => whnf
  have hs1 : Sl u8v w1 a1 bs := by simpa using ho1.sl.take bs.length
  have hc1 : bs.length + 1 ≤ c1 := by simpa using ho1.le.1
  refine Calls.ret (newSender_calls ver hs1 (by omega)) ?_
  rintro _ w2 hp
  conv => whnf
  rcases hp with ⟨hbad, rfl, hw2⟩ | ⟨hgood, b, a2, c2, rfl, hs2, x2⟩
  · subst hw2
    conv => whnf
    have g3 := rnewSender_calls (w := w2) (c := c) ver (h.ext x1) (by omega)
    rw [if_pos hbad] at g3
    refine Calls.ret (g3) ?_
    rintro _ w3 ⟨b, a3, c3, rfl, hs3, x3⟩
    conv => whnf
    refine vcReg_go lok ?_
    conv => whnf
    refine Calls.ret (kept_calls (ho1.ext x3).sl (h.ext (x1.trans x3)) hc1 (by omega)) ?_
    rintro _ w4 ⟨rfl, hw4⟩
    conv => whnf
    subst hw4
    conv => whnf
    refine vcCond_false lok (rfl) ?_
    conv => whnf
    have z1 := x1.size
    have z3 := x3.size
    refine Calls.ret (spoil_calls (own_pre (ho1.ext x3)) (by omega) (by omega)) ?_
    rintro _ w5 ⟨rfl, g5⟩
    conv => whnf
    have x5 : Ext w w5 := g5.extOf (x1.trans x3) (fun g hg => (ho1.ge g hg).1)
    conv => whnf
    refine vcLoop_inv lok (σ := Unit) (fun _ => [(12, .int .i64 0), (8, .pointer none), (10, .pointer (some ⟨b, 0, none⟩)), (2, .slice la es.length lc)]) (fun _ w6 => w6 = w5) (fun _ => 0) () ⟨rfl, rfl, rfl, rfl, trivial⟩ rfl ?_
    rintro _ w6 hw6
    subst hw6
    conv => whnf
    refine vcReg_meet lok (fun β : Bool => [(62, .bool β)]) (fun β w' => w' = w6 ∧ β = false) [62] (fun _ => rfl) rfl ?_ ?_
    · conv => whnf
      refine bcase (fun _ => ?_) (fun _ => ?_)
      · conv => whnf
        exact ⟨_, ⟨rfl, trivial⟩, rfl, rfl⟩
      · conv => whnf
        exact ⟨_, ⟨rfl, trivial⟩, rfl, rfl⟩
    rintro β w7 ⟨hw7, hβ⟩
    subst hw7 hβ
    conv => whnf
    refine vcCond_false lok (rfl) ?_
    conv => whnf
    refine Calls.ret (known23) ?_
    rintro _ w8 ⟨rfl, x8⟩
    conv => whnf
    exact ⟨rfl, x5.trans x8⟩
  · conv => whnf
    have g3 := rnewSender_calls (w := w2) (c := c) ver (h.ext (x1.trans x2)) (by omega)
    rw [if_neg hgood] at g3
    refine Calls.ret (g3) ?_
    rintro _ w3 ⟨b', a3, c3, rfl, hs3, x3⟩
    conv => whnf
    have x13 := x2.trans x3
    refine vcReg_go lok ?_
    conv => whnf
    refine Calls.ret (kept_calls (ho1.ext x13).sl (h.ext (x1.trans x13)) hc1 (by omega)) ?_
    rintro _ w4 ⟨rfl, hw4⟩
    conv => whnf
    subst hw4
    conv => whnf
    refine vcCond_false lok (rfl) ?_
    conv => whnf
    have z1 := x1.size
    have z2 := x2.size
    have z3 := x3.size
    have q2 := hs2.blk.lt
    have q2' := hs2.lo
    have q3' := hs3.lo
    refine Calls.ret (spoil_calls (own_pre (ho1.ext x13)) (by omega) (by omega)) ?_
    rintro _ w5 ⟨rfl, g5⟩
    conv => whnf
    have x5 : Ext w w5 := g5.extOf (x1.trans x13) (fun g hg => (ho1.ge g hg).1)
    have qo : ∀ g, blockOf a1 = some g → g < w1.heap.size := fun g hg => (ho1.ge g hg).2
    have t5 : TwoS w.heap.size w5 b a2 c2 b' a3 c3 ⟨ver, bs, 0#32, false, false, 0⟩ :=
      ⟨((hs2.ext x3).base z1).keep g5 (fun e => by have := qo _ e; omega) (fun g hg e => by have := qo _ e; have := (hs2.own.ge g hg).1; omega),
       (hs3.base (by omega)).keep g5 (fun e => by have := qo _ e; omega) (fun g hg e => by have := qo _ e; have := (hs3.own.ge g hg).1; omega),
       by omega, fun g hg e => by have := (hs2.own.ge g hg).2; omega, fun g hg e => by have := (hs3.own.ge g hg).1; omega⟩
    have hv : ver ≠ 0#32 := fun e => hgood (.inl e)
    have hl2 : bs.length ≤ 2048 := by
      rcases Nat.lt_or_ge 2048 bs.length with e | e
      · exact absurd (.inr (.inr e)) hgood
      · exact e
    conv => whnf
    refine vcLoop_inv lok (σ := Nat × SS) (fun ⟨i, s⟩ => [(12, .int .i64 i), (8, .pointer (some ⟨b, 0, none⟩)), (10, .pointer (some ⟨b', 0, none⟩)), (2, .slice la es.length lc)])
      (fun ⟨i, s⟩ w6 => i ≤ es.length ∧ TwoS w.heap.size w6 b a2 c2 b' a3 c3 s ∧ s.ver = ver ∧ s.data = bs ∧ (0 ≤ s.wait ∧ s.wait ≤ 9223372036854775807) ∧ Ext w w6) (fun t => es.length - t.1)
      (0, ⟨ver, bs, 0#32, false, false, 0⟩) ⟨rfl, rfl, rfl, rfl, trivial⟩ ⟨Nat.zero_le _, t5, rfl, rfl, ⟨by show (0 : Int) ≤ 0; decide, by show (0 : Int) ≤ _; decide⟩, x5⟩ ?_
    rintro ⟨i, s⟩ w6 ⟨hi, t6, hsv, hsd, ⟨hw0, hw1⟩, x6⟩
    conv => whnf
    refine vcReg_meet lok (fun β : Bool => [(62, .bool β)]) (fun β w' => w' = w6 ∧ β = decide (i < es.length ∧ i < 60)) [62] (fun _ => rfl) rfl ?_ ?_
    · conv => whnf
      refine bcase (fun h1 => ?_) (fun h1 => ?_)
      · have h1 := dt h1
        conv => whnf
        refine bcase (fun h2 => ?_) (fun h2 => ?_)
        · have h2 := dt h2
          conv => whnf
          exact ⟨_, ⟨rfl, trivial⟩, rfl, by rw [eq_comm, decide_eq_true_iff]; omega⟩
        · have h2 := df h2
          conv => whnf
          refine ⟨false, ⟨?_, trivial⟩, rfl, by rw [eq_comm, decide_eq_false_iff_not]; omega⟩
          rfl
      · have h1 := df h1
        conv => whnf
        exact ⟨_, ⟨rfl, trivial⟩, rfl, by rw [eq_comm, decide_eq_false_iff_not]; omega⟩
    rintro β w7 ⟨hw7, hβ⟩
    subst hw7
    conv => whnf
    refine vcCond_split lok rfl (fun h1 => ?_) (fun h1 => ?_)
    rotate_left
    · rw [h1] at hβ
      conv => whnf
      refine Calls.ret (known23) ?_
      rintro _ w8 ⟨rfl, x8⟩
      conv => whnf
      exact ⟨rfl, x6.trans x8⟩
    rw [h1] at hβ
    have hlt := dt hβ.symm
    have hix : i < es.length := hlt.1
    have he := (hok es[i] (List.getElem_mem hix)).ext x6
    conv => whnf
    have g7 := (hl.ext x6).at i hix
    have hmem := List.getElem_mem hix
    generalize hei : es[i] = e at *
    obtain ⟨lp, lo, ela, hcell⟩ := g7
    refine ⟨lp, lo, ela, ⟨by omega, by omega⟩, ?_⟩
    conv => whnf
    refine ⟨_, hcell 0 _ rfl, ?_⟩
    conv => whnf
    have k6 := t6.lt
    obtain ⟨k1, k2, k3, k4, k5, k7⟩ := k6
    have n1 := t6.n1
    have hsl : s.data.length ≤ 2048 := by rw [hsd]; exact hl2
    have hsn : s.ver ≠ 0#32 := by rw [hsv]; exact hv
    refine vcCond_meet (fun t : Option Addr × Nat × Option Addr × Nat => [(13, .slice t.1 (evS s e).2.length t.2.1), (14, .slice t.2.2.1 (evS s e).2.length t.2.2.2), (12, .int .i64 i), (8, .pointer (some ⟨b, 0, none⟩)), (10, .pointer (some ⟨b', 0, none⟩)), (2, .slice la es.length lc)])
      (fun t w8 => Own 5 u8v w7.heap.size w8 t.1 t.2.1 (evS s e).2 ∧ Sl u8v w8 t.2.2.1 (evS s e).2 ∧ w7.heap.size ≤ w8.heap.size ∧ TwoS w.heap.size w8 b a2 c2 b' a3 c3 (evS s e).1 ∧ Ext w w8) ?_ ?_
    · refine vcCond_split lok rfl (fun h2 => ?_) (fun h2 => ?_)
      · have ee : evS s e = tickF s := if_pos h2
        rw [ee]
        conv => whnf
        refine Calls.ret (tick_calls t6.f hsl hw1) ?_
        rintro _ w8 ⟨a8, c8, rfl, ho8, hf8, g8⟩
        conv => whnf
        have r8 := t6.r.keep g8 (fun q => by have q' := Option.some.inj q; omega) (fun g hg q => t6.n3 g hg (Option.some.inj q).symm)
        refine Calls.ret (rtick_calls r8 hsl hw1 hsn) ?_
        rintro _ w9 ⟨a9, c9, rfl, ho9, hr9, g9⟩
        conv => whnf
        exact ⟨(a8, c8, a9, c9), ⟨rfl, rfl, rfl, rfl, rfl, rfl, trivial⟩, g9.keepOwn ho8 (fun g hg q => by have q' := Option.some.inj q; have := (ho8.ge g hg).1; omega), ho9.sl, Nat.le_trans g8.size g9.size,
          ⟨hf8.keep g9 (fun q => by have q' := Option.some.inj q; omega) (fun g hg q => t6.n2 g hg (Option.some.inj q).symm), hr9, t6.n1, t6.n2, t6.n3⟩,
          g9.extOf (g8.extOf x6 (fun g hg => by cases hg; exact k1)) (fun g hg => by cases hg; exact k3)⟩
      · have ee : evS s e = recvF s (bytesE e) := if_neg (by rw [h2]; exact Bool.false_ne_true)
        rw [ee]
        have hbl := bytesE_len e
        conv => whnf
        refine ⟨lp, lo, ela, ⟨by omega, by omega⟩, ?_⟩
        conv => whnf
        refine ⟨e.cells, rfl, hcell, ?_⟩
        conv => whnf
        refine Calls.ret (evBytes_calls e he) ?_
        rintro _ w8 ⟨a8, c8, rfl, hs8, hc8, x8⟩
        conv => whnf
        have t8 := t6.ext x8
        have z8 := x8.size
        refine Calls.ret (recv_calls t8.f hsl hsn hs8 (by omega) hc8) ?_
        rintro _ w9 ⟨a9, c9, rfl, ho9, hf9, g9⟩
        conv => whnf
        have x9 : Ext w w9 := g9.extOf (x6.trans x8) (fun g hg => by cases hg; exact k1)
        have r9 := t8.r.keep g9 (fun q => by have q' := Option.some.inj q; omega) (fun g hg q => t6.n3 g hg (Option.some.inj q).symm)
        have z9 := g9.size
        refine ⟨lp, lo, ela, ⟨by omega, by omega⟩, ?_⟩
        conv => whnf
        have he9 := (hok e hmem).ext x9
        have hcell9 : CellsAt w9 lp (lo + i * 10) e.cells := by
          have g7 := (hl.ext x9).at i hix
          rw [hei] at g7
          obtain ⟨lp', lo', ela', hc'⟩ := g7
          rw [ela] at ela'
          cases ela'
          exact hc'
        refine ⟨e.cells, rfl, hcell9, ?_⟩
        conv => whnf
        refine Calls.ret (evBytes_calls e he9) ?_
        rintro _ w10 ⟨a10, c10, rfl, hs10, hc10, x10⟩
        conv => whnf
        have z10 := x10.size
        refine Calls.ret (rrecv_calls (r9.ext x10) hsl hs10 (by omega) hc10) ?_
        rintro _ w11 ⟨a11, c11, rfl, ho11, hr11, g11⟩
        conv => whnf
        exact ⟨(a9, c9, a11, c11), ⟨rfl, rfl, rfl, rfl, rfl, rfl, trivial⟩, (g11.keepOwn (ho9.ext x10) (fun g hg q => by have q' := Option.some.inj q; have := (ho9.ge g hg).1; omega)).base z8, ho11.sl, Nat.le_trans (Nat.le_trans z8 z9) (Nat.le_trans z10 g11.size),
          ⟨(hf9.ext x10).keep g11 (fun q => by have q' := Option.some.inj q; omega) (fun g hg q => t6.n2 g hg (Option.some.inj q).symm), hr11, t6.n1, t6.n2, t6.n3⟩,
          g11.extOf (x9.trans x10) (fun g hg => by cases hg; exact k3)⟩
    rintro ⟨a8, c8, a9, c9⟩ w8 ⟨ho8, hs9, hz78, t8, x8⟩
    have ho8 : Own 5 u8v w7.heap.size w8 a8 c8 (evS s e).2 := ho8
    have hs9 : Sl u8v w8 a9 (evS s e).2 := hs9
    have hsm := evS_same s e hw1 hw0
    have hel := evS_len s e
    obtain ⟨m1, m2, m3, m4⟩ := hsm
    have z6 := x6.size
    have k6 := t8.lt
    generalize hq : evS s e = q at *
    obtain ⟨t, out⟩ := q
    simp only at ho8 hs9 t8 m1 m2 m3 m4 hel
    conv => whnf
    refine vcDraw_meet lok mixed (Ext w8) [7] [0, 1, 2, 3, 4, 5, 6, 8, 9, 10, 11, 7, 12, 13]
      (fun _ : Unit => [(101, .bool false)]) (fun _ w' => Ext w8 w') [101] (fun _ => rfl) rfl (by kernel_rfl) (fun w9 hw9 => ⟨hw9 ▸ Ext.drew w8, ?_⟩) ?_
    · have x9 : Ext w8 w9 := hw9 ▸ Ext.drew w8
      conv => whnf
      refine ⟨_, fun w' hw' => run_toStr (ho8.sl.ext hw'), ?_⟩
      conv => whnf
      refine ⟨_, fun w' hw' => run_toStr (hs9.ext hw'), ?_⟩
      conv => whnf
      intro γ hγ
      have hγ2 : γ = true := by rw [str_eq hγ rfl rfl]; simp
      clear hγ
      subst hγ2
      conv => whnf
      refine ⟨_, fun w' hw' => (t8.r.ext hw').blk.cell (i := 4) rfl, ?_⟩
      conv => whnf
      refine Calls.ret (done_calls (t8.f.ext x9)) ?_
      rintro _ w10 ⟨rfl, hw10⟩
      conv => whnf
      subst hw10
      refine ⟨_, fun _ h => h, x9, ?_⟩
      conv => whnf
      refine ⟨(), ⟨?_, trivial⟩, x9⟩
      cases t.done <;> rfl
    rintro _ w9 x9
    conv => whnf
    refine vcCond_false lok (rfl) ?_
    conv => whnf
    have z8 := x8.size
    have z9 := x9.size
    have z78 : w7.heap.size ≤ w8.heap.size := hz78
    refine Calls.ret (spoil_calls (bs := out) (ho8.ext x9) (by omega) (by omega)) ?_
    rintro _ w10 ⟨rfl, g10⟩
    conv => whnf
    obtain ⟨j1, j2, j3, j4, j5, j6⟩ := k6
    have qo : ∀ g, blockOf a8 = some g → w7.heap.size ≤ g := fun g hg => (ho8.ge g hg).1
    have t9 := t8.ext x9
    conv => whnf
    refine ⟨by omega, ?_⟩
    conv => whnf
    refine ⟨(i + 1, t), ⟨rfl, rfl, rfl, rfl, trivial⟩, ⟨by omega, ⟨t9.f.keep g10 (fun q => by have := qo _ q; omega) (fun g hg q => by have := qo _ q; have := k5 g hg; omega), t9.r.keep g10 (fun q => by have := qo _ q; omega) (fun g hg q => by have := qo _ q; have := k7 g hg; omega), t6.n1, t6.n2, t6.n3⟩, m1.trans hsv, m2.trans hsd, ⟨m3, m4⟩, g10.extOf (x8.trans x9) (fun g hg => by have := qo _ hg; omega)⟩, by omega⟩
end Go.Proofs.Ytgipackjnncabaa

/- The law SlotsCrashes, walked. -/
set_option linter.unusedVariables false
namespace Go.Proofs.Ytgipackjnncabaa
open Go.Vc Go.RowKit

/-- a pair of words -/
def pairC (x : BitVec 32 × BitVec 32) : List Value := [u32v x.1, u32v x.2]
theorem fit_pair {w : World} {es : List Value} (h : Fit w (.arr 2 1 (.int .u32)) es) : ∃ x : BitVec 32 × BitVec 32, es = pairC x ∧ True := by
  obtain ⟨h1, h2⟩ := h
  match es, h1 with
  | [v1, v2], _ =>
    obtain ⟨n1, e1, k1⟩ := h2 0 (by decide)
    obtain ⟨n2, e2, k2⟩ := h2 1 (by decide)
    have e1 : [v1] = [Value.int .u32 n1] := e1
    have e2 : [v2] = [Value.int .u32 n2] := e2
    obtain ⟨x, hx⟩ := wf_u32 k1
    obtain ⟨m, hm⟩ := wf_u32 k2
    injection e1 with e1
    injection e2 with e2
    exact ⟨(x, m), by rw [e1, e2, hx, hm]; rfl, trivial⟩
theorem cut_pos (s : FS) (a : Int) (ha : 0 ≤ a) (m : BitVec 32) : cutF s a m = ({ s with left := a, mask := m }, 0) := by unfold cutF; rw [if_neg (by omega)]
theorem have_sub {ws vs : List (BitVec 32)} {p m : Nat} (h : ∀ j, j < 32 → ws.getD (p + 3 + j) 0#32 = 0#32 → vs.getD (p + 3 + j) 0#32 = 0#32) : haveB vs p m 32 &&& haveB ws p m 32 = haveB ws p m 32 := by
  apply BitVec.eq_of_getLsbD_eq
  intro i hi
  rw [BitVec.getLsbD_and, haveB_bit vs p m 32 i (Nat.le_refl _) hi, haveB_bit ws p m 32 i (Nat.le_refl _) hi]
  cases e : bitB ws p m i with
  | false => simp
  | true =>
    have q := of_decide_eq_true e
    have : bitB vs p m i = true := decide_eq_true ⟨q.1, h i hi q.2⟩
    rw [this]
    simp

set_option maxRecDepth 100000 in
set_option maxHeartbeats 8000000 in
theorem slotsCrashes_walk {w : World} {ba oa : Option Addr} {bc oc : Nat} {bs : List (BitVec 8)} {cuts : List (BitVec 32 × BitVec 32)} (hbs : Sl u8v w ba bs) (hbl : bs.length ≤ 9223372036854775807) (hcu : SlN 2 pairC w oa cuts) (hcl : cuts.length ≤ 9223372036854775807) (sz : Nat) (hsz : sz ≤ 65535) :
    Calls Try.prog 35 #[.slice ba bs.length bc, .int .u16 sz, .slice oa cuts.length oc] w (Law w) := by
  refine calls_of_vc lok Try.func35 ?_ rfl
  conv => whnf
  intro z hz
  have hz2 : z = (sz : Int) := by rw [hz]; exact wi64 (by omega)
  clear hz
  subst hz2
  conv => whnf
  refine ⟨by decide, ?_⟩
  intro z hz
  have hz3 : z = ((sz % 600 : Nat) : Int) := by rw [hz]; exact rem_nat sz 600
  clear hz
  subst hz3
  conv => whnf
  refine ⟨by omega, ?_⟩
  conv => whnf
  have gn : ∃ n : Nat, n = 1 + sz % 600 ∧ 1 ≤ n ∧ n ≤ 600 := ⟨_, rfl, by omega, by omega⟩
  obtain ⟨n, hn, hn1, hn2⟩ := gn
  rw [show (1 : Int) + ((sz % 600 : Nat) : Int) = (n : Int) by omega]
  conv => whnf
  refine Calls.ret (image_calls hbs hbl n (by omega)) ?_
  rintro _ w1 ⟨aa, ac, all, rfl, hal, hoa, x1⟩
  conv => whnf
  refine Calls.ret (new_calls 6) ?_
  rintro _ w2 hp
  conv => whnf
  rcases hp with ⟨hno, _, _⟩ | ⟨_, g, gw, fc, rfl, f2, x2⟩
  · exact absurd hno (by decide)
  replace f2 : FlAt 181 w1.heap.size w2 g gw fc k22S := f2
  have l0 : k22S.ws.length = 1536 := List.length_replicate
  have n0 : Num k22S 1536 0 := ⟨l0, ⟨Int.le_refl _, Int.le_refl _⟩, by show (-1 : Int) ≤ _; decide⟩
  have so : k22S.off = false := rfl
  have sl : k22S.left < 0 := by show (-1 : Int) < 0; decide
  generalize k22S = s0 at *
  have z1 := x1.size
  have f2lo := f2.lo
  have f2lt := f2.lt
  conv => whnf
  refine Calls.ret (sopen_calls f2 (by omega) 0) ?_
  rintro _ w3 hp
  conv => whnf
  rcases hp with ⟨hno, _, _⟩ | ⟨m, hm, _, sb, rfl, hsb, S3, x3⟩
  · exact absurd ⟨by decide, by rw [l0]; decide⟩ hno
  have hm0 : m = 0 := by omega
  subst hm0
  clear hm
  have hbad : ¬ badF 0 := by decide
  have hat : atF 0 0 = 0 := rfl
  have hcan : canN 9#32 (n : Int) := ⟨by decide, by decide, by omega, by omega⟩
  have gb := begin_cases (n := 0) (slot := 0) (v := 9#32) (m := n) so hbad hcan (by rw [hat, l0]; decide)
  rcases gb with ⟨t, e1, e2, e3, e4⟩ | ⟨_, _, _, q, _⟩
  rotate_left
  · omega
  have tn := begin_num (at_ := 0) (slot := 0) (v := 9#32) (m := n) n0
  rw [e1] at tn
  replace tn : Num t 1536 17 := tn
  rw [Int.toNat_natCast, ← hal] at e2
  have timg := e2.img (all := all) (by rw [hat, tn.len]; decide)
  have x03 := x1.trans (x2.trans x3)
  have S3' : SlAt w.heap.size w3 sb g gw fc 0 s0 := ⟨S3.f.base z1, S3.b, S3.n1, S3.n2, S3.room, S3.small⟩
  have gbeg := sbegin_calls S3' 0 9#32 n (by rw [l0]; exact n0) (by decide)
  rw [e1] at gbeg
  have hoa3 := (hoa.ext x2).ext x3
  have nS : ∀ {w' w''}, FlMod g gw w' w'' → Own 5 u8v w.heap.size w' aa ac all → Own 5 u8v w.heap.size w'' aa ac all := fun {w' w''} m h => m.keepOwn h fun k hk e => by
    have := (hoa.ge k hk).2
    rcases e with e | e <;> omega
  conv => whnf
  refine vcReg_meet lok (fun β : Bool => [(47, .bool β)]) (fun β w' => β = false ∧ SlAt w.heap.size w' sb g gw fc 0 t ∧ FlMod g gw w3 w') [47] (fun _ => rfl) rfl ?_ ?_
  · conv => whnf
    refine Calls.ret (gbeg) ?_
    rintro _ w4 ⟨rfl, S4, m4⟩
    conv => whnf
    exact ⟨_, ⟨rfl, trivial⟩, rfl, S4, m4⟩
  rintro β w4 ⟨rfl, S4, m4⟩
  have hoa4 := nS m4 hoa3
  have x04 := FlMod.above m4 x03 (by omega) (by omega)
  clear gbeg e1 e2 S3 S3' hoa3 e4 x03 m4 so sl n0
  conv => whnf
  refine vcCond_false lok (rfl) ?_
  conv => whnf
  refine ⟨by omega, ?_⟩
  conv => whnf
  refine ⟨by decide, ?_⟩
  intro z hz
  have hz16 : z = (((n + 63) / 64 : Nat) : Int) := by rw [hz]; exact (congrArg IntKind.i64.wrap (quo_nat (n + 63) 64)).trans (wi64 (by omega))
  clear hz
  subst hz16
  conv => whnf
  have gmany : ∃ many : Nat, many = (n + 63) / 64 ∧ 1 ≤ many ∧ many ≤ 10 ∧ n ≤ 64 * many ∧ ∀ k, k < many → 64 * k < n := ⟨_, rfl, by omega, by omega, by omega, fun k hk => by omega⟩
  obtain ⟨many, hmany, hm1, hm2, hm3, hm4⟩ := gmany
  rw [← hmany]
  have hac := hoa.le
  have hcm : maxLen ≤ 9223372036854775807 := by decide
  refine vcLoop_inv lok (σ := Nat)
    (fun i => [(13, .int .i64 i), (10, .pointer (some ⟨sb, 0, none⟩)), (8, .slice aa n ac), (12, .int .i64 many), (2, .slice oa cuts.length oc), (9, .pointer (some ⟨g, 0, none⟩))])
    (fun i w' => i ≤ 30 ∧ ∃ s, SlAt w.heap.size w' sb g gw fc 0 s ∧ Num s 1536 (200 * i + 17) ∧ s.off = false ∧ Img s.ws (atF 0 0) 9#32 all ∧ Own 5 u8v w.heap.size w' aa ac all ∧ Ext w w') (fun i => 30 - i)
    0 ⟨rfl, rfl, rfl, rfl, rfl, rfl, trivial⟩ ⟨Nat.zero_le _, t, S4, tn, e3, timg, hoa4, x04⟩ ?_
  clear S4 tn e3 timg hoa4 x04
  rintro i w5 ⟨hi30, s, S5, sn, so, simg, ho5, x5⟩
  have slen := sn.len
  conv => whnf
  refine vcReg_meet lok (fun β : Bool => [(58, .bool β)]) (fun β w' => w' = w5 ∧ β = decide (i < cuts.length ∧ i < 30)) [58] (fun _ => rfl) rfl ?_ ?_
  · conv => whnf
    refine bcase (fun h1 => ?_) (fun h1 => ?_)
    · have h1 := dt h1
      conv => whnf
      refine ⟨_, ⟨rfl, trivial⟩, rfl, ?_⟩
      rw [decide_eq_decide]; omega
    · have h1 := df h1
      conv => whnf
      exact ⟨_, ⟨rfl, trivial⟩, rfl, by rw [eq_comm, decide_eq_false_iff_not]; omega⟩
  rintro β w6 ⟨hw6, hβ⟩
  subst hw6
  conv => whnf
  refine vcCond_split lok rfl (fun h1 => ?_) (fun h1 => ?_)
  · rw [h1] at hβ
    have hlt2 := dt hβ.symm
    clear hβ
    have g5 := hcu.at i hlt2.1
    generalize cuts[i] = cm at *
    obtain ⟨pp, oo, hpa, hcell0⟩ := g5
    have hcell : ∀ k v, (pairC cm)[k]? = some v → w6.cell? ⟨pp, oo + i * 2 + k, none⟩ = some v := fun k v hv => Below.cell_of (w := w) x5 (cell_lt (hcell0 k v hv)) (hcell0 k v hv)
    have hx1 := cm.1.isLt
    conv => whnf
    refine vcDraw_go lok mixed (Ext w6) [] [0, 1, 2, 3, 4, 5, 6, 7, 8, 9, 10, 11, 12, 13] (by kernel_rfl) (fun w7 hw7 => ⟨hw7 ▸ Ext.drew w6, ?_⟩)
    have x7 : Ext w6 w7 := hw7 ▸ Ext.drew w6
    clear hw7
    conv => whnf
    refine ⟨pp, oo, hpa, ⟨by omega, by omega⟩, ?_⟩
    conv => whnf
    refine ⟨by decide, ?_⟩
    conv => whnf
    refine ⟨_, fun w' hw' => Below.cell_of hw' (cell_lt (hcell 0 _ rfl)) (hcell 0 _ rfl), ?_⟩
    conv => whnf
    refine ⟨by decide, ?_⟩
    intro z hz
    have hz28 : z = ((cm.1.toNat % 60 : Nat) : Int) := by rw [hz]; exact rem_nat _ 60
    clear hz
    subst hz28
    conv => whnf
    intro z hz
    have hz29 : z = ((cm.1.toNat % 60 : Nat) : Int) := by rw [hz]; exact wi64 (by omega)
    clear hz
    subst hz29
    conv => whnf
    refine ⟨pp, oo, hpa, ⟨by omega, by omega⟩, ?_⟩
    conv => whnf
    refine ⟨by decide, ?_⟩
    conv => whnf
    refine ⟨_, fun w' hw' => Below.cell_of hw' (cell_lt (hcell 1 _ rfl)) (hcell 1 _ rfl), ?_⟩
    conv => whnf
    have g8 := cut_calls (S5.ext x7).f ((cm.1.toNat % 60 : Nat) : Int) cm.2
    rw [cut_pos s _ (by omega) cm.2] at g8
    have sn8 := sn.cut ((cm.1.toNat % 60 : Nat) : Int) (by omega) cm.2
    rw [cut_pos s _ (by omega) cm.2] at sn8
    have gs1 : ∃ s1 : FS, s1 = { s with left := ((cm.1.toNat % 60 : Nat) : Int), mask := cm.2 } := ⟨_, rfl⟩
    obtain ⟨s1, hs1⟩ := gs1
    have sw1 : s1.ws = s.ws := by rw [hs1]
    have so1 : s1.off = false := by rw [hs1]; exact so
    rw [← hs1] at g8 sn8
    clear hs1
    refine Calls.ret (g8) ?_
    rintro _ w8 ⟨rfl, f8, m8⟩
    conv => whnf
    have S8 : SlAt w.heap.size w8 sb g gw fc 0 s1 := (S5.ext x7).next f8 m8 (by rw [sw1])
    have ho8 := nS m8 (ho5.ext x7)
    have x8 := FlMod.above m8 (x5.trans x7) (by omega) (by omega)
    have img1 : Img s1.ws (atF 0 0) 9#32 all := by rw [sw1]; exact simg
    replace sn8 : Num s1 1536 (200 * i + 18) := sn8
    refine Calls.ret (shave_calls S8 0) ?_
    rintro _ w9 ⟨rfl, x9⟩
    conv => whnf
    have eh1 := img_have so1 hbad img1
    rw [eh1]
    refine vcLoop_inv lok (σ := Nat)
      (fun k => [(16, .int .i64 k), (14, .int .u32 (haveB s1.ws (atF 0 0) all.length 32).toNat), (13, .int .i64 i), (10, .pointer (some ⟨sb, 0, none⟩)), (8, .slice aa n ac), (12, .int .i64 many), (2, .slice oa cuts.length oc), (9, .pointer (some ⟨g, 0, none⟩))])
      (fun k w' => k ≤ many ∧ ∃ s2, SlAt w.heap.size w' sb g gw fc 0 s2 ∧ Num s2 1536 (200 * i + 18 + 17 * k) ∧ Img s2.ws (atF 0 0) 9#32 all ∧ (∀ j, j < 32 → s1.ws.getD (atF 0 0 + 3 + j) 0#32 = 0#32 → s2.ws.getD (atF 0 0 + 3 + j) 0#32 = 0#32) ∧ Own 5 u8v w.heap.size w' aa ac all ∧ Ext w w') (fun k => many - k)
      0 ⟨rfl, rfl, rfl, rfl, rfl, rfl, rfl, rfl, trivial⟩ ⟨Nat.zero_le _, s1, S8.ext x9, sn8, img1, fun j _ q => q, ho8.ext x9, x8.trans x9⟩ ?_
    clear S8 ho8 x8 x9 m8 f8 eh1 S5 ho5 x5 x7 simg sn so slen hcell
    rintro k w10 ⟨hk, s2, S10, sn10, img2, hmk, ho10, x10⟩
    have sl10 := sn10.len
    conv => whnf
    refine vcReg_meet lok (fun β : Bool => [(86, .bool β)]) (fun β w' => w' = w10 ∧ β = (decide (k < many) && !s2.off)) [86] (fun _ => rfl) rfl ?_ ?_
    · conv => whnf
      refine bcase (fun h2 => ?_) (fun h2 => ?_)
      · have h2 := dt h2
        conv => whnf
        refine Calls.ret (fon_calls S10.f) ?_
        rintro _ w11 ⟨rfl, rfl⟩
        conv => whnf
        exact ⟨_, ⟨rfl, trivial⟩, rfl, by rw [decide_eq_true (by omega)]; rfl⟩
      · have h2 := df h2
        conv => whnf
        exact ⟨_, ⟨rfl, trivial⟩, rfl, by rw [decide_eq_false (by omega)]; rfl⟩
    rintro β2 w11 ⟨hw11, hβ2⟩
    subst hw11
    conv => whnf
    refine vcCond_split lok rfl (fun h3 => ?_) (fun h3 => ?_)
    · rw [h3] at hβ2
      have hkm : k < many := by
        by_cases q : k < many
        · exact q
        · rw [decide_eq_false q] at hβ2; cases hβ2
      have so2 : s2.off = false := by
        cases q : s2.off with
        | false => rfl
        | true => rw [q, decide_eq_true hkm] at hβ2; cases hβ2
      clear hβ2
      have hk2 := hm4 k hkm
      have gch := lchunk_calls ho10.sl (by omega) hac.1 (by omega) k (by omega)
      rw [hal] at gch
      conv => whnf
      refine Calls.ret (gch) ?_
      rintro _ w12 ⟨ca, cc, rfl, hcs, hw12⟩
      conv => whnf
      subst hw12
      have gwi := write_img (slot := 0) (n := 0) so2 hbad img2 k (by omega)
      have nn := write_num (at_ := 0) (slot := 0) (chunk := (k : Int)) (b := chunkF all k) sn10
      have gwr := swrite_calls (bc := cc) S10 0 (k : Int) hcs (by rw [chunkF_len]; have := lenC_le all.length k; omega) (by rw [sl10]; exact sn10) (by omega)
      have hres : ∃ t e, writeSF s2 0 0 (k : Int) (chunkF all k) = (t, e) ∧ ((e = 0 ∧ t.off = false) ∨ (e = 7 ∧ t.off = true)) ∧ Img t.ws (atF 0 0) 9#32 all ∧ (∀ j, j < 32 → s2.ws.getD (atF 0 0 + 3 + j) 0#32 = 0#32 → t.ws.getD (atF 0 0 + 3 + j) 0#32 = 0#32) := by
        rcases gwi with ⟨t, q1, q2, _, _, q5, q6, q7⟩ | ⟨t, q1, q2, _, _, q5, q6⟩
        · refine ⟨t, 0, q1, .inl ⟨rfl, q2⟩, q5, fun j hj h0 => ?_⟩
          by_cases e : j = k
          · subst e; exact q6
          · rw [q7 j hj e]; exact h0
        · exact ⟨t, 7, q1, .inr ⟨rfl, q2⟩, q5, q6⟩
      obtain ⟨t, e, q1, q2, q3, q4⟩ := hres
      rw [q1] at gwr nn
      clear gwi
      refine Calls.ret (gwr) ?_
      rintro _ w13 ⟨rfl, S13, m13⟩
      conv => whnf
      replace S13 : SlAt w.heap.size w13 sb g gw fc 0 t := S13
      replace nn : Num t 1536 (200 * i + 18 + 17 * k + 17) := nn
      refine vcReg_meet lok (fun β : Bool => [(104, .bool β)]) (fun β w' => w' = w13 ∧ β = false) [104] (fun _ => rfl) rfl ?_ ?_
      · rcases q2 with ⟨q2, q5⟩ | ⟨q2, q5⟩
        · subst q2
          conv => whnf
          exact ⟨_, ⟨rfl, trivial⟩, rfl, rfl⟩
        · subst q2
          conv => whnf
          refine Calls.ret (fon_calls S13.f) ?_
          rintro _ w14 ⟨rfl, rfl⟩
          conv => whnf
          exact ⟨_, ⟨rfl, trivial⟩, rfl, by rw [q5]; rfl⟩
      rintro β3 w14 ⟨hw14, rfl⟩
      subst hw14
      conv => whnf
      refine vcCond_false lok (rfl) ?_
      conv => whnf
      refine ⟨by omega, ?_⟩
      conv => whnf
      exact ⟨k + 1, ⟨rfl, rfl, rfl, rfl, rfl, rfl, rfl, rfl, trivial⟩, ⟨by omega, t, S13, nn.up (by omega), q3, fun j hj h0 => q4 j hj (hmk j hj h0), nS m13 ho10, FlMod.above m13 x10 (by omega) (by omega)⟩, by omega⟩
    · clear hβ2
      conv => whnf
      refine Calls.ret (start_calls S10.f) ?_
      rintro _ w12 ⟨rfl, f12, m12⟩
      conv => whnf
      have S12 : SlAt w.heap.size w12 sb g gw fc 0 (startF s2) := S10.next f12 m12 rfl
      have sn12 := sn10.start
      have so12 : (startF s2).off = false := rfl
      have img12 : Img (startF s2).ws (atF 0 0) 9#32 all := img2
      have hmk12 : ∀ j, j < 32 → s1.ws.getD (atF 0 0 + 3 + j) 0#32 = 0#32 → (startF s2).ws.getD (atF 0 0 + 3 + j) 0#32 = 0#32 := hmk
      have ho12 := nS m12 ho10
      have x12 := FlMod.above m12 x10 (by omega) (by omega)
      have gs3 : ∃ s3, s3 = startF s2 := ⟨_, rfl⟩
      obtain ⟨s3, hs3⟩ := gs3
      rw [← hs3] at S12 sn12 so12 img12 hmk12
      clear hs3 f12 m12 hmk img2
      refine Calls.ret (shave_calls S12 0) ?_
      rintro _ w13 ⟨rfl, x13⟩
      conv => whnf
      rw [img_have so12 hbad img12]
      intro y3 hz
      have hz54 : y3 = ((haveB s3.ws (atF 0 0) all.length 32 &&& haveB s1.ws (atF 0 0) all.length 32).toNat : Int) := by rw [hz]; exact and32 _ _
      clear hz
      subst hz54
      conv => whnf
      rw [have_sub hmk12]
      refine vcCond_false lok (by rw [decide_eq_true rfl]; rfl) ?_
      conv => whnf
      refine ⟨by omega, ?_⟩
      conv => whnf
      exact ⟨i + 1, ⟨rfl, rfl, rfl, rfl, rfl, rfl, trivial⟩, ⟨by omega, s3, S12.ext x13, sn12.up (by omega), so12, img12, ho12.ext x13, x12.trans x13⟩, by omega⟩
  · clear hβ
    conv => whnf
    have g8 := cut_calls S5.f 1048576 0#32
    rw [cut_pos s _ (by decide) 0#32] at g8
    have sn8 := sn.cut 1048576 (by decide) 0#32
    rw [cut_pos s _ (by decide) 0#32] at sn8
    have gs1 : ∃ s1 : FS, s1 = { s with left := 1048576, mask := 0#32 } := ⟨_, rfl⟩
    obtain ⟨s1, hs1⟩ := gs1
    have sw1 : s1.ws = s.ws := by rw [hs1]
    have so1 : s1.off = false := by rw [hs1]; exact so
    have sl1 : s1.left = 1048576 := by rw [hs1]
    rw [← hs1] at g8 sn8
    clear hs1
    refine Calls.ret (g8) ?_
    rintro _ w8 ⟨rfl, f8, m8⟩
    conv => whnf
    have S8 : SlAt w.heap.size w8 sb g gw fc 0 s1 := S5.next f8 m8 (by rw [sw1])
    have ho8 := nS m8 ho5
    have x8 := FlMod.above m8 x5 (by omega) (by omega)
    have img1 : Img s1.ws (atF 0 0) 9#32 all := by rw [sw1]; exact simg
    replace sn8 : Num s1 1536 (200 * i + 18) := sn8
    refine vcLoop_inv lok (σ := Nat)
      (fun k => [(20, .int .i64 k), (10, .pointer (some ⟨sb, 0, none⟩)), (8, .slice aa n ac), (12, .int .i64 many)])
      (fun k w' => k ≤ many ∧ ∃ s2, SlAt w.heap.size w' sb g gw fc 0 s2 ∧ Num s2 1536 (200 * i + 18 + 17 * k) ∧ s2.off = false ∧ 1048576 - 17 * (k : Int) ≤ s2.left ∧ Img s2.ws (atF 0 0) 9#32 all ∧ (∀ j, j < k → s2.ws.getD (atF 0 0 + 3 + j) 0#32 = 0#32) ∧ Own 5 u8v w.heap.size w' aa ac all ∧ Ext w w') (fun k => many - k)
      0 ⟨rfl, rfl, rfl, rfl, trivial⟩ ⟨Nat.zero_le _, s1, S8, sn8, so1, by rw [sl1]; decide, img1, fun j hj => absurd hj (Nat.not_lt_zero _), ho8, x8⟩ ?_
    clear S8 ho8 x8 m8 f8 S5 ho5 x5 simg sn so slen sn8 img1 so1 sl1
    rintro k w10 ⟨hk, s2, S10, sn10, so2, sl2, img2, hmk, ho10, x10⟩
    have sl10 := sn10.len
    conv => whnf
    refine vcCond_split lok rfl (fun h3 => ?_) (fun h3 => ?_)
    · have h3 := dt h3
      conv => whnf
      have hkm : k < many := by omega
      have hk2 := hm4 k hkm
      have gch := lchunk_calls ho10.sl (by omega) hac.1 (by omega) k (by omega)
      rw [hal] at gch
      refine Calls.ret (gch) ?_
      rintro _ w12 ⟨ca, cc, rfl, hcs, hw12⟩
      conv => whnf
      subst hw12
      have gwi := write_img (slot := 0) (n := 0) so2 hbad img2 k (by omega)
      have nn := write_num (at_ := 0) (slot := 0) (chunk := (k : Int)) (b := chunkF all k) sn10
      have gwr := swrite_calls (bc := cc) S10 0 (k : Int) hcs (by rw [chunkF_len]; have := lenC_le all.length k; omega) (by rw [sl10]; exact sn10) (by omega)
      rcases gwi with ⟨t, q1, q2, _, q4, q5, q6, q7⟩ | ⟨t, q1, q2, _, q4, q5, q6⟩
      rotate_left
      · omega
      rw [q1] at gwr nn
      refine Calls.ret (gwr) ?_
      rintro _ w13 ⟨rfl, S13, m13⟩
      conv => whnf
      replace S13 : SlAt w.heap.size w13 sb g gw fc 0 t := S13
      replace nn : Num t 1536 (200 * i + 18 + 17 * k + 17) := nn
      refine vcCond_false lok (rfl) ?_
      conv => whnf
      refine ⟨by omega, ?_⟩
      conv => whnf
      refine ⟨k + 1, ⟨rfl, rfl, rfl, rfl, trivial⟩, ⟨by omega, t, S13, nn.up (by omega), q2, by omega, q5, fun j hj => ?_, nS m13 ho10, FlMod.above m13 x10 (by omega) (by omega)⟩, by omega⟩
      by_cases e : j = k
      · subst e; exact q6
      · rw [q7 j (by omega) e]; exact hmk j (by omega)
    · have h3 := df h3
      conv => whnf
      have hall : allB s2.ws (atF 0 0) all.length 32 = true := allB_iff.2 fun j hj hm => hmk j (by omega)
      have eb := img_whole so2 hbad img2
      rw [hall, if_pos rfl] at eb
      refine Calls.ret (sbytes_calls S10 0) ?_
      rintro _ w12 ⟨xa, xc, rfl, hox, x12⟩
      conv => whnf
      rw [eb] at hox ⊢
      refine vcReg_go lok ?_
      conv => whnf
      refine ⟨_, run_toStr hox.sl, ?_⟩
      conv => whnf
      have hst := run_toStr (P := Try.prog) (c := ac) (ho10.ext x12).sl
      rw [hal] at hst
      refine ⟨_, hst, ?_⟩
      conv => whnf
      intro γ hγ
      have hγ2 : γ = true := by rw [str_eq hγ rfl rfl]; simp
      clear hγ
      subst hγ2
      conv => whnf
      refine Calls.ret (known22) ?_
      rintro _ w13 ⟨rfl, x13⟩
      conv => whnf
      exact ⟨rfl, x10.trans (x12.trans x13)⟩
end Go.Proofs.Ytgipackjnncabaa

/- The law SlotsBegun, walked. -/
set_option linter.unusedVariables false
namespace Go.Proofs.Ytgipackjnncabaa
open Go.Vc Go.RowKit

theorem u32_any {z a : Int} (h : z = IntKind.u32.wrap a) : ∃ y : BitVec 32, z = (y.toNat : Int) := ⟨BitVec.ofInt 32 z, by rw [h, wu32, BitVec.toNat_ofInt]; omega⟩
theorem run_word (w : World) (x : BitVec 32) : ∃ w', (Instr.buildSlice 37 1 #[(0, u32v x)]).run Try.prog w = .ok (.slice (some ⟨w.heap.size, 0, none⟩) 1 1) w' ∧ Own 42 u32v w.heap.size w' (some ⟨w.heap.size, 0, none⟩) 1 [x] ∧ Ext w w' := by
  have g := run_buildN (P := Try.prog) (t := 37) (e := 42) e32.toElem [u32v x] (by simp [u32v, Value.oneCell']) (by simp) w
  exact ⟨_, g, own_lit (w := w) [x] (by simp), Ext.new _ _⟩
/-- what Head tells of words -/
def headV (ws : List (BitVec 32)) (p : Nat) : BitVec 32 × Nat × Bool := match headW ws p with
  | none => (0#32, 0, false)
  | some (v, m) => (v, m, true)
theorem headR_on {s : FS} {n : Nat} {slot : Int} (h : s.off = false) (hb : ¬ badF slot) : headR s n slot = headV s.ws (atF n slot) := headR_ok (check_ok h hb)
theorem haveF_on {s : FS} {n : Nat} {slot : Int} (h : s.off = false) (hb : ¬ badF slot) : haveF s n slot = haveW s.ws (atF n slot) := by unfold haveF; rw [if_neg (by rw [h]; simp [hb])]

theorem drop_ok {s : FS} {n : Nat} {slot : Int} (hs : s.off = false) (hb : ¬ badF slot) (hl : s.left ≠ 0) (hn : atF n slot + 768 ≤ s.ws.length) : ∃ t, dropSF s n slot = (t, 0) ∧ t.off = false ∧ headW t.ws (atF n slot) = none := by
  have hp : atF n slot = 256 * (n + 3 * slot.toNat) := by unfold atF; omega
  have e : dropSF s n slot = (s.did (fillF s.ws (256 * (n + 3 * slot.toNat)) 256), 0) := by
    unfold dropSF eraseF
    rw [check_ok hs hb, if_neg (by simp), hs, if_neg (by simp), if_neg (by omega), if_neg hl, Int.toNat_natCast]
  refine ⟨_, e, (did_off _ _).trans hs, headW_none (.inl ?_)⟩
  rw [did_ws, hp, fill_get0, if_pos (by omega)]

set_option maxRecDepth 100000 in
set_option maxHeartbeats 8000000 in
theorem slotsBegun_walk {w : World} {la : Option Addr} {lc : Nat} {l : List (BitVec 32)} (hl32 : Sl u32v w la l) (hll : l.length ≤ 9223372036854775807) (c0 c1 c2 : BitVec 32) (sz : Nat) (hsz : sz ≤ 65535) :
    Calls Try.prog 36 #[.slice la l.length lc, .agg #[.int .u32 c0.toNat, .int .u32 c1.toNat, .int .u32 c2.toNat], .int .u16 sz] w (Law w) := by
  refine calls_of_vc lok Try.func36 ?_ rfl
  conv => whnf
  intro w1 hw1
  have hc1 : Blk w1 w.heap.size 99 [u32v c0, u32v c1, u32v c2] ∨ Blk w1 w.heap.size 166 [u32v c0, u32v c1, u32v c2] := by right; rw [hw1]; exact Blk.new w 166 _
  replace hc1 : Blk w1 w.heap.size 166 [u32v c0, u32v c1, u32v c2] := by rw [hw1]; exact Blk.new w 166 _
  have x1 : Ext w w1 := by rw [hw1]; exact Ext.new _ _
  clear hw1
  have hclt := hc1.lt
  have gcb : ∃ cb, cb = w.heap.size := ⟨_, rfl⟩
  obtain ⟨cb, hcb⟩ := gcb
  rw [← hcb] at hc1 hclt ⊢
  conv => whnf
  refine vcLoop_inv lok (σ := Nat × Option Addr × Nat × List (BitVec 32))
    (fun ⟨i, ra, rc, ws⟩ => [(8, .int .i64 i), (7, .slice ra ws.length rc), (0, .slice la l.length lc), (4, .pointer (some ⟨cb, 0, none⟩)), (2, .int .u16 sz)])
    (fun ⟨i, ra, rc, ws⟩ w' => i ≤ 1536 ∧ ws.length = i ∧ Own 42 u32v w1.heap.size w' ra rc ws ∧ Ext w1 w') (fun t => 1536 - t.1)
    (0, none, 0, []) ⟨rfl, rfl, rfl, rfl, rfl, trivial⟩ ⟨Nat.zero_le _, rfl, Own.nil _ _ _ _, Ext.refl _⟩ ?_
  rintro ⟨i, ra, rc, ws⟩ w2 ⟨hi, hwl, ho2, x2⟩
  conv => whnf
  refine vcCond_split lok rfl (fun h2 => ?_) (fun h2 => ?_)
  · have h2 := dt h2
    conv => whnf
    intro z hz
    clear hz
    conv => whnf
    intro z2 hz2
    have gy := u32_any hz2
    obtain ⟨y0, hy0⟩ := gy
    clear hz2
    subst hy0
    conv => whnf
    refine vcCond_meet (fun y : BitVec 32 => [(9, .int .u32 y.toNat), (8, .int .i64 i), (7, .slice ra ws.length rc), (0, .slice la l.length lc), (4, .pointer (some ⟨cb, 0, none⟩)), (2, .int .u16 sz)]) (fun y w' => w' = w2) ?_ ?_
    · refine vcCond_split lok rfl (fun h3 => ?_) (fun h3 => ?_)
      · have h3 := dt h3
        conv => whnf
        refine ⟨by omega, ?_⟩
        intro z hz
        have hz10 : z = ((i % l.length : Nat) : Int) := by rw [hz]; exact rem_nat i l.length
        clear hz
        subst hz10
        conv => whnf
        have hix : i % l.length < l.length := Nat.mod_lt _ (by omega)
        have g11 := sl_get ((hl32.ext (x1.trans x2))) (((i % l.length : Nat) : Int)) (i % l.length) (by omega) (by omega)
        obtain ⟨p11, o11, ha11, hb11, hcell11⟩ := g11
        refine ⟨p11, o11, ha11, hb11, ?_⟩
        conv => whnf
        refine ⟨_, hcell11, ?_⟩
        conv => whnf
        exact ⟨_, ⟨rfl, rfl, rfl, rfl, rfl, rfl, trivial⟩, rfl⟩
      · conv => whnf
        exact ⟨y0, ⟨rfl, rfl, rfl, rfl, rfl, rfl, trivial⟩, rfl⟩
    rintro y w3 hw3
    subst hw3
    conv => whnf
    have g6 := run_word w3 y
    obtain ⟨w6, hr6, ho6, x6⟩ := g6
    refine ⟨_, _, hr6, ?_⟩
    conv => whnf
    have z6 := x6.size
    have z2 := x2.size
    have g7 := run_app (ty := 37) (d := 1) (ho2.ext x6) ho6.sl (by simp; omega) (by omega)
    obtain ⟨a7, c7, w7, hr7, ho7, hg7⟩ := g7
    refine ⟨_, _, hr7, ?_⟩
    have x7 : Ext w1 w7 := hg7.extOf (x2.trans x6) (fun g hg => (ho2.ge g hg).1)
    have el : (ws ++ [y]).length = i + 1 := by rw [List.length_append, hwl]; rfl
    have gy : ∃ ys, ys = ws ++ [y] := ⟨_, rfl⟩
    obtain ⟨ys, hys⟩ := gy
    rw [← hys] at ho7 el ⊢
    conv => whnf
    refine ⟨by omega, ?_⟩
    conv => whnf
    exact ⟨(i + 1, a7, c7, ys), ⟨rfl, rfl, rfl, rfl, rfl, trivial⟩, ⟨by omega, el, ho7, x7⟩, by show 1536 - (i + 1) < 1536 - i; omega⟩
  have h2 := df h2
  conv => whnf
  have hw1536 : ws.length = 1536 := by omega
  clear h2 hi hwl
  intro z hz
  have hz18 : z = (sz : Int) := by rw [hz]; exact wi64 (by omega)
  clear hz
  subst hz18
  conv => whnf
  refine ⟨by decide, ?_⟩
  intro z hz
  have hz19 : z = ((sz % 2048 : Nat) : Int) := by rw [hz]; exact rem_nat sz 2048
  clear hz
  subst hz19
  conv => whnf
  refine ⟨by omega, ?_⟩
  conv => whnf
  have gn : ∃ n : Nat, n = 1 + sz % 2048 ∧ 1 ≤ n ∧ n ≤ 2048 := ⟨_, rfl, by omega, by omega⟩
  obtain ⟨n, hn, hn1, hn2⟩ := gn
  rw [show (1 : Int) + ((sz % 2048 : Nat) : Int) = (n : Int) by omega]
  conv => whnf
  refine Calls.ret (of_big ho2.sl (by omega)) ?_
  rintro _ w3 hp
  conv => whnf
  rcases hp with ⟨_, g, gw, fc, rfl, f3, x3⟩ | ⟨hno, _⟩
  rotate_left
  · rw [hw1536] at hno; exact absurd hno (by decide)
  have so0 : (newFS ws).off = false := rfl
  have sn0 : Num (newFS ws) 1536 0 := ⟨hw1536, ⟨Int.le_refl _, Int.le_refl _⟩, by show (-1 : Int) ≤ _; decide⟩
  have gs0 : ∃ s0, s0 = newFS ws := ⟨_, rfl⟩
  obtain ⟨s0, hs0⟩ := gs0
  rw [← hs0] at f3 so0 sn0
  clear hs0
  have l0 := sn0.len
  have f3lo := f3.lo
  have f3lt := f3.lt
  have z1 := x1.size
  have z2 := x2.size
  have x03 := x1.trans (x2.trans x3)
  have hc3 := (hc1.ext x2).ext x3
  conv => whnf
  refine Calls.ret (sopen_calls f3 (by omega) 0) ?_
  rintro _ w4 hp
  conv => whnf
  rcases hp with ⟨hno, _, _⟩ | ⟨m, hm, _, sb, rfl, hsb, S4, x4⟩
  · exact absurd ⟨by decide, by rw [l0]; decide⟩ hno
  have hm0 : m = 0 := by omega
  subst hm0
  clear hm
  have hbad : ¬ badF 0 := by decide
  have hat : atF 0 0 = 0 := rfl
  have S4' : SlAt w.heap.size w4 sb g gw fc 0 s0 := ⟨S4.f.base (by omega), S4.b, S4.n1, S4.n2, S4.room, S4.small⟩
  clear S4
  conv => whnf
  refine vcReg_go lok ?_
  conv => whnf
  refine vcCond_false lok (rfl) ?_
  conv => whnf
  refine Calls.ret (shead_calls S4' 0) ?_
  rintro _ w5 ⟨rfl, x5⟩
  conv => whnf
  rw [headR_on so0 hbad]
  have gH0 : ∃ H, H = headV s0.ws (atF 0 0) := ⟨_, rfl⟩
  obtain ⟨H0, hH0⟩ := gH0
  rw [← hH0]
  have S5 := S4'.ext x5
  have hc5 := (hc3.ext x4).ext x5
  have x05 := x03.trans (x4.trans x5)
  have hc0lt := c0.isLt
  refine ⟨by decide, ?_⟩
  conv => whnf
  refine ⟨_, hc5.cell (i := 0) rfl, ?_⟩
  conv => whnf
  refine ⟨by decide, ?_⟩
  have gk8 : ∃ k8 : Nat, k8 = c0.toNat % 8 ∧ k8 < 8 := ⟨_, rfl, by omega⟩
  obtain ⟨k8, hk8, hk88⟩ := gk8
  intro z hz
  have hz31 : z = (k8 : Int) := by rw [hz, hk8]; exact rem_nat _ 8
  clear hz
  subst hz31
  conv => whnf
  intro z hz
  have hz32 : z = (k8 : Int) := by rw [hz]; exact wi64 (by omega)
  clear hz
  subst hz32
  conv => whnf
  refine ⟨by decide, ?_⟩
  conv => whnf
  have hcell1 : w5.cell? ⟨cb, 0 + (1 : Int).toNat * 1, none⟩ = some (u32v c1) := by rw [show 0 + (1 : Int).toNat * 1 = 0 + 1 from rfl]; exact hc5.cell (i := 1) rfl
  refine ⟨u32v c1, hcell1, ?_⟩
  conv => unfold vcPut; dsimp only
  rw [show Nat.blt 76 Try.f36.ntmps = true from rfl]
  conv => unfold vcOps; dsimp only
  conv => unfold vcOp; dsimp only [ev, evs]
  conv => whnf
  have g8 := cut_calls S5.f (k8 : Int) c1
  have sn8 := sn0.cut (k8 : Int) (by omega) c1
  rw [cut_pos s0 _ (by omega) c1] at g8 sn8
  have gs1 : ∃ s1 : FS, s1 = { s0 with left := (k8 : Int), mask := c1 } := ⟨_, rfl⟩
  obtain ⟨s1, hs1⟩ := gs1
  have sw1 : s1.ws = s0.ws := by rw [hs1]
  have so1 : s1.off = false := by rw [hs1]; exact so0
  rw [← hs1] at g8 sn8
  clear hs1
  replace sn8 : Num s1 1536 1 := sn8
  refine Calls.ret (g8) ?_
  rintro _ w8 ⟨rfl, f8, m8⟩
  conv => whnf
  have S8 : SlAt w.heap.size w8 sb g gw fc 0 s1 := S5.next f8 m8 (by rw [sw1])
  have x08 := FlMod.above m8 x05 (by omega) (by omega)
  have ncb : ¬ (cb = g ∨ cb = gw) := fun e => by rcases e with e | e <;> omega
  have hc8 := m8.keepBlk hc5 ncb
  have hcell2 : w8.cell? ⟨cb, 0 + (2 : Int).toNat * 1, none⟩ = some (u32v c2) := by rw [show 0 + (2 : Int).toNat * 1 = 0 + 2 from rfl]; exact hc8.cell (i := 2) rfl
  refine ⟨by decide, ?_⟩
  conv => whnf
  refine ⟨u32v c2, hcell2, ?_⟩
  conv => whnf
  have hc2lt := c2.isLt
  refine ⟨by decide, ?_⟩
  intro z hz
  have hz38 : z = ((c2.toNat % 1000 : Nat) : Int) := by rw [hz]; exact rem_nat _ 1000
  clear hz
  subst hz38
  conv => whnf
  have gv : ∃ v : BitVec 32, v = BitVec.ofNat 32 (1 + c2.toNat % 1000) := ⟨_, rfl⟩
  obtain ⟨v, hv⟩ := gv
  have hvn : v.toNat = 1 + c2.toNat % 1000 := by rw [hv, BitVec.toNat_ofNat]; omega
  clear hv
  intro z hz
  have hz39 : z = (v.toNat : Int) := by rw [hz, wu32]; omega
  clear hz
  subst hz39
  conv => whnf
  have hcan : canN v (n : Int) := ⟨fun e => by rw [e] at hvn; simp at hvn; omega, fun e => by rw [e] at hvn; have : ones.toNat = 4294967295 := rfl; omega, by omega, by omega⟩
  have gb := begin_cases (n := 0) (slot := 0) (v := v) (m := n) so1 hbad hcan (by rw [hat, sn8.len]; decide)
  have tn := begin_num (at_ := 0) (slot := 0) (v := v) (m := n) sn8
  have gbeg := sbegin_calls S8 0 v n (by rw [sn8.len]; exact sn8) (by decide)
  rw [Int.toNat_natCast, sw1] at gb
  have hres : ∃ t e, beginSF s1 0 0 v n = (t, e) ∧ ((e = 0 ∧ Fresh t.ws (atF 0 0) v n) ∨ (e = 7 ∧ (Fresh t.ws (atF 0 0) v n ∨ t.ws = s0.ws ∨ headW t.ws (atF 0 0) = none))) := by
    rcases gb with ⟨t, q1, q2, _, _⟩ | ⟨t, q1, _, _, q4⟩
    · exact ⟨t, 0, q1, .inl ⟨rfl, q2⟩⟩
    · exact ⟨t, 7, q1, .inr ⟨rfl, q4⟩⟩
  obtain ⟨t, e, q1, q2⟩ := hres
  rw [q1] at tn gbeg
  clear gb
  replace tn : Num t 1536 18 := tn
  refine Calls.ret (gbeg) ?_
  rintro _ w9 ⟨rfl, S9, m9⟩
  conv => whnf
  replace S9 : SlAt w.heap.size w9 sb g gw fc 0 t := S9
  have x09 := FlMod.above m9 x08 (by omega) (by omega)
  have hc9 := m9.keepBlk hc8 ncb
  refine Calls.ret (start_calls S9.f) ?_
  rintro _ w10 ⟨rfl, f10, m10⟩
  conv => whnf
  have S10 : SlAt w.heap.size w10 sb g gw fc 0 (startF t) := S9.next f10 m10 rfl
  have x010 := FlMod.above m10 x09 (by omega) (by omega)
  have hc10 := m10.keepBlk hc9 ncb
  have sn10 := tn.start
  have so10 : (startF t).off = false := rfl
  have sw10 : (startF t).ws = t.ws := rfl
  have gs3 : ∃ s3, s3 = startF t := ⟨_, rfl⟩
  obtain ⟨s3, hs3⟩ := gs3
  rw [← hs3] at S10 sn10 so10 sw10
  clear hs3 f10
  rw [← sw10] at q2
  refine Calls.ret (shead_calls S10 0) ?_
  rintro _ w11 ⟨rfl, x11⟩
  conv => whnf
  rw [headR_on so10 hbad]
  refine Calls.ret (shave_calls (S10.ext x11) 0) ?_
  rintro _ w12 ⟨rfl, x12⟩
  conv => whnf
  rw [haveF_on so10 hbad]
  have hc12 := (hc10.ext x11).ext x12
  -- what is told of what was begun
  have qF : Fresh s3.ws (atF 0 0) v n → headV s3.ws (atF 0 0) = (v, n, true) ∧ (haveW s3.ws (atF 0 0)).1 = 0#32 := fun q => ⟨(by unfold headV; rw [q.head]), q.have⟩
  have qS : s3.ws = s0.ws → headV s3.ws (atF 0 0) = headV s0.ws (atF 0 0) := fun q => by rw [q]
  have qN : headW s3.ws (atF 0 0) = none → (headV s3.ws (atF 0 0)).2.2 = false := fun q => by unfold headV; rw [q]
  have gH : ∃ H, H = headV s3.ws (atF 0 0) := ⟨_, rfl⟩
  obtain ⟨H, hH⟩ := gH
  rw [← hH0] at qS
  rw [← hH] at qF qS qN ⊢
  clear hH hH0
  have gV : ∃ V, V = (haveW s3.ws (atF 0 0)).1 := ⟨_, rfl⟩
  obtain ⟨V, hV⟩ := gV
  rw [← hV] at qF ⊢
  clear hV
  have qF1 : Fresh s3.ws (atF 0 0) v n → H.1 = v ∧ H.2.1 = n ∧ H.2.2 = true ∧ V = 0#32 := fun q => by
    have k := qF q
    rw [k.1]
    exact ⟨rfl, rfl, rfl, k.2⟩
  clear qF
  conv => whnf
  refine vcReg_meet lok (fun β : Bool => [(23, .bool β)]) (fun β w' => w' = w12 ∧ (Fresh s3.ws (atF 0 0) v n → β = true)) [23] (fun _ => rfl) rfl ?_ ?_
  · conv => whnf
    refine bcase (fun k1 => ?_) (fun k1 => ?_)
    · conv => whnf
      refine ⟨by decide, ?_⟩
      conv => whnf
      have hcell3 : w12.cell? ⟨cb, 0 + (2 : Int).toNat * 1, none⟩ = some (u32v c2) := by rw [show 0 + (2 : Int).toNat * 1 = 0 + 2 from rfl]; exact hc12.cell (i := 2) rfl
      refine ⟨u32v c2, hcell3, ?_⟩
      conv => whnf
      refine ⟨by decide, ?_⟩
      intro z hz
      have hz49 : z = ((c2.toNat % 1000 : Nat) : Int) := by rw [hz]; exact rem_nat _ 1000
      clear hz
      subst hz49
      conv => whnf
      intro z hz
      have hz50 : z = (v.toNat : Int) := by rw [hz, wu32]; omega
      clear hz
      subst hz50
      conv => whnf
      refine bcase (fun k2 => ?_) (fun k2 => ?_)
      · conv => whnf
        refine bcase (fun k3 => ?_) (fun k3 => ?_)
        · conv => whnf
          refine ⟨_, ⟨rfl, trivial⟩, rfl, fun q => ?_⟩
          rw [(qF1 q).2.2.2]
          rfl
        · conv => whnf
          exact ⟨_, ⟨rfl, trivial⟩, rfl, fun q => absurd (by rw [(qF1 q).2.1]) (df k3)⟩
      · conv => whnf
        exact ⟨_, ⟨rfl, trivial⟩, rfl, fun q => absurd (by rw [(qF1 q).1]) (df k2)⟩
    · conv => whnf
      exact ⟨_, ⟨rfl, trivial⟩, rfl, fun q => by rw [(qF1 q).2.2.1] at k1; cases k1⟩
  rintro β1 w13 ⟨hw13, hβ1⟩
  subst hw13
  conv => whnf
  refine vcReg_meet lok (fun β : Bool => [(24, .bool β)]) (fun β w' => w' = w13 ∧ (s3.ws = s0.ws → β = true)) [24] (fun _ => rfl) rfl ?_ ?_
  · conv => whnf
    refine bcase (fun k1 => ?_) (fun k1 => ?_)
    · conv => whnf
      refine bcase (fun k2 => ?_) (fun k2 => ?_)
      · conv => whnf
        exact ⟨_, ⟨rfl, trivial⟩, rfl, fun q => by rw [qS q]; exact decide_eq_true rfl⟩
      · conv => whnf
        exact ⟨_, ⟨rfl, trivial⟩, rfl, fun q => absurd (by rw [qS q]) (df k2)⟩
    · conv => whnf
      exact ⟨_, ⟨rfl, trivial⟩, rfl, fun q => by rw [qS q, beq_self_bool] at k1; cases k1⟩
  rintro β2 w14 ⟨hw14, hβ2⟩
  subst hw14
  conv => whnf
  refine vcReg_meet lok (fun β : Bool => [(153, .bool β)]) (fun β w' => w' = w14 ∧ β = false) [153] (fun _ => rfl) rfl ?_ ?_
  · rcases q2 with ⟨q2, q3⟩ | ⟨q2, q3⟩
    · have h1 := hβ1 q3
      subst h1
      subst q2
      conv => whnf
      exact ⟨_, ⟨rfl, trivial⟩, rfl, rfl⟩
    · subst q2
      rcases q3 with q3 | q3 | q3
      · have h1 := hβ1 q3
        subst h1
        conv => whnf
        refine bcase (fun k1 => ?_) (fun k1 => ?_)
        · conv => whnf
          exact ⟨_, ⟨rfl, trivial⟩, rfl, rfl⟩
        · conv => whnf
          exact ⟨_, ⟨rfl, trivial⟩, rfl, rfl⟩
      · have h2 := hβ2 q3
        subst h2
        conv => whnf
        refine bcase (fun k1 => ?_) (fun k1 => ?_)
        · conv => whnf
          refine bcase (fun k2 => ?_) (fun k2 => ?_)
          · conv => whnf
            exact ⟨_, ⟨rfl, trivial⟩, rfl, rfl⟩
          · conv => whnf
            exact ⟨_, ⟨rfl, trivial⟩, rfl, rfl⟩
        · conv => whnf
          exact ⟨_, ⟨rfl, trivial⟩, rfl, rfl⟩
      · have hb := qN q3
        rw [hb]
        conv => whnf
        exact ⟨_, ⟨rfl, trivial⟩, rfl, rfl⟩
  rintro β3 w15 ⟨hw15, rfl⟩
  subst hw15
  conv => whnf
  refine vcCond_false lok (rfl) ?_
  conv => whnf
  have x1115 := x11.trans x12
  have S15 := S10.ext x1115
  have g16 := cut_calls S15.f 1048576 0#32
  have sn16 := sn10.cut 1048576 (by decide) 0#32
  rw [cut_pos s3 _ (by decide) 0#32] at g16 sn16
  have gs4 : ∃ s4 : FS, s4 = { s3 with left := 1048576, mask := 0#32 } := ⟨_, rfl⟩
  obtain ⟨s4, hs4⟩ := gs4
  have so4 : s4.off = false := by rw [hs4]; exact so10
  have sl4 : s4.left = 1048576 := by rw [hs4]
  have sw4 : s4.ws = s3.ws := by rw [hs4]
  rw [← hs4] at g16 sn16
  clear hs4
  refine Calls.ret (g16) ?_
  rintro _ w16 ⟨rfl, f16, m16⟩
  conv => whnf
  have S16 : SlAt w.heap.size w16 sb g gw fc 0 s4 := S15.next f16 m16 (by rw [sw4])
  have x016 := FlMod.above m16 (x010.trans x1115) (by omega) (by omega)
  replace sn16 : Num s4 1536 20 := sn16
  have gd := drop_ok (n := 0) (slot := 0) so4 hbad (by rw [sl4]; decide) (by rw [hat, sn16.len]; decide)
  obtain ⟨t5, d1, d2, d3⟩ := gd
  have gdr := sdrop_calls S16 0 (by rw [sn16.len]; exact sn16) (by decide)
  rw [d1] at gdr
  refine Calls.ret (gdr) ?_
  rintro _ w17 ⟨rfl, S17, m17⟩
  conv => whnf
  replace S17 : SlAt w.heap.size w17 sb g gw fc 0 t5 := S17
  have x017 := FlMod.above m17 x016 (by omega) (by omega)
  have gh := shead_calls S17 0
  rw [headR_on d2 hbad] at gh
  have ev : headV t5.ws (atF 0 0) = (0#32, 0, false) := by unfold headV; rw [d3]
  rw [ev] at gh
  refine Calls.ret (gh) ?_
  rintro _ w18 ⟨rfl, x18⟩
  conv => whnf
  refine vcReg_go lok ?_
  conv => whnf
  refine Calls.ret (known22) ?_
  rintro _ w19 ⟨rfl, x19⟩
  conv => whnf
  exact ⟨rfl, x017.trans (x18.trans x19)⟩
end Go.Proofs.Ytgipackjnncabaa

/- Turns of the receiver's laws; the law XferRefuses, walked. -/
set_option linter.unusedVariables false
namespace Go.Proofs.Ytgipackjnncabaa
open Go.Vc Go.RowKit

/-- what a receiver is given: its cells, and what they read as -/
structure Tn where
  e : Ev
  slot : Int
  least : BitVec 32
  busy : Bool
  cut : BitVec 8
  mask : BitVec 32
def Tn.cells (t : Tn) : List Value := t.e.cells ++ [.int .i64 t.slot, u32v t.least, .bool t.busy, u8v t.cut, u32v t.mask]
theorem Tn.ev_cells (t : Tn) (i : Nat) (v : Value) (h : t.e.cells[i]? = some v) : t.cells[0 + i]? = some v := by
  rw [Nat.zero_add]
  have hl : i < t.e.cells.length := by
    rcases Nat.lt_or_ge i t.e.cells.length with q | q
    · exact q
    · rw [List.getElem?_eq_none q] at h; cases h
  exact (List.getElem?_append_left hl).trans h
theorem Tn.one (t : Tn) : ∀ u ∈ t.cells, u.oneCell' = true := by
  intro u hu
  simp only [Tn.cells, Ev.cells, Pk.cells, List.mem_cons, List.mem_append, List.not_mem_nil, or_false] at hu
  rcases hu with ((rfl | rfl | rfl) | rfl | rfl | rfl | rfl | rfl | rfl | rfl) | rfl | rfl | rfl | rfl | rfl <;> rfl
theorem fit_turn {w : World} {es : List Value} (h : Fit w (.st (.pair 10 (.st (.pair 1 .bool (.pair 1 .bool (.pair 1 (.slice 1 (.int .u8)) (.pair 7 (.st (.pair 1 (.int .i64) (.pair 1 (.int .u32) (.pair 1 (.int .i64) (.pair 1 (.int .i64) (.pair 1 (.int .i64) (.pair 1 (.int .u32) (.pair 1 (.slice 1 (.int .u8)) .unit)))))))) .unit)))))
    (.pair 1 (.int .i64) (.pair 1 (.int .u32) (.pair 1 .bool (.pair 1 (.int .u8) (.pair 1 (.int .u32) .unit))))))) es) : ∃ t : Tn, es = t.cells ∧ EvOk w t.e := by
  obtain ⟨c1, r1, e1, _, h1, c2, r2, e2, _, ⟨n2, h2, k2⟩, c3, r3, e3, _, ⟨n3, h3, k3⟩, c4, r4, e4, _, ⟨n4, h4⟩, c5, r5, e5, _, ⟨n5, h5, k5⟩, c6, r6, e6, _, ⟨n6, h6, k6⟩, h7⟩ := h
  have h7 : r6 = [] := h7
  have g := fit_ev h1
  obtain ⟨e, ee, he⟩ := g
  obtain ⟨m3, hm3⟩ := wf_u32 k3
  obtain ⟨m5, hm5⟩ := wf_u8 k5
  obtain ⟨m6, hm6⟩ := wf_u32 k6
  refine ⟨⟨e, n2, m3, n4, m5, m6⟩, ?_, he⟩
  rw [e1, e2, e3, e4, e5, e6, h2, h3, h4, h5, h6, h7, ee, hm3, hm5, hm6, List.append_nil]
  rfl

/-- what is refused -/
theorem rcv_err {s : FS} {n : Nat} {slot : Int} {least : BitVec 32} {busy : Bool} {b : List (BitVec 8)} (h : ¬ (unpackF b).2 = 0) : rcvF s n slot least busy b = (s, [], (unpackF b).2) := by
  unfold rcvF; rw [if_pos h]
theorem rcv_ack {s : FS} {n : Nat} {slot : Int} {least : BitVec 32} {busy : Bool} {b : List (BitVec 8)} (h0 : (unpackF b).2 = 0) (h : (unpackF b).1.kind = 3) : rcvF s n slot least busy b = (s, [], 4) := by
  unfold rcvF; rw [if_neg (fun q => q h0), if_pos h]
theorem rcv_stale {s : FS} {n : Nat} {slot : Int} {least : BitVec 32} {busy : Bool} {b : List (BitVec 8)} (h0 : (unpackF b).2 = 0) (h : ¬ (unpackF b).1.kind = 3) (hb : busy = true ∨ (unpackF b).1.ver.toNat ≤ least.toNat) :
    rcvF s n slot least busy b = (s, ackF (unpackF b).1.ver 0#32 0, 0) := by
  unfold rcvF; rw [if_neg (fun q => q h0), if_neg h, if_pos hb]

set_option maxRecDepth 100000 in
set_option maxHeartbeats 8000000 in
theorem xferRefuses_walk {w : World} {la : Option Addr} {lc : Nat} {l : List (BitVec 32)} (hl32 : Sl u32v w la l) (hll : l.length ≤ 9223372036854775807) (t : Tn) (ht : EvOk w t.e) :
    Calls Try.prog 39 #[.slice la l.length lc, .agg t.cells.toArray] w (Law w) := by
  refine calls_of_vc lok Try.func39 ?_ rfl
  conv => whnf
  intro w1 hw1
  have hc1 : Blk w1 w.heap.size 74 t.cells := by rw [hw1]; exact Blk.new w 74 _
  have x1 : Ext w w1 := by rw [hw1]; exact Ext.new _ _
  clear hw1
  have hclt := hc1.lt
  have gcb : ∃ cb, cb = w.heap.size := ⟨_, rfl⟩
  obtain ⟨cb, hcb⟩ := gcb
  rw [← hcb] at hc1 hclt ⊢
  conv => whnf
  refine vcLoop_inv lok (σ := Nat × Option Addr × Nat × List (BitVec 32))
    (fun ⟨i, ra, rc, ws⟩ => [(6, .int .i64 i), (5, .slice ra ws.length rc), (0, .slice la l.length lc), (3, .pointer (some ⟨cb, 0, none⟩))])
    (fun ⟨i, ra, rc, ws⟩ w' => i ≤ 1536 ∧ ws.length = i ∧ Own 42 u32v w1.heap.size w' ra rc ws ∧ Ext w1 w') (fun t => 1536 - t.1)
    (0, none, 0, []) ⟨rfl, rfl, rfl, rfl, trivial⟩ ⟨Nat.zero_le _, rfl, Own.nil _ _ _ _, Ext.refl _⟩ ?_
  rintro ⟨i, ra, rc, ws⟩ w2 ⟨hi, hwl, ho2, x2⟩
  conv => whnf
  refine vcCond_split lok rfl (fun h2 => ?_) (fun h2 => ?_)
  · have h2 := dt h2
    conv => whnf
    intro z hz
    clear hz
    conv => whnf
    intro z2 hz2
    have gy := u32_any hz2
    obtain ⟨y0, hy0⟩ := gy
    clear hz2
    subst hy0
    conv => whnf
    refine vcCond_meet (fun y : BitVec 32 => [(7, .int .u32 y.toNat), (6, .int .i64 i), (5, .slice ra ws.length rc), (0, .slice la l.length lc), (3, .pointer (some ⟨cb, 0, none⟩))]) (fun y w' => w' = w2) ?_ ?_
    · refine vcCond_split lok rfl (fun h3 => ?_) (fun h3 => ?_)
      · have h3 := dt h3
        conv => whnf
        refine ⟨by omega, ?_⟩
        intro z hz
        have hz10 : z = ((i % l.length : Nat) : Int) := by rw [hz]; exact rem_nat i l.length
        clear hz
        subst hz10
        conv => whnf
        have hix : i % l.length < l.length := Nat.mod_lt _ (by omega)
        have g11 := sl_get ((hl32.ext (x1.trans x2))) (((i % l.length : Nat) : Int)) (i % l.length) (by omega) (by omega)
        obtain ⟨p11, o11, ha11, hb11, hcell11⟩ := g11
        refine ⟨p11, o11, ha11, hb11, ?_⟩
        conv => whnf
        refine ⟨_, hcell11, ?_⟩
        conv => whnf
        exact ⟨_, ⟨rfl, rfl, rfl, rfl, rfl, trivial⟩, rfl⟩
      · conv => whnf
        exact ⟨y0, ⟨rfl, rfl, rfl, rfl, rfl, trivial⟩, rfl⟩
    rintro y w3 hw3
    subst hw3
    conv => whnf
    have g6 := run_word w3 y
    obtain ⟨w6, hr6, ho6, x6⟩ := g6
    refine ⟨_, _, hr6, ?_⟩
    conv => whnf
    have z6 := x6.size
    have z2 := x2.size
    have g7 := run_app (ty := 37) (d := 1) (ho2.ext x6) ho6.sl (by simp; omega) (by omega)
    obtain ⟨a7, c7, w7, hr7, ho7, hg7⟩ := g7
    refine ⟨_, _, hr7, ?_⟩
    have x7 : Ext w1 w7 := hg7.extOf (x2.trans x6) (fun g hg => (ho2.ge g hg).1)
    have el : (ws ++ [y]).length = i + 1 := by rw [List.length_append, hwl]; rfl
    have gy : ∃ ys, ys = ws ++ [y] := ⟨_, rfl⟩
    obtain ⟨ys, hys⟩ := gy
    rw [← hys] at ho7 el ⊢
    conv => whnf
    refine ⟨by omega, ?_⟩
    conv => whnf
    exact ⟨(i + 1, a7, c7, ys), ⟨rfl, rfl, rfl, rfl, trivial⟩, ⟨by omega, el, ho7, x7⟩, by show 1536 - (i + 1) < 1536 - i; omega⟩
  have h2 := df h2
  conv => whnf
  have hw1536 : ws.length = 1536 := by omega
  clear h2 hi hwl
  refine Calls.ret (of_big ho2.sl (by omega)) ?_
  rintro _ w3 hp
  conv => whnf
  rcases hp with ⟨_, g, gw, fc, rfl, f3, x3⟩ | ⟨hno, _⟩
  rotate_left
  · rw [hw1536] at hno; exact absurd hno (by decide)
  have sw0 : (newFS ws).ws = ws := rfl
  have sn0 : Num (newFS ws) 1536 0 := ⟨hw1536, ⟨Int.le_refl _, Int.le_refl _⟩, by show (-1 : Int) ≤ _; decide⟩
  have gs0 : ∃ s0, s0 = newFS ws := ⟨_, rfl⟩
  obtain ⟨s0, hs0⟩ := gs0
  rw [← hs0] at f3 sw0 sn0
  clear hs0
  have l0 := sn0.len
  have f3lo := f3.lo
  have f3lt := f3.lt
  have z1 := x1.size
  have z2 := x2.size
  have z3 := x3.size
  have x03 := x1.trans (x2.trans x3)
  have hc3 := (hc1.ext x2).ext x3
  have ho3 := ho2.ext x3
  have oge := fun b hb => (ho2.ge b hb).2
  conv => whnf
  refine Calls.ret (sopen_calls f3 (by omega) 0) ?_
  rintro _ w4 hp
  conv => whnf
  rcases hp with ⟨hno, _, _⟩ | ⟨m, hm, _, sb, rfl, hsb, S4, x4⟩
  · exact absurd ⟨by decide, by rw [l0]; decide⟩ hno
  have hm0 : m = 0 := by omega
  subst hm0
  clear hm
  have S4' : SlAt w.heap.size w4 sb g gw fc 0 s0 := ⟨S4.f.base (by omega), S4.b, S4.n1, S4.n2, S4.room, S4.small⟩
  clear S4
  have x04 := x03.trans x4
  have hc4 := hc3.ext x4
  have ho4 := ho3.ext x4
  conv => whnf
  refine vcReg_go lok ?_
  conv => whnf
  refine vcCond_false lok (rfl) ?_
  conv => whnf
  refine ⟨t.e.cells, rfl, hc4.cellsAt 0 _ t.ev_cells, ?_⟩
  conv => whnf
  have hebl := bytesE_len t.e
  refine Calls.ret (evBytes_calls t.e (ht.ext x04)) ?_
  rintro _ w5 ⟨a5, c5, rfl, hs5, hbc5, x5⟩
  conv => whnf
  have gbs : ∃ bs, bs = bytesE t.e := ⟨_, rfl⟩
  obtain ⟨bs, hbs⟩ := gbs
  rw [← hbs] at hs5 hbc5 hebl ⊢
  clear hbs
  conv => whnf
  refine Calls.ret (unpack_calls hs5 (by omega) hbc5) ?_
  rintro _ w6 ⟨a6, c6, rfl, ho6, x6⟩
  conv => whnf
  have gU : ∃ U, U = unpackF bs := ⟨_, rfl⟩
  obtain ⟨U, hU⟩ := gU
  have hUe : (unpackF bs).2 = U.2 := by rw [hU]
  have hUp : (unpackF bs).1 = U.1 := by rw [hU]
  rw [← hU] at ho6 ⊢
  clear hU
  obtain ⟨p, e⟩ := U
  have hUe : (unpackF bs).2 = e := hUe
  have hUp : (unpackF bs).1 = p := hUp
  have ho6 : Own 5 u8v w5.heap.size w6 a6 c6 p.data := ho6
  dsimp only
  conv => whnf
  intro w7 hw7
  have hb7 : Blk w7 w6.heap.size 112 (Pk.zero.cells none 0) := by rw [hw7]; exact Blk.new w6 112 _
  have x7 : Ext w6 w7 := by rw [hw7]; exact Ext.new _ _
  clear hw7
  conv => whnf
  have k8 := Blk.storeAgg lok hb7 (t := 112) (us := p.cells a6 c6) rfl 0 (Nat.le_refl 7) (Pk.one _ _ _)
  obtain ⟨w8, hr8, hb8, g8⟩ := k8
  have hb8 : Blk w8 w6.heap.size 112 (p.cells a6 c6) := hb8
  have x8 : Ext w6 w8 := g8.extOf x7 (fun g hg => by cases hg; exact Nat.le_refl _)
  refine ⟨w8, hr8, ?_⟩
  clear hr8 g8 hb7 x7
  have x48 := x5.trans (x6.trans x8)
  have x08 := x04.trans x48
  have S8 := S4'.ext x48
  have hc8 := hc4.ext x48
  have ho8 := ho4.ext x48
  have hs8 := hs5.ext (x6.trans x8)
  have z6 := (x4.trans (x5.trans x6)).size
  have gpb : ∃ pb, pb = w6.heap.size := ⟨_, rfl⟩
  obtain ⟨pb, hpb⟩ := gpb
  rw [← hpb] at hb8 ⊢
  conv => whnf
  refine ⟨_, hc8.cell (i := 10) rfl, ?_⟩
  conv => whnf
  refine ⟨_, hc8.cell (i := 11) rfl, ?_⟩
  conv => whnf
  refine ⟨_, hc8.cell (i := 12) rfl, ?_⟩
  conv => whnf
  refine Calls.ret (rcv_calls S8 t.slot t.least t.busy hs8 (by omega) hbc5 (by rw [l0]; exact sn0) (by decide)) ?_
  rintro _ w9 ⟨a9, c9, rfl, ho9, S9, m9⟩
  conv => whnf
  have x09 := FlMod.above m9 x08 (by omega) (by omega)
  have nfl : ∀ b, (b < w3.heap.size → b ≠ g → b ≠ gw → ¬ (b = g ∨ b = gw)) := fun b _ h1 h2 q => by rcases q with q | q; exact h1 q; exact h2 q
  have hc9 := m9.keepBlk hc8 (fun q => by rcases q with q | q <;> omega)
  have hb9 := m9.keepBlk hb8 (fun q => by rcases q with q | q <;> omega)
  have hw9 := m9.keepOwn ho8 (fun b hb q => by have := oge b hb; rcases q with q | q <;> omega)
  have gR : ∃ R, R = rcvF s0 0 t.slot t.least t.busy bs := ⟨_, rfl⟩
  obtain ⟨R, hR⟩ := gR
  rw [← hR] at ho9 S9 ⊢
  obtain ⟨r1, r2, r3⟩ := R
  have ho9 : Own 5 u8v w8.heap.size w9 a9 c9 r2 := ho9
  have S9 : SlAt w.heap.size w9 sb g gw fc 0 r1 := S9
  dsimp only
  conv => whnf
  refine vcCond_split lok rfl (fun k1 => ?_) (fun k1 => ?_)
  · -- no packet
    have k1 := ne_true k1
    have e1 := hR.trans (rcv_err (by rw [hUe]; exact k1))
    rw [hUe] at e1
    simp only [Prod.mk.injEq] at e1
    obtain ⟨e1, e2, e3⟩ := e1
    subst e1 e2 e3
    conv => whnf
    refine vcReg_go lok ?_
    conv => whnf
    refine bcase (fun _ => ?_) (fun q => absurd q (by simp))
    conv => whnf
    refine Calls.ret (fwords_calls (s := r1) S9.f (by omega)) ?_
    rintro _ w10 ⟨a10, c10, rfl, ho10, x10⟩
    conv => whnf
    refine Calls.ret (same_calls ho10.sl (hw9.ext x10).sl (by omega)) ?_
    rintro _ w11 ⟨rfl, x11⟩
    conv => whnf
    refine bcase (fun _ => ?_) (fun q => absurd q (by rw [sw0]; simp))
    conv => whnf
    refine Calls.ret (known23) ?_
    rintro _ w12 ⟨rfl, x12⟩
    conv => whnf
    exact ⟨rfl, x09.trans (x10.trans (x11.trans x12))⟩
  have k1 : e = 0 := ne_false k1
  conv => whnf
  refine ⟨_, hb9.cell (i := 0) rfl, ?_⟩
  conv => whnf
  refine vcCond_split lok rfl (fun k2 => ?_) (fun k2 => ?_)
  · -- an Ack
    have k2 := dt k2
    have e1 := hR.trans (rcv_ack (by rw [hUe]; exact k1) (by rw [hUp]; exact k2))
    simp only [Prod.mk.injEq] at e1
    obtain ⟨e1, e2, e3⟩ := e1
    subst e1 e2 e3
    conv => whnf
    refine vcReg_go lok ?_
    conv => whnf
    refine Calls.ret (fwords_calls (s := r1) S9.f (by omega)) ?_
    rintro _ w10 ⟨a10, c10, rfl, ho10, x10⟩
    conv => whnf
    refine Calls.ret (same_calls ho10.sl (hw9.ext x10).sl (by omega)) ?_
    rintro _ w11 ⟨rfl, x11⟩
    conv => whnf
    refine bcase (fun _ => ?_) (fun q => absurd q (by rw [sw0]; simp))
    conv => whnf
    refine Calls.ret (known23) ?_
    rintro _ w12 ⟨rfl, x12⟩
    conv => whnf
    exact ⟨rfl, x09.trans (x10.trans (x11.trans x12))⟩
  have k2 := df k2
  conv => whnf
  refine vcReg_meet lok (fun β : Bool => [(118, .bool β)]) (fun β w' => w' = w9 ∧ β = decide (t.busy = true ∨ p.ver.toNat ≤ t.least.toNat)) [118] (fun _ => rfl) rfl ?_ ?_
  · conv => whnf
    refine ⟨_, hc9.cell (i := 12) rfl, ?_⟩
    conv => whnf
    refine bcase (fun k3 => ?_) (fun k3 => ?_)
    · conv => whnf
      exact ⟨_, ⟨rfl, trivial⟩, rfl, by rw [decide_eq_true (.inl k3)]⟩
    · conv => whnf
      refine ⟨_, hb9.cell (i := 1) rfl, ?_⟩
      conv => whnf
      refine ⟨_, hc9.cell (i := 11) rfl, ?_⟩
      conv => whnf
      refine ⟨_, ⟨rfl, trivial⟩, rfl, ?_⟩
      rw [decide_eq_decide]
      exact ⟨fun q => .inr (by omega), fun q => by rcases q with q | q; rw [k3] at q; cases q; omega⟩
  rintro β w10 ⟨hw10, hβ⟩
  subst hw10
  conv => whnf
  refine vcCond_split lok rfl (fun k3 => ?_) (fun k3 => ?_)
  rotate_left
  · conv => whnf
    refine Calls.ret (known23) ?_
    rintro _ w12 ⟨rfl, x12⟩
    conv => whnf
    exact ⟨rfl, x09.trans x12⟩
  rw [k3] at hβ
  have k4 := dt hβ.symm
  have e1 := hR.trans (rcv_stale (by rw [hUe]; exact k1) (by rw [hUp]; exact k2) (by rw [hUp]; exact k4))
  rw [hUp] at e1
  simp only [Prod.mk.injEq] at e1
  obtain ⟨e1, e2, e3⟩ := e1
  subst e1 e3
  have hup := up_ack p.ver 0#32 0 (by decide)
  rw [← e2] at hup
  have hlen : r2.length ≤ 3000 := by rw [e2]; exact pack_len _
  have hle9 := ho9.le.1
  clear k3 hβ k4 hR e2
  conv => whnf
  refine Calls.ret (unpack_calls ho9.sl (by omega) hle9) ?_
  rintro _ w11 ⟨a11, c11, rfl, ho11, x11⟩
  conv => whnf
  rw [hup]
  dsimp only
  conv => whnf
  intro w12 hw12
  have hq12 : Blk w12 w11.heap.size 112 (Pk.zero.cells none 0) := by rw [hw12]; exact Blk.new w11 112 _
  have x12 : Ext w11 w12 := by rw [hw12]; exact Ext.new _ _
  clear hw12
  conv => whnf
  have k13 := Blk.storeAgg lok hq12 (t := 112) (us := (ackP p.ver 0#32 0).cells a11 c11) rfl 0 (Nat.le_refl 7) (Pk.one _ _ _)
  obtain ⟨w13, hr13, hq13, g13⟩ := k13
  have hq13 : Blk w13 w11.heap.size 112 ((ackP p.ver 0#32 0).cells a11 c11) := hq13
  have x13 : Ext w11 w13 := g13.extOf x12 (fun g hg => by cases hg; exact Nat.le_refl _)
  refine ⟨w13, hr13, ?_⟩
  have y13 := x11.trans x13
  have hb13 := hb9.ext y13
  have S13 := S9.ext y13
  have hw13 := hw9.ext y13
  clear hr13 g13 hq12 x12
  conv => whnf
  refine vcReg_go lok ?_
  conv => whnf
  refine ⟨_, hq13.cell (i := 0) rfl, ?_⟩
  conv => whnf
  refine ⟨_, hq13.cell (i := 4) rfl, ?_⟩
  conv => whnf
  refine ⟨_, hq13.cell (i := 1) rfl, ?_⟩
  conv => whnf
  refine ⟨_, hb13.cell (i := 1) rfl, ?_⟩
  conv => whnf
  refine bcase (fun _ => ?_) (fun q => absurd q (by simp [ackP]))
  conv => whnf
  refine Calls.ret (fwords_calls (s := r1) S13.f (by omega)) ?_
  rintro _ w14 ⟨a14, c14, rfl, ho14, x14⟩
  conv => whnf
  refine Calls.ret (same_calls ho14.sl (hw13.ext x14).sl (by omega)) ?_
  rintro _ w15 ⟨rfl, x15⟩
  conv => whnf
  refine bcase (fun _ => ?_) (fun q => absurd q (by rw [sw0]; simp))
  conv => whnf
  refine Calls.ret (known23) ?_
  rintro _ w16 ⟨rfl, x16⟩
  conv => whnf
  exact ⟨rfl, x09.trans (y13.trans (x14.trans (x15.trans x16)))⟩
end Go.Proofs.Ytgipackjnncabaa
