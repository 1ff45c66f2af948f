/- Walks of layer 23, third part: packets unpacked, compared. -/
import Derived.Test.YtgipackjnncabaaW23b
set_option linter.unusedVariables false
namespace Go.Proofs.Ytgipackjnncabaa
open Go.Vc Go.RowKit

theorem getF_S {x : List (BitVec 8)} {a k : Nat} {e : Int} (ha : a ≤ x.length) (h1 : 1 ≤ k) (h2 : k ≤ 8) : getF x a k = if a + k ≤ x.length then (decN ((x.drop a).take k), 0) else (0, 2) := by
  unfold getF
  rw [if_neg (by omega)]
  by_cases h : a + k ≤ x.length
  · rw [if_neg (by omega), if_pos h, Int.toNat_natCast, Int.toNat_natCast]
  · rw [if_pos (by omega), if_neg h]

/-- the three boxes that the inner function of Unpack has -/
structure GetSt (w : World) (bx ba be : Nat) (a : Option Addr) (c : Nat) (x : List (BitVec 8)) (s : Nat × Int) : Prop where
  fx : Blk w bx 22 [.slice a x.length c]
  fa : Blk w ba 3 [.int .i64 s.1]
  fe : Blk w be 26 [.int .i64 s.2]
  sl : Sl u8v w a x
  n1 : ba ≠ bx
  n2 : be ≠ bx
  n3 : ba ≠ be

theorem getc_calls {w : World} {bx ba be : Nat} {a : Option Addr} {c : Nat} {x : List (BitVec 8)} {s : Nat × Int} (h : GetSt w bx ba be a c x s) (hl : x.length ≤ 16777216) (hs : s.1 ≤ x.length) (hna : x ≠ [] → ∀ g, blockOf a = some g → g ≠ ba ∧ g ≠ be) (k : Nat) (h1 : 1 ≤ k) (h2 : k ≤ 8) :
    Calls Try.prog 163 #[.int .i64 k, .pointer (some ⟨bx, 0, none⟩), .pointer (some ⟨ba, 0, none⟩), .pointer (some ⟨be, 0, none⟩)] w
      (Ret fun v w' => v = .int .u64 (getS x s k).1 ∧ GetSt w' bx ba be a c x (getS x s k).2 ∧ Mod (fun b => b = ba ∨ b = be) w w') := by
  obtain ⟨at_, e⟩ := s
  have hs : at_ ≤ x.length := hs
  refine calls_of_vc lok Try.func163 ?_ rfl
  conv => whnf
  refine ⟨_, h.fx.cell0 rfl, ?_⟩
  conv => whnf
  refine ⟨_, h.fa.cell0 rfl, ?_⟩
  conv => whnf
  have gq := get_calls (c := c) h.sl (by omega) (at_ : Int) (k : Int) (by omega)
  rw [getF_S (e := 0) hs h1 h2] at gq
  by_cases hk : at_ + k ≤ x.length
  · rw [if_pos hk] at gq
    have eS : getS x (at_, e) k = (decN ((x.drop at_).take k), (at_ + k, e)) := if_pos hk
    rw [eS]
    refine Calls.ret (gq) ?_
    rintro _ w1 ⟨rfl, hw1⟩
    conv => whnf
    subst hw1
    conv => whnf
    refine vcCond_false lok (rfl) ?_
    conv => whnf
    refine ⟨_, h.fa.cell0 rfl, ?_⟩
    conv => whnf
    refine ⟨by omega, ?_⟩
    conv => whnf
    refine ⟨h.fa.can 0 (by simp) _ rfl, fun w2 hw2 => ?_⟩
    have hb2 : Blk w2 ba 3 [.int .i64 ((at_ : Int) + (k : Int))] := by rw [hw2]; exact h.fa.set 0 _
    have g2 := gr_of_set hw2
    have m2 : Mod (fun b => b = ba ∨ b = be) w1 w2 := Mod.ofGr g2 fun b hb => by cases hb; exact .inl rfl
    refine ⟨rfl, ⟨h.fx.keep (g2.block bx h.fx.lt (fun q => by cases q; exact h.n1 rfl)), ?_, h.fe.keep (g2.block be h.fe.lt (fun q => by cases q; exact h.n3 rfl)), m2.keepSl h.sl (fun hx g hg => fun q => by rcases q with q | q; exact (hna hx g hg).1 q; exact (hna hx g hg).2 q), h.n1, h.n2, h.n3⟩, m2⟩
    have e3 : ((at_ + k : Nat) : Int) = (at_ : Int) + (k : Int) := by omega
    show Blk w2 ba 3 [.int .i64 ((at_ + k : Nat) : Int)]
    rw [e3]
    exact hb2
  · rw [if_neg hk] at gq
    have eS : getS x (at_, e) k = (0, (at_, 4)) := if_neg hk
    rw [eS]
    refine Calls.ret (gq) ?_
    rintro _ w1 ⟨rfl, hw1⟩
    conv => whnf
    subst hw1
    conv => whnf
    refine vcCond_true lok (rfl) ?_
    conv => whnf
    refine ⟨h.fe.can 0 (by simp) _ rfl, fun w2 hw2 => ?_⟩
    have hb2 : Blk w2 be 26 [.int .i64 4] := by rw [hw2]; exact h.fe.set 0 _
    have g2 := gr_of_set hw2
    have m2 : Mod (fun b => b = ba ∨ b = be) w1 w2 := Mod.ofGr g2 fun b hb => by cases hb; exact .inr rfl
    exact ⟨rfl, ⟨h.fx.keep (g2.block bx h.fx.lt (fun q => by cases q; exact h.n2 rfl)), h.fa.keep (g2.block ba h.fa.lt (fun q => by cases q; exact h.n3 rfl)), hb2, m2.keepSl h.sl (fun hx g hg => fun q => by rcases q with q | q; exact (hna hx g hg).1 q; exact (hna hx g hg).2 q), h.n1, h.n2, h.n3⟩, m2⟩

theorem getS_le {x : List (BitVec 8)} {s : Nat × Int} {k : Nat} (h : s.1 ≤ x.length) : (getS x s k).2.1 ≤ x.length := by
  unfold getS
  split
  · assumption
  · exact h
theorem getS_lt {x : List (BitVec 8)} {s : Nat × Int} {k : Nat} : (getS x s k).1 < 256 ^ k := by
  unfold getS
  split
  · rename_i h
    exact dec_lt x s.1 k h
  · exact Nat.pow_pos (by decide)

/-- a packet in a struct, its data in new memory -/
def PkPost (r : Pk × Int) (w : World) (v : Value) (w' : World) : Prop :=
  ∃ a c, v = .tuple #[.agg (r.1.cells a c).toArray, .int .i64 r.2] ∧ Own 5 u8v w.heap.size w' a c r.1.data ∧ Ext w w'

theorem built112z : Try.prog.built 112 [] = some #[.int .i64 0, .int .u32 0, .int .i64 0, .int .i64 0, .int .i64 0, .int .u32 0, .slice none 0 0] := by kernel_rfl
theorem built70z : Try.prog.built 70 [] = some #[.int .i64 0, .int .u32 0, .int .i64 0, .int .i64 0, .int .i64 0, .int .u32 0, .slice none 0 0] := by kernel_rfl
theorem built70 (k v : Int) : Try.prog.built 70 [(0, .int .i64 k), (1, .int .u32 v)] = some #[.int .i64 k, .int .u32 v, .int .i64 0, .int .i64 0, .int .i64 0, .int .u32 0, .slice none 0 0] := by kernel_rfl

theorem wi64n {n : Nat} (h : n < 9223372036854775808) : IntKind.i64.wrap (n : Int) = (n : Int) := wi64 (by omega)
theorem wu32n {n : Nat} : IntKind.u32.wrap (n : Int) = ((BitVec.ofNat 32 n).toNat : Int) := by rw [wu32, BitVec.toNat_ofNat]; omega

set_option maxHeartbeats 4000000 in
/-- Unpack -/
theorem unpack_calls {w : World} {a : Option Addr} {c : Nat} {bs : List (BitVec 8)} (h : Sl u8v w a bs) (hl : bs.length ≤ 16777216) (hc : bs.length ≤ c) :
    Calls Try.prog 107 #[.slice a bs.length c] w (Ret (PkPost (unpackF bs) w)) := by
  refine calls_of_vc lok Try.func107 ?_ rfl
  conv => whnf
  intro w1 hw1
  have hb1 : Blk w1 w.heap.size 112 (Pk.zero.cells none 0) := by rw [hw1]; exact Blk.new w 112 _
  have x1 : Ext w w1 := by rw [hw1]; exact Ext.new _ _
  clear hw1
  conv => whnf
  refine Calls.ret (open_calls (h.ext x1) hl hc) ?_
  rintro _ w2 ⟨a2, c2, rfl, ho2, x2⟩
  conv => whnf
  have hol := open_len bs
  have hoc := ho2.le.1
  have z1 := hb1.lt
  have z1' := x1.size
  have z2 := x2.size
  conv => whnf
  intro w3 hw3
  have hb3 : Blk w3 w2.heap.size 22 [.slice none 0 0] := by rw [hw3]; exact Blk.new w2 22 _
  have x3 : Ext w2 w3 := by rw [hw3]; exact Ext.new _ _
  clear hw3
  have z3 := hb3.lt
  conv => whnf
  intro w4 hw4
  have hb4 : Blk w4 w3.heap.size 26 [.int .i64 0] := by rw [hw4]; exact Blk.new w3 26 _
  have x4 : Ext w3 w4 := by rw [hw4]; exact Ext.new _ _
  clear hw4
  have z4 := hb4.lt
  have hb34 := hb3.ext x4
  conv => whnf
  refine ⟨hb34.can 0 (by simp) _ rfl, fun w5 hw5 => ?_⟩
  have hb5 : Blk w5 w2.heap.size 22 [.slice a2 (openF bs).1.length c2] := by rw [hw5]; exact hb34.set 0 _
  have g5 := gr_of_set hw5
  clear hw5
  have hb45 : Blk w5 w3.heap.size 26 [.int .i64 0] := hb4.keep (g5.block _ hb4.lt (fun q => by have q' := Option.some.inj q; omega))
  conv => whnf
  refine ⟨hb45.can 0 (by simp) _ rfl, fun w6 hw6 => ?_⟩
  have hb46 : Blk w6 w3.heap.size 26 [.int .i64 (openF bs).2] := by rw [hw6]; exact hb45.set 0 _
  have g6 := gr_of_set hw6
  clear hw6
  have hb36 : Blk w6 w2.heap.size 22 [.slice a2 (openF bs).1.length c2] := hb5.keep (g6.block _ hb5.lt (fun q => by have q' := Option.some.inj q; omega))
  have x26 : Ext w2 w6 := g6.extOf (g5.extOf (x3.trans x4) (fun g hg => by cases hg; exact Nat.le_refl _)) (fun g hg => by cases hg; omega)
  have ho6 := ho2.ext x26
  have hb16 := hb1.ext (x2.trans x26)
  have x06 : Ext w w6 := (x1.trans x2).trans x26
  have z6 := x26.size
  have hbx := hb36.lt
  have hbe := hb46.lt
  generalize hbeq : w3.heap.size = be at *
  generalize hbxq : w2.heap.size = bx at *
  generalize hbr : w.heap.size = br at *
  clear g5 g6 hb5 hb45 hb34 hb3 hb4 x3 x4 hb1
  conv => whnf
  refine ⟨_, hb46.cell0 rfl, ?_⟩
  conv => whnf
  unfold unpackF
  have hxl : (openF bs).1.length ≤ 16777216 := by omega
  generalize (openF bs).1 = x at *
  generalize (openF bs).2 = e at *
  refine vcCond_split lok rfl (fun k1 => ?_) (fun k1 => ?_)
  · have k1 := ne_true k1
    rw [if_neg k1]
    conv => whnf
    refine vcDraw_meet lok mixed (fun w' => Blk w' be 26 [.int .i64 e]) [2] [0, 1, 2, 3]
      (fun _ : Unit => [(3, .int .i64 e)]) (fun _ w' => Blk w' br 112 (Pk.zero.cells none 0) ∧ Ext w w') [3] (fun _ => rfl) rfl (by kernel_rfl) (fun w7 hw7 => ⟨hb46.ext (hw7 ▸ Ext.drew w6), ?_⟩) ?_
    · have x7 : Ext w6 w7 := hw7 ▸ Ext.drew w6
      conv => whnf
      refine ⟨_, fun w => run_build w 112 _ _ built112z, ?_⟩
      conv => whnf
      refine ⟨_, fun w' hw' => hw'.cell0 rfl, ?_⟩
      conv => whnf
      have k8 := Blk.storeAgg lok (hb16.ext x7) (t := 112) (us := Pk.zero.cells none 0) rfl 0 (Nat.le_refl 7) (Pk.one _ _ _)
      obtain ⟨w8, hr8, hb8, g8⟩ := k8
      have hb8 : Blk w8 br 112 (Pk.zero.cells none 0) := hb8
      refine ⟨w8, hr8, ?_⟩
      refine ⟨_, fun _ h => h, (hb46.ext x7).keep (g8.block be (hb46.ext x7).lt (fun q => by have q' := Option.some.inj q; omega)), ?_⟩
      conv => whnf
      exact ⟨(), ⟨rfl, trivial⟩, hb8, g8.extOf (x06.trans x7) (fun g hg => by cases hg; omega)⟩
    rintro _ w7 ⟨hb7, x7⟩
    conv => whnf
    refine ⟨Pk.zero.cells none 0, rfl, hb7.cells, ?_⟩
    conv => whnf
    exact ⟨none, 0, rfl, Own.nil _ _ _ _, x7⟩
  · have k1 := ne_false k1
    subst k1
    rw [if_pos rfl]
    conv => whnf
    intro w7 hw7
    have hb7 : Blk w7 w6.heap.size 3 [.int .i64 0] := by rw [hw7]; exact Blk.new w6 3 _
    have x7 : Ext w6 w7 := by rw [hw7]; exact Ext.new _ _
    clear hw7
    conv => whnf
    refine ⟨hb7.can 0 (by simp) _ rfl, fun w8 hw8 => ?_⟩
    have hb8 : Blk w8 w6.heap.size 3 [.int .i64 ((0 : Nat) : Int)] := by rw [hw8]; exact hb7.set 0 _
    have g8 := gr_of_set hw8
    clear hw8
    have x8 : Ext w6 w8 := g8.extOf x7 (fun g hg => by cases hg; exact Nat.le_refl _)
    have zba := hb8.lt
    have st0 : GetSt w8 bx w6.heap.size be a2 c2 x (0, 0) := ⟨hb36.ext x8, hb8, hb46.ext x8, (ho6.ext x8).sl, by omega, by omega, by omega⟩
    have ho8 := ho6.ext x8
    have hb18 := hb16.ext x8
    have x08 := x06.trans x8
    generalize hbaq : w6.heap.size = ba at *
    have hna : x ≠ [] → ∀ g, blockOf a2 = some g → g ≠ ba ∧ g ≠ be := fun _ g hg => by have := (ho2.ge g hg).2; omega
    have mE : ∀ {u u' : World}, Mod (fun b => b = ba ∨ b = be) u u' → Ext w u → Ext w u' := fun m xx => m.above xx fun b hb => by rcases hb with hb | hb <;> omega
    have mB : ∀ {u u' : World} {b : Nat} {T : TypeId} {vs : List Value}, Mod (fun b => b = ba ∨ b = be) u u' → b ≠ ba → b ≠ be → Blk u b T vs → Blk u' b T vs := fun m n1 n2 hb => m.keepBlk hb (fun q => by rcases q with q | q; exact n1 q; exact n2 q)
    clear hb46 hb36 hb7 x7 x8 g8 hb8 x26 ho6 hb16 x06
    conv => whnf
    refine Calls.ret (getc_calls st0 hxl (Nat.zero_le _) hna 1 (by decide) (by decide)) ?_
    rintro _ w9 ⟨rfl, st1, m1⟩
    conv => whnf
    have l1 := getS_le (x := x) (s := (0, 0)) (k := 1) (Nat.zero_le _)
    have t1 := getS_lt (x := x) (s := (0, 0)) (k := 1)
    intro z hz
    replace hz := hz.trans (wi64n (n := (getS x (0, 0) 1).1) (by have : (256 : Nat) ^ 1 = 256 := rfl; omega))
    subst hz
    conv => whnf
    refine Calls.ret (getc_calls st1 hxl l1 hna 4 (by decide) (by decide)) ?_
    rintro _ w10 ⟨rfl, st2, m2⟩
    conv => whnf
    have l2 := getS_le (x := x) (s := (getS x (0, 0) 1).2) (k := 4) l1
    intro z hz
    replace hz := hz.trans (wu32n)
    subst hz
    conv => whnf
    unfold okUp
    have eU : upF x = (let k := getS x (0, 0) 1; let v := getS x k.2 4; if k.1 = 1 then (let n := getS x v.2 2; (⟨1, BitVec.ofNat 32 v.1, n.1, 0, 0, 0#32, []⟩, n.2)) else if k.1 = 2 then (let n := getS x v.2 1; (⟨2, BitVec.ofNat 32 v.1, 0, n.1, 0, 0#32, x.drop n.2.1⟩, (x.length, n.2.2))) else if k.1 = 3 then (let h := getS x v.2 4; let st := getS x h.2 1; (⟨3, BitVec.ofNat 32 v.1, 0, 0, st.1, BitVec.ofNat 32 h.1, []⟩, st.2)) else (⟨k.1, BitVec.ofNat 32 v.1, 0, 0, 0, 0#32, []⟩, v.2)) := rfl
    simp only at eU
    generalize getS x (getS x (0, 0) 1).2 4 = v2 at *
    generalize getS x (0, 0) 1 = v1 at *
    obtain ⟨kn, s1⟩ := v1
    obtain ⟨vn, s2⟩ := v2
    simp only at eU l1 l2 t1 st2
    have x10 := mE m2 (mE m1 x08)
    have hb110 := mB m2 (by omega) (by omega) (mB m1 (by omega) (by omega) hb18)
    refine ⟨_, fun w => run_build w 112 _ _ (built112 kn (BitVec.ofNat 32 vn).toNat), ?_⟩
    conv => whnf
    intro w11 hw11
    have hb11 : Blk w11 w10.heap.size 112 (Pk.zero.cells none 0) := by rw [hw11]; exact Blk.new w10 112 _
    have x11 : Ext w10 w11 := by rw [hw11]; exact Ext.new _ _
    clear hw11
    conv => whnf
    have k12 := Blk.storeAgg lok hb11 (t := 112) (us := (⟨kn, BitVec.ofNat 32 vn, 0, 0, 0, 0#32, []⟩ : Pk).cells none 0) rfl 0 (Nat.le_refl 7) (Pk.one _ _ _)
    obtain ⟨w12, hr12, hb12, g12⟩ := k12
    have hb12 : Blk w12 w10.heap.size 112 ((⟨kn, BitVec.ofNat 32 vn, 0, 0, 0, 0#32, []⟩ : Pk).cells none 0) := hb12
    have x12 : Ext w10 w12 := g12.extOf x11 (fun g hg => by cases hg; exact Nat.le_refl _)
    have st12 : GetSt w12 bx ba be a2 c2 x s2 := ⟨st2.fx.ext x12, st2.fa.ext x12, st2.fe.ext x12, st2.sl.ext x12, st2.n1, st2.n2, st2.n3⟩
    have hb112 := hb110.ext x12
    have zp1 := st2.fx.lt
    have zp2 := st2.fa.lt
    have zp3 := st2.fe.lt
    have zp4 := hb110.lt
    have zp5 := x10.size
    have x012 := x10.trans x12
    have z12 := x12.size
    refine ⟨w12, hr12, ?_⟩
    clear hr12 g12 hb11 x11 st2 hb110
    generalize hbp : w10.heap.size = bp at *
    conv => whnf
    refine ⟨_, hb12.cell0 rfl, ?_⟩
    conv => whnf
    refine vcCond_meet (fun t : (Option Addr × Nat) × (Nat × Int) => [(2, .pointer (some ⟨br, 0, none⟩)), (4, .pointer (some ⟨bx, 0, none⟩)), (5, .pointer (some ⟨be, 0, none⟩)), (6, .pointer (some ⟨ba, 0, none⟩)), (8, .pointer (some ⟨bp, 0, none⟩))])
      (fun t w' => t.2 = (upF x).2 ∧ GetSt w' bx ba be a2 c2 x t.2 ∧ Blk w' bp 112 ((upF x).1.cells t.1.1 t.1.2) ∧ Own 5 u8v (br + 1) w' t.1.1 t.1.2 (upF x).1.data ∧ Blk w' br 112 (Pk.zero.cells none 0) ∧ Ext w w') ?_ ?_
    · refine vcCond_split lok rfl (fun k1 => ?_) (fun k1 => ?_)
      · have k1 : kn = 1 := by have q : (kn : Int) = 1 := dt k1; omega
        rw [if_pos k1] at eU
        conv => whnf
        refine Calls.ret (getc_calls st12 hxl l2 hna 2 (by decide) (by decide)) ?_
        rintro _ w13 ⟨rfl, st3, m3⟩
        conv => whnf
        have t3 := getS_lt (x := x) (s := s2) (k := 2)
        intro z hz
        replace hz := hz.trans (wi64n (n := (getS x s2 2).1) (by have : (256 : Nat) ^ 2 = 65536 := rfl; omega))
        subst hz
        conv => whnf
        have hb13 := mB m3 (by omega) (by omega) hb12
        have hb113 := mB m3 (by omega) (by omega) hb112
        have x13 := mE m3 x012
        refine ⟨hb13.can 2 (by simp [Pk.cells]) _ rfl, fun w14 hw14 => ?_⟩
        have hb14 : Blk w14 bp 112 ((⟨kn, BitVec.ofNat 32 vn, (getS x s2 2).1, 0, 0, 0#32, []⟩ : Pk).cells none 0) := by rw [hw14]; exact hb13.set 2 _
        have g14 := gr_of_set hw14
        have kB : ∀ {b : Nat} {T : TypeId} {vs : List Value}, b ≠ bp → Blk w13 b T vs → Blk w14 b T vs := fun n hb => hb.keep (g14.block _ hb.lt (fun q => by cases q; exact n rfl))
        rw [k1] at hb14
        rw [eU]
        exact ⟨((none, 0), (getS x s2 2).2), ⟨rfl, rfl, rfl, rfl, rfl, trivial⟩, rfl, ⟨kB (by omega) st3.fx, kB (by omega) st3.fa, kB (by omega) st3.fe, g14.keepSl st3.sl (fun _ g hg q => by cases q; have := (ho2.ge _ hg).2; omega), st3.n1, st3.n2, st3.n3⟩, hb14, Own.nil _ _ _ _, kB (by omega) hb113, g14.extOf x13 (fun g hg => by cases hg; omega)⟩
      · have k1 : ¬ kn = 1 := by have q : ¬ (kn : Int) = 1 := df k1; omega
        rw [if_neg k1] at eU
        conv => whnf
        refine vcCond_split lok rfl (fun k2 => ?_) (fun k2 => ?_)
        · have k2 : kn = 2 := by have q : (kn : Int) = 2 := dt k2; omega
          rw [if_pos k2] at eU
          conv => whnf
          refine Calls.ret (getc_calls st12 hxl l2 hna 1 (by decide) (by decide)) ?_
          rintro _ w13 ⟨rfl, st3, m3⟩
          conv => whnf
          have t3 := getS_lt (x := x) (s := s2) (k := 1)
          have l3 := getS_le (x := x) (s := s2) (k := 1) l2
          intro z hz
          replace hz := hz.trans (wi64n (n := (getS x s2 1).1) (by have : (256 : Nat) ^ 1 = 256 := rfl; omega))
          subst hz
          conv => whnf
          have hb13 := mB m3 (by omega) (by omega) hb12
          have hb113 := mB m3 (by omega) (by omega) hb112
          have x13 := mE m3 x012
          generalize getS x s2 1 = v3 at *
          obtain ⟨cn, s3⟩ := v3
          have l3 : s3.1 ≤ x.length := l3
          refine ⟨hb13.can 3 (by simp [Pk.cells]) _ rfl, fun w14 hw14 => ?_⟩
          have hb14 : Blk w14 bp 112 ((⟨kn, BitVec.ofNat 32 vn, 0, cn, 0, 0#32, []⟩ : Pk).cells none 0) := by rw [hw14]; exact hb13.set 3 _
          have g14 := gr_of_set hw14
          have kB : ∀ {b : Nat} {T : TypeId} {vs : List Value}, b ≠ bp → Blk w13 b T vs → Blk w14 b T vs := fun n hb => hb.keep (g14.block _ hb.lt (fun q => by cases q; exact n rfl))
          have st4 : GetSt w14 bx ba be a2 c2 x s3 := ⟨kB (by omega) st3.fx, kB (by omega) st3.fa, kB (by omega) st3.fe, g14.keepSl st3.sl (fun _ g hg q => by cases q; have := (ho2.ge _ hg).2; omega), st3.n1, st3.n2, st3.n3⟩
          have hb114 := kB (by omega) hb113
          have x14 : Ext w w14 := g14.extOf x13 (fun g hg => by cases hg; omega)
          clear hw14
          conv => whnf
          refine ⟨_, st4.fx.cell0 rfl, ?_⟩
          conv => whnf
          refine ⟨_, st4.fa.cell0 rfl, ?_⟩
          conv => whnf
          refine ⟨⟨by omega, by omega, by omega⟩, ?_⟩
          intro aa haa
          have hsl : Sl u8v w14 aa (x.drop s3.1) := by rw [haa]; exact st4.sl.drop s3.1 c2 hoc
          clear haa
          have k15 := (Own.nil 5 u8v (br + 1) w14).append (ty := 22) (d := c2 - s3.1) e8.toElem (fun _ => rfl) hsl (by rw [List.length_drop]; simp; omega) hb114.lt
          rw [List.length_drop, List.nil_append] at k15
          obtain ⟨a15, c15, w15, hr15, ho15, g15, hbl15⟩ := k15
          conv => whnf
          refine ⟨_, _, hr15, ?_⟩
          have x15 : Ext w14 w15 := g15.extOf (Ext.refl _) (fun g hg => by cases hg)
          have hb15 := hb14.ext x15
          have hb115 := hb114.ext x15
          have st5 : GetSt w15 bx ba be a2 c2 x s3 := ⟨st4.fx.ext x15, st4.fa.ext x15, st4.fe.ext x15, st4.sl.ext x15, st4.n1, st4.n2, st4.n3⟩
          conv => whnf
          refine ⟨hb15.can 6 (by simp [Pk.cells]) _ rfl, fun w16 hw16 => ?_⟩
          have hb16 : Blk w16 bp 112 ((⟨kn, BitVec.ofNat 32 vn, 0, cn, 0, 0#32, x.drop s3.1⟩ : Pk).cells a15 c15) := by rw [hw16]; exact hb15.set 6 _
          have g16 := gr_of_set hw16
          clear hw16
          have kB2 : ∀ {b : Nat} {T : TypeId} {vs : List Value}, b ≠ bp → Blk w15 b T vs → Blk w16 b T vs := fun n hb => hb.keep (g16.block _ hb.lt (fun q => by cases q; exact n rfl))
          have st6 : GetSt w16 bx ba be a2 c2 x s3 := ⟨kB2 (by omega) st5.fx, kB2 (by omega) st5.fa, kB2 (by omega) st5.fe, g16.keepSl st5.sl (fun _ g hg q => by cases q; have := (ho2.ge _ hg).2; omega), st5.n1, st5.n2, st5.n3⟩
          have ho16 : Own 5 u8v (br + 1) w16 a15 c15 (x.drop s3.1) := g16.keepOwn ho15 (fun g hg q => by
            cases q
            rcases hbl15 with hbl | hbl
            · rw [hg] at hbl; cases hbl
            · rw [hg] at hbl
              have e5 := Option.some.inj hbl
              have := hb14.lt
              omega)
          have hb116 := kB2 (by omega) hb115
          have x16 : Ext w w16 := g16.extOf (x14.trans x15) (fun g hg => by cases hg; omega)
          conv => whnf
          refine ⟨_, st6.fx.cell0 rfl, ?_⟩
          conv => whnf
          refine ⟨st6.fa.can 0 (by simp) _ rfl, fun w17 hw17 => ?_⟩
          have hb17 : Blk w17 ba 3 [.int .i64 x.length] := by rw [hw17]; exact st6.fa.set 0 _
          have g17 := gr_of_set hw17
          have kB3 : ∀ {b : Nat} {T : TypeId} {vs : List Value}, b ≠ ba → Blk w16 b T vs → Blk w17 b T vs := fun n hb => hb.keep (g17.block _ hb.lt (fun q => by cases q; exact n rfl))
          have ho17 : Own 5 u8v (br + 1) w17 a15 c15 (x.drop s3.1) := g17.keepOwn ho16 (fun g hg q => by
            cases q
            rcases hbl15 with hbl | hbl
            · rw [hg] at hbl; cases hbl
            · rw [hg] at hbl
              have e5 := Option.some.inj hbl
              have := st4.fa.lt
              omega)
          rw [k2] at hb16
          rw [eU]
          exact ⟨((a15, c15), (x.length, s3.2)), ⟨rfl, rfl, rfl, rfl, rfl, trivial⟩, rfl, ⟨kB3 (fun q => st6.n1 q.symm) st6.fx, hb17, kB3 (fun q => st6.n3 q.symm) st6.fe, g17.keepSl st6.sl (fun hx g hg q => by cases q; exact (hna hx _ hg).1 rfl), st6.n1, st6.n2, st6.n3⟩, kB3 (by omega) hb16, ho17, kB3 (by omega) hb116, g17.extOf x16 (fun g hg => by cases hg; omega)⟩
        · have k2 : ¬ kn = 2 := by have q : ¬ (kn : Int) = 2 := df k2; omega
          rw [if_neg k2] at eU
          conv => whnf
          refine vcCond_split lok rfl (fun k3 => ?_) (fun k3 => ?_)
          · have k3 : kn = 3 := by have q : (kn : Int) = 3 := dt k3; omega
            rw [if_pos k3] at eU
            conv => whnf
            refine Calls.ret (getc_calls st12 hxl l2 hna 4 (by decide) (by decide)) ?_
            rintro _ w13 ⟨rfl, st3, m3⟩
            conv => whnf
            have l3 := getS_le (x := x) (s := s2) (k := 4) l2
            intro z hz
            replace hz := hz.trans (wu32n)
            subst hz
            conv => whnf
            have hb13 := mB m3 (by omega) (by omega) hb12
            have hb113 := mB m3 (by omega) (by omega) hb112
            have x13 := mE m3 x012
            generalize getS x s2 4 = v3 at *
            obtain ⟨hn, s3⟩ := v3
            have l3 : s3.1 ≤ x.length := l3
            refine ⟨hb13.can 5 (by simp [Pk.cells]) _ rfl, fun w14 hw14 => ?_⟩
            have hb14 : Blk w14 bp 112 ((⟨kn, BitVec.ofNat 32 vn, 0, 0, 0, BitVec.ofNat 32 hn, []⟩ : Pk).cells none 0) := by rw [hw14]; exact hb13.set 5 _
            have g14 := gr_of_set hw14
            clear hw14
            have kB : ∀ {b : Nat} {T : TypeId} {vs : List Value}, b ≠ bp → Blk w13 b T vs → Blk w14 b T vs := fun n hb => hb.keep (g14.block _ hb.lt (fun q => by cases q; exact n rfl))
            have st4 : GetSt w14 bx ba be a2 c2 x s3 := ⟨kB (by omega) st3.fx, kB (by omega) st3.fa, kB (by omega) st3.fe, g14.keepSl st3.sl (fun _ g hg q => by cases q; have := (ho2.ge _ hg).2; omega), st3.n1, st3.n2, st3.n3⟩
            have hb114 := kB (by omega) hb113
            have x14 : Ext w w14 := g14.extOf x13 (fun g hg => by cases hg; omega)
            conv => whnf
            refine Calls.ret (getc_calls st4 hxl l3 hna 1 (by decide) (by decide)) ?_
            rintro _ w15 ⟨rfl, st5, m5⟩
            conv => whnf
            have t5 := getS_lt (x := x) (s := s3) (k := 1)
            intro z hz
            replace hz := hz.trans (wi64n (n := (getS x s3 1).1) (by have : (256 : Nat) ^ 1 = 256 := rfl; omega))
            subst hz
            conv => whnf
            have hb15 := mB m5 (by omega) (by omega) hb14
            have hb115 := mB m5 (by omega) (by omega) hb114
            have x15 := mE m5 x14
            refine ⟨hb15.can 4 (by simp [Pk.cells]) _ rfl, fun w16 hw16 => ?_⟩
            have hb16 : Blk w16 bp 112 ((⟨kn, BitVec.ofNat 32 vn, 0, 0, (getS x s3 1).1, BitVec.ofNat 32 hn, []⟩ : Pk).cells none 0) := by rw [hw16]; exact hb15.set 4 _
            have g16 := gr_of_set hw16
            have kB2 : ∀ {b : Nat} {T : TypeId} {vs : List Value}, b ≠ bp → Blk w15 b T vs → Blk w16 b T vs := fun n hb => hb.keep (g16.block _ hb.lt (fun q => by cases q; exact n rfl))
            rw [k3] at hb16
            rw [eU]
            exact ⟨((none, 0), (getS x s3 1).2), ⟨rfl, rfl, rfl, rfl, rfl, trivial⟩, rfl, ⟨kB2 (by omega) st5.fx, kB2 (by omega) st5.fa, kB2 (by omega) st5.fe, g16.keepSl st5.sl (fun _ g hg q => by cases q; have := (ho2.ge _ hg).2; omega), st5.n1, st5.n2, st5.n3⟩, hb16, Own.nil _ _ _ _, kB2 (by omega) hb115, g16.extOf x15 (fun g hg => by cases hg; omega)⟩
          · have k3 : ¬ kn = 3 := by have q : ¬ (kn : Int) = 3 := df k3; omega
            rw [if_neg k3] at eU
            rw [eU]
            exact ⟨((none, 0), s2), ⟨rfl, rfl, rfl, rfl, rfl, trivial⟩, rfl, st12, hb12, Own.nil _ _ _ _, hb112, x012⟩
    rintro ⟨⟨ap, cp⟩, s⟩ w13 ⟨hs, st13, hb13, ho13, hb113, x13⟩
    have hs : s = (upF x).2 := hs
    rw [hs] at st13
    clear eU
    generalize upF x = up at *
    obtain ⟨p, s4⟩ := up
    have st13 : GetSt w13 bx ba be a2 c2 x s4 := st13
    have hb13 : Blk w13 bp 112 (p.cells ap cp) := hb13
    have ho13 : Own 5 u8v (br + 1) w13 ap cp p.data := ho13
    conv => whnf
    refine vcReg_meet lok (fun β : Bool => [(69, .bool β)]) (fun β w' => Ext w13 w' ∧ β = !(decide (s4.2 = 0 ∧ s4.1 = x.length) && canP p)) [69] (fun _ => rfl) rfl ?_ ?_
    · conv => whnf
      refine ⟨_, st13.fe.cell0 rfl, ?_⟩
      conv => whnf
      refine bcase (fun h1 => ?_) (fun h1 => ?_)
      · have h1 := ne_true h1
        conv => whnf
        exact ⟨_, ⟨rfl, trivial⟩, Ext.refl _, by rw [decide_eq_false (fun q => h1 q.1)]; rfl⟩
      · have h1 := ne_false h1
        conv => whnf
        refine ⟨_, st13.fa.cell0 rfl, ?_⟩
        conv => whnf
        refine ⟨_, st13.fx.cell0 rfl, ?_⟩
        conv => whnf
        refine bcase (fun h2 => ?_) (fun h2 => ?_)
        · have h2 := ne_true h2
          conv => whnf
          exact ⟨_, ⟨rfl, trivial⟩, Ext.refl _, by rw [decide_eq_false (fun q => h2 (by rw [q.2]))]; rfl⟩
        · have h2 := ne_false h2
          conv => whnf
          refine ⟨p.cells ap cp, rfl, hb13.cells, ?_⟩
          conv => whnf
          refine Calls.ret (right_calls p ap cp) ?_
          rintro _ w14 ⟨rfl, x14⟩
          conv => whnf
          exact ⟨_, ⟨rfl, trivial⟩, x14, by rw [decide_eq_true ⟨h1, by omega⟩]; rfl⟩
    rintro β w14 ⟨x14, hβ⟩
    have hb114 := hb113.ext x14
    have hb14 := hb13.ext x14
    have x014 := x13.trans x14
    have zz := hb114.lt
    conv => whnf
    refine vcCond_split lok rfl (fun k9 => ?_) (fun k9 => ?_)
    · rw [k9] at hβ
      have hno : ¬ (decide (s4.2 = 0 ∧ s4.1 = x.length) && canP p) = true := by intro q; rw [q] at hβ; cases hβ
      rw [if_neg hno]
      conv => whnf
      refine ⟨_, fun w => run_build w 112 _ _ built112z, ?_⟩
      conv => whnf
      have k15 := Blk.storeAgg lok hb114 (t := 112) (us := Pk.zero.cells none 0) rfl 0 (Nat.le_refl 7) (Pk.one _ _ _)
      obtain ⟨w15, hr15, hb15, g15⟩ := k15
      have hb15 : Blk w15 br 112 (Pk.zero.cells none 0) := hb15
      refine ⟨w15, hr15, ?_⟩
      conv => whnf
      refine ⟨Pk.zero.cells none 0, rfl, hb15.cells, ?_⟩
      conv => whnf
      exact ⟨none, 0, rfl, Own.nil _ _ _ _, g15.extOf x014 (fun g hg => by cases hg; omega)⟩
    · rw [k9] at hβ
      have hyes : (decide (s4.2 = 0 ∧ s4.1 = x.length) && canP p) = true := by revert hβ; cases (decide (s4.2 = 0 ∧ s4.1 = x.length) && canP p) <;> simp
      rw [if_pos hyes]
      conv => whnf
      refine ⟨p.cells ap cp, rfl, hb14.cells, ?_⟩
      conv => whnf
      have k15 := Blk.storeAgg lok hb114 (t := 112) (us := p.cells ap cp) rfl 0 (Nat.le_refl 7) (Pk.one _ _ _)
      obtain ⟨w15, hr15, hb15, g15⟩ := k15
      have hb15 : Blk w15 br 112 (p.cells ap cp) := hb15
      refine ⟨w15, hr15, ?_⟩
      conv => whnf
      refine ⟨p.cells ap cp, rfl, hb15.cells, ?_⟩
      conv => whnf
      have hne : ∀ g, blockOf ap = some g → g ≠ br := fun g hg => by have := (ho13.ge g hg).1; omega
      exact ⟨ap, cp, rfl, (by rw [hbr]; exact (g15.keepOwn (ho13.ext x14) (fun g hg q => by cases q; exact hne _ hg rfl)).base (Nat.le_succ _)), g15.extOf x014 (fun g hg => by cases hg; omega)⟩
end Go.Proofs.Ytgipackjnncabaa
