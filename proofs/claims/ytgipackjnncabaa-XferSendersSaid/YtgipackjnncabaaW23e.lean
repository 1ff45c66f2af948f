/- Walks of layer 23, fifth part: a sender; the fixed calls. -/
import Derived.Test.YtgipackjnncabaaW23d
import Derived.Test.YtgipackjnncabaaL03b
set_option linter.unusedVariables false
namespace Go.Proofs.Ytgipackjnncabaa
open Go.Vc Go.RowKit

structure SS where
  ver : BitVec 32
  data : List (BitVec 8)
  hav : BitVec 32
  wanted : Bool
  done : Bool
  wait : Int

def SS.cells (s : SS) (a : Option Addr) (c : Nat) : List Value := [u32v s.ver, .slice a s.data.length c, u32v s.hav, .bool s.wanted, .bool s.done, .int .i64 s.wait]

/-- the first chunk that is missing, from k on -/
def missF (len : Nat) (hav : BitVec 32) : Nat → Nat → Option Nat
  | 0, _ => none
  | fuel + 1, k => if 64 * k < len then (if hav.getLsbD k = true then missF len hav fuel (k + 1) else some k) else none

def chunkF (data : List (BitVec 8)) (k : Nat) : List (BitVec 8) := (data.drop (64 * k)).take (min data.length (64 * (k + 1)) - 64 * k)

def nextF (s : SS) : Pk × Bool :=
  if s.wanted = true then (match missF s.data.length s.hav 40 0 with
    | some k => (⟨2, s.ver, 0, k, 0, 0#32, chunkF s.data k⟩, true)
    | none => (⟨2, s.ver, 0, 0, 0, 0#32, []⟩, false))
  else (⟨1, s.ver, s.data.length, 0, 0, 0#32, []⟩, true)

/-- what is sent -/
def outF (s : SS) : List (BitVec 8) := if (nextF s).2 = true then (packF (nextF s).1).1 else []
def sendF (s : SS) : SS := { s with wait := 4 }
def tickF (s : SS) : SS × List (BitVec 8) := if s.done = true ∨ s.ver = 0#32 then (s, []) else if 0 < s.wait then ({ s with wait := s.wait - 1 }, []) else (sendF s, outF s)

/-- a sender's memory -/
structure SnAt (T B : Nat) (w : World) (b : Nat) (a : Option Addr) (c : Nat) (s : SS) : Prop where
  blk : Blk w b T (s.cells a c)
  own : Own 5 u8v B w a c s.data
  lo : B ≤ b
  ne : blockOf a ≠ some b

section
variable {T B : Nat} {w w' : World} {b c : Nat} {a : Option Addr} {s : SS}
theorem SnAt.ext (h : SnAt T B w b a c s) (hk : Ext w w') : SnAt T B w' b a c s := ⟨h.blk.ext hk, h.own.ext hk, h.lo, h.ne⟩
theorem SnAt.base (h : SnAt T B w b a c s) {B' : Nat} (hB : B' ≤ B) : SnAt T B' w b a c s := ⟨h.blk, h.own.base hB, Nat.le_trans hB h.lo, h.ne⟩
theorem SnAt.setField (h : SnAt T B w b a c s) (i : Nat) (v : Value) (t : SS) (hl : t.data = s.data) (hc : t.cells a c = (s.cells a c).set i v) (hw : w' = w.setCell ⟨b, 0 + i, none⟩ v) : SnAt T B w' b a c t ∧ Gr w w' (some b) := by
  have hg : Gr w w' (some b) := by rw [hw]; exact gr_setCell _ _ _ _
  refine ⟨⟨?_, ?_, h.lo, h.ne⟩, hg⟩
  · rw [hc, hw]; exact h.blk.set i v
  · rw [hl]; exact hg.keepOwn h.own fun g' hg' e => h.ne (by rw [hg', ← e])
end

theorem built190 (v : Int) (a : Option Addr) (n c : Nat) : Try.prog.built 190 [(0, .int .u32 v), (1, .slice a n c)] = some #[.int .u32 v, .slice a n c, .int .u32 0, .bool false, .bool false, .int .i64 0] := by kernel_rfl

/-- NewSender -/
theorem newSender_calls {w : World} {a : Option Addr} {c : Nat} (ver : BitVec 32) {bs : List (BitVec 8)} (h : Sl u8v w a bs) (hl : bs.length ≤ 16777216) :
    Calls Try.prog 85 #[.int .u32 ver.toNat, .slice a bs.length c] w (Ret fun v w' => ((ver = 0#32 ∨ bs.length = 0 ∨ 2048 < bs.length) ∧ v = .tuple #[.pointer none, .int .i64 1] ∧ w' = w) ∨
      (¬ (ver = 0#32 ∨ bs.length = 0 ∨ 2048 < bs.length) ∧ ∃ b a' c', v = .tuple #[.pointer (some ⟨b, 0, none⟩), .int .i64 0] ∧ SnAt 190 w.heap.size w' b a' c' ⟨ver, bs, 0#32, false, false, 0⟩ ∧ Ext w w')) := by
  have h0 : ((ver.toNat : Int) = 0) ↔ ver = 0#32 := int_eq (x := ver) (y := 0#32)
  refine calls_of_vc lok Try.func85 ?_ rfl
  conv => whnf
  refine vcReg_meet lok (fun β : Bool => [(17, .bool β)]) (fun β w' => w' = w ∧ β = decide (ver = 0#32 ∨ bs.length = 0 ∨ 2048 < bs.length)) [17] (fun _ => rfl) rfl ?_ ?_
  · conv => whnf
    refine bcase (fun h1 => ?_) (fun h1 => ?_)
    · have h1 := h0.1 (dt h1)
      conv => whnf
      exact ⟨_, ⟨rfl, trivial⟩, rfl, by rw [eq_comm, decide_eq_true_iff]; exact .inl h1⟩
    · have h1 : ¬ ver = 0#32 := fun e => df h1 (h0.2 e)
      conv => whnf
      refine bcase (fun h2 => ?_) (fun h2 => ?_)
      · have h2 := dt h2
        conv => whnf
        exact ⟨_, ⟨rfl, trivial⟩, rfl, by rw [eq_comm, decide_eq_true_iff]; exact .inr (.inl (by omega))⟩
      · have h2 := df h2
        conv => whnf
        refine ⟨_, ⟨rfl, trivial⟩, rfl, ?_⟩
        rw [decide_eq_decide]
        constructor
        · intro h3; exact .inr (.inr (by omega))
        · rintro (h3 | h3 | h3)
          · exact absurd h3 h1
          · omega
          · omega
  rintro β w1 ⟨hw1, hβ⟩
  subst hw1
  conv => whnf
  refine vcCond_split lok rfl (fun h1 => ?_) (fun h1 => ?_)
  · rw [h1] at hβ
    conv => whnf
    exact .inl ⟨dt hβ.symm, rfl, rfl⟩
  rw [h1] at hβ
  have hb := df hβ.symm
  conv => whnf
  have g3 := (Own.nil 5 u8v w1.heap.size w1).append (ty := 22) (d := c) e8.toElem (fun _ => rfl) h (by simp; omega) (Nat.le_refl _)
  rw [List.nil_append] at g3
  obtain ⟨a3, c3, w3, hr3, ho3, hg3, _⟩ := g3
  refine ⟨_, _, hr3, ?_⟩
  have x3 : Ext w1 w3 := hg3.extOf (Ext.refl _) (fun g hg => by cases hg)
  conv => whnf
  refine ⟨_, fun w => run_build w 190 _ _ (built190 _ _ _ _), ?_⟩
  conv => whnf
  intro w4 hw4
  have hb4 : Blk w4 w3.heap.size 190 ((⟨ver, bs, 0#32, false, false, 0⟩ : SS).cells a3 c3) := by rw [hw4]; exact Blk.new w3 190 _
  have x4 : Ext w3 w4 := by rw [hw4]; exact Ext.new _ _
  clear hw4
  conv => whnf
  exact .inr ⟨hb, _, _, _, rfl, ⟨hb4, ho3.ext x4, x3.size, fun e => by have := (ho3.ge _ e).2; omega⟩, x3.trans x4⟩

theorem missF_step {len : Nat} {hav : BitVec 32} (hl : len ≤ 2048) : ∀ (f k : Nat), 33 ≤ f + k → missF len hav f k = if 64 * k < len then (if hav.getLsbD k = true then missF len hav (f - 1) (k + 1) else some k) else none
  | 0, k, h => by
    rw [if_neg (by omega)]
    rfl
  | f + 1, k, h => rfl

theorem built112v (v : Int) : Try.prog.built 112 [(1, .int .u32 v)] = some #[.int .i64 0, .int .u32 v, .int .i64 0, .int .i64 0, .int .i64 0, .int .u32 0, .slice none 0 0] := by kernel_rfl

set_option maxHeartbeats 2000000 in
/-- next -/
theorem next_calls {B : Nat} {w : World} {b c : Nat} {a : Option Addr} {s : SS} (h : SnAt 190 B w b a c s) (hl : s.data.length ≤ 2048) :
    Calls Try.prog 183 #[.pointer (some ⟨b, 0, none⟩)] w (Ret fun v w' => ∃ a' c', v = .tuple #[.agg ((nextF s).1.cells a' c').toArray, .bool (nextF s).2] ∧ Sl u8v w' a' (nextF s).1.data ∧ Ext w w') := by
  have hlc := h.own.le.1
  refine calls_of_vc lok Try.func183 ?_ rfl
  conv => whnf
  intro w1 hw1
  have hb1 : Blk w1 w.heap.size 112 (Pk.zero.cells none 0) := by rw [hw1]; exact Blk.new w 112 _
  have x1 : Ext w w1 := by rw [hw1]; exact Ext.new _ _
  clear hw1
  have h1 := h.ext x1
  conv => whnf
  refine ⟨_, h1.blk.cell0 rfl, ?_⟩
  conv => whnf
  refine ⟨_, fun w => run_build w 112 _ _ (built112v _), ?_⟩
  conv => whnf
  intro w2 hw2
  have hb2 : Blk w2 w1.heap.size 112 (Pk.zero.cells none 0) := by rw [hw2]; exact Blk.new w1 112 _
  have x2 : Ext w1 w2 := by rw [hw2]; exact Ext.new _ _
  clear hw2
  conv => whnf
  have k3 := Blk.storeAgg lok hb2 (t := 112) (us := (⟨0, s.ver, 0, 0, 0, 0#32, []⟩ : Pk).cells none 0) rfl 0 (Nat.le_refl 7) (Pk.one _ _ _)
  obtain ⟨w3, hr3, hb3, g3⟩ := k3
  have hb3 : Blk w3 w1.heap.size 112 ((⟨0, s.ver, 0, 0, 0, 0#32, []⟩ : Pk).cells none 0) := hb3
  have x3 : Ext w1 w3 := g3.extOf x2 (fun g hg => by cases hg; exact Nat.le_refl _)
  refine ⟨w3, hr3, ?_⟩
  have h3 := h1.ext x3
  have hb13 := hb1.ext x3
  have x03 := x1.trans x3
  have q1 := hb1.lt
  have q2 := h.blk.lt
  have z1 := x1.size
  have qa : ∀ g, blockOf a = some g → g < w.heap.size := fun g hg => (h.own.ge g hg).2
  clear hr3 g3 hb2 x2
  generalize hbp : w1.heap.size = bp at *
  generalize hbr : w.heap.size = br at *
  conv => whnf
  refine ⟨_, h3.blk.cell (i := 3) rfl, ?_⟩
  conv => whnf
  cases hwa : s.wanted with
  | false =>
    have e : nextF s = (⟨1, s.ver, s.data.length, 0, 0, 0#32, []⟩, true) := if_neg (by rw [hwa]; decide)
    rw [e]
    refine vcCond_true lok (rfl) ?_
    conv => whnf
    refine vcDraw_meet lok mixed (fun w' => SnAt 190 B w' b a c s) [6] [0, 1, 2, 3, 4, 5, 6, 7, 8]
      (fun _ : Unit => []) (fun _ w' => Blk w' bp 112 ((⟨1, s.ver, s.data.length, 0, 0, 0#32, []⟩ : Pk).cells none 0) ∧ Blk w' br 112 (Pk.zero.cells none 0) ∧ Ext w w') [] (fun _ => rfl) rfl (by kernel_rfl) (fun w4 hw4 => ⟨h3.ext (hw4 ▸ Ext.drew w3), ?_⟩) ?_
    · have x4 : Ext w3 w4 := hw4 ▸ Ext.drew w3
      have h4 := h3.ext x4
      have hb4 := hb3.ext x4
      have hb14 := hb13.ext x4
      conv => whnf
      refine ⟨_, fun w' hw' => hw'.blk.cell (i := 1) rfl, ?_⟩
      conv => whnf
      refine ⟨hb4.can 0 (by simp [Pk.cells]) _ rfl, fun w5 hw5 => ?_⟩
      have hb5 : Blk w5 bp 112 ((⟨1, s.ver, 0, 0, 0, 0#32, []⟩ : Pk).cells none 0) := by rw [hw5]; exact hb4.set 0 _
      have g5 := gr_of_set hw5
      have h5 : SnAt 190 B w5 b a c s := ⟨h4.blk.keep (g5.block _ h4.blk.lt (fun q => by have q' := Option.some.inj q; omega)), g5.keepOwn h4.own (fun g hg q => by have q' := Option.some.inj q; have := qa g hg; omega), h4.lo, h4.ne⟩
      have hb15 := hb14.keep (g5.block _ hb14.lt (fun q => by have q' := Option.some.inj q; omega))
      have x5 : Ext w w5 := g5.extOf (x03.trans x4) (fun g hg => by cases hg; omega)
      refine ⟨_, fun _ h => h, h5, ?_⟩
      clear hw5
      conv => whnf
      refine ⟨hb5.can 2 (by simp [Pk.cells]) _ rfl, fun w6 hw6 => ?_⟩
      have hb6 : Blk w6 bp 112 ((⟨1, s.ver, s.data.length, 0, 0, 0#32, []⟩ : Pk).cells none 0) := by rw [hw6]; exact hb5.set 2 _
      have g6 := gr_of_set hw6
      exact ⟨(), trivial, hb6, hb15.keep (g6.block _ hb15.lt (fun q => by have q' := Option.some.inj q; omega)), g6.extOf x5 (fun g hg => by cases hg; omega)⟩
    rintro _ w4 ⟨hb4, hb14, x4⟩
    conv => whnf
    refine ⟨_, rfl, hb4.cells, ?_⟩
    conv => whnf
    have k5 := Blk.storeAgg lok hb14 (t := 112) (us := (⟨1, s.ver, s.data.length, 0, 0, 0#32, []⟩ : Pk).cells none 0) rfl 0 (Nat.le_refl 7) (Pk.one _ _ _)
    obtain ⟨w5, hr5, hb5, g5⟩ := k5
    have hb5 : Blk w5 br 112 ((⟨1, s.ver, s.data.length, 0, 0, 0#32, []⟩ : Pk).cells none 0) := hb5
    refine ⟨w5, hr5, ?_⟩
    conv => whnf
    refine ⟨_, rfl, hb5.cells, ?_⟩
    conv => whnf
    exact ⟨none, 0, rfl, .inl rfl, g5.extOf x4 (fun g hg => by cases hg; omega)⟩
  | true =>
    refine vcCond_false lok (rfl) ?_
    conv => whnf
    refine ⟨hb3.can 0 (by simp [Pk.cells]) _ rfl, fun w5 hw5 => ?_⟩
    have hb5 : Blk w5 bp 112 ((⟨2, s.ver, 0, 0, 0, 0#32, []⟩ : Pk).cells none 0) := by rw [hw5]; exact hb3.set 0 _
    have g5 := gr_of_set hw5
    have h5 : SnAt 190 B w5 b a c s := ⟨h3.blk.keep (g5.block _ h3.blk.lt (fun q => by have q' := Option.some.inj q; omega)), g5.keepOwn h3.own (fun g hg q => by have q' := Option.some.inj q; have := qa g hg; omega), h3.lo, h3.ne⟩
    have hb15 := hb13.keep (g5.block _ hb13.lt (fun q => by have q' := Option.some.inj q; omega))
    have x5 : Ext w w5 := g5.extOf x03 (fun g hg => by cases hg; omega)
    clear hw5
    conv => whnf
    refine vcLoop_inv lok (σ := Nat)
      (fun k => [(5, .int .i64 k), (0, .pointer (some ⟨b, 0, none⟩)), (2, .pointer (some ⟨br, 0, none⟩)), (4, .pointer (some ⟨bp, 0, none⟩))])
      (fun k w6 => k ≤ 32 ∧ missF s.data.length s.hav 40 0 = missF s.data.length s.hav (40 - k) k ∧ w6 = w5) (fun k => 33 - k)
      0 ⟨rfl, rfl, rfl, rfl, trivial⟩ ⟨Nat.zero_le _, rfl, rfl⟩ ?_
    rintro k w6 ⟨hk, hmi, hw6⟩
    subst hw6
    have hst := missF_step (hav := s.hav) hl (40 - k) k (by omega)
    rw [hst] at hmi
    conv => whnf
    refine ⟨by omega, ?_⟩
    conv => whnf
    refine ⟨_, h5.blk.cell (i := 1) rfl, ?_⟩
    conv => whnf
    refine vcCond_split lok rfl (fun k2 => ?_) (fun k2 => ?_)
    · have k2 := dt k2
      have hkl : 64 * k < s.data.length := by omega
      have hk32 : k < 32 := by omega
      rw [if_pos hkl] at hmi
      conv => whnf
      refine ⟨_, h5.blk.cell (i := 2) rfl, ?_⟩
      conv => whnf
      intro z hz
      have hz37 : z = (k : Int) := by rw [hz, wu64]; omega
      clear hz
      subst hz37
      conv => whnf
      refine ⟨by omega, ?_⟩
      intro z hz
      replace hz := hz.trans (shr32b s.hav k (by omega))
      subst hz
      conv => whnf
      intro z hz
      replace hz := hz.trans (and32 (s.hav >>> k) 1#32)
      subst hz
      conv => whnf
      rw [shr_bit32]
      cases hbit : s.hav.getLsbD k with
      | true =>
        rw [hbit, if_pos rfl] at hmi
        refine vcCond_false lok (rfl) ?_
        conv => whnf
        refine ⟨by omega, ?_⟩
        conv => whnf
        exact ⟨k + 1, ⟨rfl, rfl, rfl, rfl, trivial⟩, ⟨by omega, by rw [hmi]; congr 1, rfl⟩, by omega⟩
      | false =>
        rw [hbit, if_neg (by decide)] at hmi
        have e : nextF s = (⟨2, s.ver, 0, k, 0, 0#32, chunkF s.data k⟩, true) := by unfold nextF; rw [if_pos hwa, hmi]
        have ecl : (chunkF s.data k).length = min s.data.length (64 * (k + 1)) - 64 * k := by unfold chunkF; rw [List.length_take, List.length_drop]; omega
        rw [e]
        refine vcCond_true lok (rfl) ?_
        conv => whnf
        refine vcDraw_meet lok mixed (fun w' => SnAt 190 B w' b a c s) [18] [0, 1, 2, 3, 4, 5, 6, 7, 8, 9, 10, 11, 12, 13, 14, 15, 16, 17, 18, 19, 20]
          (fun _ : Unit => []) (fun _ w' => ∃ a' c', Blk w' bp 112 ((⟨2, s.ver, 0, k, 0, 0#32, chunkF s.data k⟩ : Pk).cells a' c') ∧ Sl u8v w' a' (chunkF s.data k) ∧ (chunkF s.data k ≠ [] → ∀ g, blockOf a' = some g → g < br) ∧ Blk w' br 112 (Pk.zero.cells none 0) ∧ Ext w w') [] (fun _ => rfl) rfl (by kernel_rfl) (fun w7 hw7 => ⟨h5.ext (hw7 ▸ Ext.drew w6), ?_⟩) ?_
        · have x7 : Ext w6 w7 := hw7 ▸ Ext.drew w6
          have h7 := h5.ext x7
          have hb7 := hb5.ext x7
          have hb17 := hb15.ext x7
          conv => whnf
          refine ⟨_, fun w' hw' => hw'.blk.cell (i := 1) rfl, ?_⟩
          conv => whnf
          refine ⟨by omega, ?_⟩
          conv => whnf
          refine ⟨_, fun w' hw' => hw'.blk.cell (i := 1) rfl, ?_⟩
          conv => whnf
          refine ⟨by omega, ?_⟩
          conv => whnf
          refine ⟨by omega, ?_⟩
          conv => whnf
          have emin : (if ((k : Int) + 1) * 64 < (s.data.length : Int) then ((k : Int) + 1) * 64 else (s.data.length : Int)) = ((min s.data.length (64 * (k + 1)) : Nat) : Int) := by split <;> omega
          rw [emin]
          have ek : (k : Int) * 64 = ((64 * k : Nat) : Int) := by omega
          rw [ek]
          refine ⟨⟨by omega, by omega, by omega⟩, ?_⟩
          intro aa haa
          rw [Int.toNat_natCast] at haa
          have hsl : Sl u8v w7 aa (chunkF s.data k) := by rw [haa]; exact Sl.mid h7.own.sl (64 * k) (min s.data.length (64 * (k + 1))) c (by omega) (by omega) hlc
          have hab : ∀ g, blockOf aa = some g → g < br := by
            intro g hg
            rw [haa] at hg
            refine qa g ?_
            split at hg
            · exact hg
            · cases ha : a with
              | none => rw [ha] at hg; cases hg
              | some p => rw [ha] at hg; have : (p.add (64 * k * 1)).block = g := Option.some.inj hg; rw [← this]; unfold Addr.add; split <;> rfl
          clear haa
          conv => whnf
          refine ⟨hb7.can 3 (by simp [Pk.cells]) _ rfl, fun w8 hw8 => ?_⟩
          have hb8 : Blk w8 bp 112 ((⟨2, s.ver, 0, k, 0, 0#32, []⟩ : Pk).cells none 0) := by rw [hw8]; exact hb7.set 3 _
          have g8 := gr_of_set hw8
          have h8 : SnAt 190 B w8 b a c s := ⟨h7.blk.keep (g8.block _ h7.blk.lt (fun q => by have q' := Option.some.inj q; omega)), g8.keepOwn h7.own (fun g hg q => by have q' := Option.some.inj q; have := qa g hg; omega), h7.lo, h7.ne⟩
          have hb18 := hb17.keep (g8.block _ hb17.lt (fun q => by have q' := Option.some.inj q; omega))
          have hsl8 := g8.keepSl hsl (fun _ g hg q => by have q' := Option.some.inj q; have := hab g hg; omega)
          have x8 : Ext w w8 := g8.extOf (x5.trans x7) (fun g hg => by cases hg; omega)
          refine ⟨_, fun _ h => h, h8, ?_⟩
          clear hw8
          conv => whnf
          refine ⟨hb8.can 6 (by simp [Pk.cells]) _ rfl, fun w9 hw9 => ?_⟩
          have hb9 : Blk w9 bp 112 ((⟨2, s.ver, 0, k, 0, 0#32, chunkF s.data k⟩ : Pk).cells aa (c - 64 * k)) := by
            rw [hw9, Int.toNat_natCast, Int.toNat_natCast, ← ecl]
            exact hb8.set 6 _
          have g9 := gr_of_set hw9
          exact ⟨(), trivial, aa, _, hb9, g9.keepSl hsl8 (fun _ g hg q => by have q' := Option.some.inj q; have := hab g hg; omega), fun _ => hab, hb18.keep (g9.block _ hb18.lt (fun q => by have q' := Option.some.inj q; omega)), g9.extOf x8 (fun g hg => by cases hg; omega)⟩
        rintro _ w7 ⟨a', c', hb7, hsl7, hab7, hb17, x7⟩
        conv => whnf
        refine ⟨_, rfl, hb7.cells, ?_⟩
        conv => whnf
        have k8 := Blk.storeAgg lok hb17 (t := 112) (us := (⟨2, s.ver, 0, k, 0, 0#32, chunkF s.data k⟩ : Pk).cells a' c') rfl 0 (Nat.le_refl 7) (Pk.one _ _ _)
        obtain ⟨w8, hr8, hb8, g8⟩ := k8
        have hb8 : Blk w8 br 112 ((⟨2, s.ver, 0, k, 0, 0#32, chunkF s.data k⟩ : Pk).cells a' c') := hb8
        refine ⟨w8, hr8, ?_⟩
        conv => whnf
        refine ⟨_, rfl, hb8.cells, ?_⟩
        conv => whnf
        exact ⟨a', c', rfl, g8.keepSl hsl7 (fun hx g hg q => by have q' := Option.some.inj q; have := hab7 hx g hg; omega), g8.extOf x7 (fun g hg => by cases hg; omega)⟩
    · have k2 := df k2
      rw [if_neg (by omega)] at hmi
      have e : nextF s = (⟨2, s.ver, 0, 0, 0, 0#32, []⟩, false) := by unfold nextF; rw [if_pos hwa, hmi]
      rw [e]
      conv => whnf
      refine ⟨_, rfl, hb5.cells, ?_⟩
      conv => whnf
      have k8 := Blk.storeAgg lok hb15 (t := 112) (us := (⟨2, s.ver, 0, 0, 0, 0#32, []⟩ : Pk).cells none 0) rfl 0 (Nat.le_refl 7) (Pk.one _ _ _)
      obtain ⟨w8, hr8, hb8, g8⟩ := k8
      have hb8 : Blk w8 br 112 ((⟨2, s.ver, 0, 0, 0, 0#32, []⟩ : Pk).cells none 0) := hb8
      refine ⟨w8, hr8, ?_⟩
      conv => whnf
      refine ⟨_, rfl, hb8.cells, ?_⟩
      conv => whnf
      exact ⟨none, 0, rfl, .inl rfl, g8.extOf x5 (fun g hg => by cases hg; omega)⟩
end Go.Proofs.Ytgipackjnncabaa
