/- Walks of layer 6: the flash's operations. -/
import Derived.Test.YtgipackjnncabaaPl06
import Derived.Test.YtgipackjnncabaaW03b
set_option linter.unusedVariables false
namespace Go.Proofs.Ytgipackjnncabaa
open Go.Vc Go.RowKit

/-- a flash's cells -/
def FS.cells (s : FS) (gw c : Nat) : List Value := [.slice (some ⟨gw, 0, none⟩) s.ws.length c, .bool s.off, .int .i64 s.left, u32v s.mask, .int .i64 s.ops]
/-- at block g lies a flash (or the reference's), its words at block gw -/
structure FlAt (T B : Nat) (w : World) (g gw c : Nat) (s : FS) : Prop where
  blk : Blk w g T (s.cells gw c)
  own : Own 42 u32v B w (some ⟨gw, 0, none⟩) c s.ws
  lo : B ≤ g
  ne : g ≠ gw
/-- what an operation writes -/
abbrev FlMod (g gw : Nat) : World → World → Prop := Mod fun k => k = g ∨ k = gw

section
variable {T B : Nat} {w w' : World} {g gw c : Nat} {s : FS}
theorem FlAt.ext (h : FlAt T B w g gw c s) (hk : Ext w w') : FlAt T B w' g gw c s := ⟨h.blk.ext hk, h.own.ext hk, h.lo, h.ne⟩
theorem FlAt.keep {S : Nat → Prop} (h : FlAt T B w g gw c s) (hk : Mod S w w') (h1 : ¬ S g) (h2 : ¬ S gw) : FlAt T B w' g gw c s :=
  ⟨hk.keepBlk h.blk h1, hk.keepOwn h.own (fun g' hg' => by cases hg'; exact h2), h.lo, h.ne⟩
theorem FlAt.base (h : FlAt T B w g gw c s) {B' : Nat} (hB : B' ≤ B) : FlAt T B' w g gw c s := ⟨h.blk, h.own.base hB, Nat.le_trans hB h.lo, h.ne⟩
theorem FlAt.lt (h : FlAt T B w g gw c s) : g < w.heap.size ∧ gw < w.heap.size ∧ B ≤ gw := ⟨h.blk.lt, h.own.lt.2, h.own.lt.1⟩
theorem FlAt.sl (h : FlAt T B w g gw c s) : Sl u32v w (some ⟨gw, 0, none⟩) s.ws := h.own.sl
theorem FlMod.above {w0 : World} (h : FlMod g gw w w') (hb : Ext w0 w) (h1 : w0.heap.size ≤ g) (h2 : w0.heap.size ≤ gw) : Ext w0 w' := Mod.above h hb fun k hk => by rcases hk with rfl | rfl <;> assumption
/-- a word is stored -/
theorem FlAt.setWord (h : FlAt T B w g gw c s) (i : Nat) (hi : i < s.ws.length) (x : BitVec 32) (hw : w' = w.setCell ⟨gw, 0 + i, none⟩ (u32v x)) : FlAt T B w' g gw c { s with ws := s.ws.set i x } ∧ FlMod g gw w w' := by
  obtain ⟨ho, hg⟩ := (h.own.storeAt i hi).2 x w' hw
  refine ⟨⟨?_, ho, h.lo, h.ne⟩, Mod.ofGr hg fun k hk => by cases hk; exact .inr rfl⟩
  have hb := h.blk.keep (hg.block g h.lt.1 (fun e => h.ne (by cases e; rfl)))
  unfold FS.cells at *
  rw [List.length_set]
  exact hb
/-- a field is stored -/
theorem FlAt.setField (h : FlAt T B w g gw c s) (i : Nat) (v : Value) (t : FS) (hl : t.ws = s.ws) (hc : t.cells gw c = (s.cells gw c).set i v) (hw : w' = w.setCell ⟨g, 0 + i, none⟩ v) : FlAt T B w' g gw c t ∧ FlMod g gw w w' := by
  have hg : Gr w w' (some g) := by rw [hw]; exact gr_setCell _ _ _ _
  refine ⟨⟨?_, ?_, h.lo, h.ne⟩, Mod.ofGr hg fun k hk => by cases hk; exact .inl rfl⟩
  · rw [hc, hw]; exact h.blk.set i v
  · rw [hl]; exact hg.keepOwn h.own fun g' hg' e => by cases hg'; cases e; exact h.ne rfl
end

/-- its numbers are in range -/
structure FSok (s : FS) : Prop where
  ops : s.ops ≤ 4611686018427387904 ∧ -4611686018427387904 ≤ s.ops
  left : s.left ≤ 9223372036854775807

/-- fill -/
theorem fill_calls {B : Nat} {w : World} {g gw c : Nat} {s : FS} (h : FlAt 181 B w g gw c s) (a b : Nat) (hab : a ≤ b) (hb : b ≤ s.ws.length) (hl : s.ws.length ≤ 1048576) :
    Calls Try.prog 143 #[.pointer (some ⟨g, 0, none⟩), .int .i64 a, .int .i64 b] w (Ret fun v w' => v = .tuple #[] ∧ FlAt 181 B w' g gw c { s with ws := fillF s.ws a (b - a) } ∧ FlMod g gw w w') := by
  refine calls_of_vc lok Try.func143 ?_ rfl
  conv => whnf
  refine vcLoop_inv lok (σ := Nat)
    (fun i => [(6, .int .i64 (a + i : Nat)), (0, .pointer (some ⟨g, 0, none⟩)), (1, .int .i64 a), (2, .int .i64 b)])
    (fun i w1 => a + i ≤ b ∧ FlAt 181 B w1 g gw c { s with ws := fillF s.ws a i } ∧ FlMod g gw w w1) (fun i => b - i)
    0 ⟨rfl, rfl, rfl, rfl, trivial⟩ ⟨by omega, h, Mod.refl _ _⟩ ?_
  rintro i w1 ⟨hi, h1, hm1⟩
  conv => whnf
  refine vcCond_split lok rfl (fun h2 => ?_) (fun h2 => ?_)
  · have h2 := dt h2
    conv => whnf
    refine ⟨_, h1.blk.cell0 rfl, ?_⟩
    conv => whnf
    have hlen := fillF_len s.ws a i
    refine ⟨gw, 0, rfl, ⟨by omega, by show ((a + i : Nat) : Int) < ((fillF s.ws a i).length : Int); omega⟩, ?_⟩
    conv => whnf
    rw [show (((a + i : Nat) : Int)).toNat = a + i from rfl]
    refine ⟨⟨rfl, (h1.own.storeAt (a + i) (by show a + i < (fillF s.ws a i).length; omega)).1⟩, fun w2 hw2 => ?_⟩
    have g2 := h1.setWord (a + i) (by show a + i < (fillF s.ws a i).length; omega) ones hw2
    obtain ⟨h2', hm2⟩ := g2
    clear hw2
    conv => whnf
    refine ⟨by omega, ?_⟩
    conv => whnf
    refine ⟨i + 1, ⟨rfl, rfl, rfl, rfl, trivial⟩, ⟨by omega, ?_, hm1.trans hm2⟩, by omega⟩
    rw [fillF_succ]
    exact h2'
  · have h2 := df h2
    conv => whnf
    have e : i = b - a := by omega
    subst e
    exact ⟨rfl, h1, hm1⟩

/-- check -/
theorem check_calls {B : Nat} {w : World} {g gw c : Nat} {s : FS} (h : FlAt 181 B w g gw c s) (n most : Int) :
    Calls Try.prog 152 #[.pointer (some ⟨g, 0, none⟩), .int .i64 n, .int .i64 most] w (Ret fun v w' => v = .int .i64 (if s.off = true then 7 else if n < 0 ∨ most ≤ n then 10 else 0) ∧ w' = w) := by
  refine calls_of_vc lok Try.func152 ?_ rfl
  conv => whnf
  refine ⟨_, h.blk.cell (i := 1) rfl, ?_⟩
  conv => whnf
  cases ho : s.off with
  | true =>
    refine vcCond_true lok (rfl) ?_
    conv => whnf
    exact ⟨rfl, rfl⟩
  | false =>
    refine vcCond_false lok (rfl) ?_
    conv => whnf
    refine vcReg_meet lok (fun β : Bool => [(12, .bool β)]) (fun β w' => w' = w ∧ β = decide (n < 0 ∨ most ≤ n)) [12] (fun _ => rfl) rfl ?_ ?_
    · conv => whnf
      refine bcase (fun h1 => ?_) (fun h1 => ?_)
      · conv => whnf
        exact ⟨_, ⟨rfl, trivial⟩, rfl, by have := dt h1; simp; omega⟩
      · conv => whnf
        exact ⟨_, ⟨rfl, trivial⟩, rfl, by have := df h1; rw [decide_eq_decide]; omega⟩
    rintro β w' ⟨hw', hβ⟩
    subst hw'
    conv => whnf
    refine vcCond_split lok rfl (fun h1 => ?_) (fun h1 => ?_)
    · rw [h1] at hβ
      conv => whnf
      exact ⟨by rw [if_pos (dt hβ.symm)]; rfl, rfl⟩
    · rw [h1] at hβ
      conv => whnf
      exact ⟨by rw [if_neg (df hβ.symm)]; rfl, rfl⟩

/-- what is to be cleared, whole -/
theorem all_calls {B : Nat} {w : World} {g gw c : Nat} {s : FS} (h : FlAt 181 B w g gw c s) (i : Nat) (hi : i < s.ws.length) (x : BitVec 32) :
    Calls Try.prog 154 #[.agg #[.pointer (some ⟨g, 0, none⟩), .int .u32 x.toNat], .int .i64 i] w (Ret fun v w' => v = .tuple #[] ∧ FlAt 181 B w' g gw c { s with ws := s.ws.set i (s.ws.getD i 0#32 &&& x) } ∧ FlMod g gw w w') := by
  refine calls_of_vc lok Try.func154 ?_ rfl
  conv => whnf
  intro w1 hw1
  have hb1 : Blk w1 w.heap.size 196 [.pointer (some ⟨g, 0, none⟩), u32v x] := by rw [hw1]; exact Blk.new w 196 _
  have x1 : Ext w w1 := by rw [hw1]; exact Ext.new _ _
  clear hw1
  conv => whnf
  have gx : s.ws[i]? = some (s.ws.getD i 0#32) := by simp [List.getD, List.getElem?_eq_getElem hi]
  refine vcDraw_go lok mixed (fun w3 => w3 = w1.drew) [] [0, 1, 2, 3, 4, 5, 6, 7, 8, 9, 10, 11, 12] (by kernel_rfl) fun w2 hw2 => ⟨hw2, ?_⟩
  have x2 : Ext w1 w2 := hw2 ▸ Ext.drew w1
  have h2 := h.ext (x1.trans x2)
  have hb2 := hb1.ext x2
  conv => whnf
  refine ⟨_, fun w5 hw5 => by rw [hw5, ← hw2]; exact hb2.cell0 rfl, ?_⟩
  conv => whnf
  refine ⟨_, fun w5 hw5 => by rw [hw5, ← hw2]; exact h2.blk.cell0 rfl, ?_⟩
  conv => whnf
  refine ⟨gw, 0, rfl, ⟨by omega, by omega⟩, ?_⟩
  conv => whnf
  refine ⟨_, fun w5 hw5 => by rw [hw5, ← hw2]; exact h2.own.cellAt gx, ?_⟩
  conv => whnf
  refine ⟨_, fun w5 hw5 => by rw [hw5, ← hw2]; exact hb2.cell (i := 1) rfl, ?_⟩
  conv => whnf
  intro z hz
  replace hz := hz.trans (and32 (s.ws.getD i 0#32) x)
  subst hz
  conv => whnf
  refine ⟨gw, 0, rfl, ⟨by omega, by omega⟩, ?_⟩
  conv => whnf
  refine ⟨⟨rfl, (h2.own.storeAt i hi).1⟩, fun w3 hw3 => ?_⟩
  have g3 := h2.setWord i hi (s.ws.getD i 0#32 &&& x) hw3
  exact ⟨rfl, g3.1, (Mod.ofExt _ (x1.trans x2)).trans g3.2⟩

/-- what is to be cleared, torn -/
theorem some_calls {B : Nat} {w : World} {g gw c : Nat} {s : FS} (h : FlAt 181 B w g gw c s) (i : Nat) (hi : i < s.ws.length) (x : BitVec 32) :
    Calls Try.prog 155 #[.agg #[.pointer (some ⟨g, 0, none⟩), .int .u32 x.toNat], .int .i64 i] w (Ret fun v w' => v = .tuple #[] ∧ FlAt 181 B w' g gw c { s with ws := s.ws.set i (s.ws.getD i 0#32 &&& (x ||| ~~~s.mask)) } ∧ FlMod g gw w w') := by
  refine calls_of_vc lok Try.func155 ?_ rfl
  conv => whnf
  intro w1 hw1
  have hb1 : Blk w1 w.heap.size 196 [.pointer (some ⟨g, 0, none⟩), u32v x] := by rw [hw1]; exact Blk.new w 196 _
  have x1 : Ext w w1 := by rw [hw1]; exact Ext.new _ _
  clear hw1
  conv => whnf
  have gx : s.ws[i]? = some (s.ws.getD i 0#32) := by simp [List.getD, List.getElem?_eq_getElem hi]
  refine vcDraw_go lok mixed (fun w3 => w3 = w1.drew) [] [0, 1, 2, 3, 4, 5, 6, 7, 8, 9, 10, 11, 12, 13, 14, 15, 16, 17, 18, 19] (by kernel_rfl) fun w2 hw2 => ⟨hw2, ?_⟩
  have x2 : Ext w1 w2 := hw2 ▸ Ext.drew w1
  have h2 := h.ext (x1.trans x2)
  have hb2 := hb1.ext x2
  conv => whnf
  refine ⟨_, fun w5 hw5 => by rw [hw5, ← hw2]; exact hb2.cell0 rfl, ?_⟩
  conv => whnf
  refine ⟨_, fun w5 hw5 => by rw [hw5, ← hw2]; exact h2.blk.cell0 rfl, ?_⟩
  conv => whnf
  refine ⟨gw, 0, rfl, ⟨by omega, by omega⟩, ?_⟩
  conv => whnf
  refine ⟨_, fun w5 hw5 => by rw [hw5, ← hw2]; exact h2.own.cellAt gx, ?_⟩
  conv => whnf
  refine ⟨_, fun w5 hw5 => by rw [hw5, ← hw2]; exact hb2.cell (i := 1) rfl, ?_⟩
  conv => whnf
  refine ⟨_, fun w5 hw5 => by rw [hw5, ← hw2]; exact hb2.cell0 rfl, ?_⟩
  conv => whnf
  refine ⟨_, fun w5 hw5 => by rw [hw5, ← hw2]; exact h2.blk.cell (i := 3) rfl, ?_⟩
  conv => whnf
  intro z hz
  replace hz := hz.trans (not32 s.mask)
  subst hz
  conv => whnf
  intro z hz
  replace hz := hz.trans (or32 x (~~~s.mask))
  subst hz
  conv => whnf
  intro z hz
  replace hz := hz.trans (and32 (s.ws.getD i 0#32) (x ||| ~~~s.mask))
  subst hz
  conv => whnf
  refine ⟨gw, 0, rfl, ⟨by omega, by omega⟩, ?_⟩
  conv => whnf
  refine ⟨⟨rfl, (h2.own.storeAt i hi).1⟩, fun w3 hw3 => ?_⟩
  have g3 := h2.setWord i hi (s.ws.getD i 0#32 &&& (x ||| ~~~s.mask)) hw3
  exact ⟨rfl, g3.1, (Mod.ofExt _ (x1.trans x2)).trans g3.2⟩

/-- a sector erased -/
theorem ferase_calls {B : Nat} {w : World} {g gw c : Nat} {s : FS} (h : FlAt 181 B w g gw c s) (n : Nat) (hn : n < s.ws.length / 256) (hl : s.ws.length ≤ 1048576) :
    Calls Try.prog 156 #[.pointer (some ⟨g, 0, none⟩), .int .i64 n] w (Ret fun v w' => v = .tuple #[] ∧ FlAt 181 B w' g gw c { s with ws := fillF s.ws (256 * n) 256 } ∧ FlMod g gw w w') := by
  refine calls_of_vc lok Try.func156 ?_ rfl
  conv => whnf
  refine ⟨by omega, ?_⟩
  conv => whnf
  refine ⟨by omega, ?_⟩
  conv => whnf
  refine ⟨by omega, ?_⟩
  conv => whnf
  have e1 : (n : Int) * 256 = ((256 * n : Nat) : Int) := by omega
  have e2 : ((n : Int) + 1) * 256 = ((256 * n + 256 : Nat) : Int) := by omega
  rw [e1, e2]
  have g1 := fill_calls h (256 * n) (256 * n + 256) (by omega) (by omega) hl
  rw [show 256 * n + 256 - 256 * n = 256 by omega] at g1
  refine Calls.ret (g1) ?_
  rintro _ w1 ⟨rfl, h1, hm1⟩
  conv => whnf
  exact ⟨rfl, h1, hm1⟩
/-- one torn -/
theorem begin_calls {B : Nat} {w : World} {g gw c : Nat} {s : FS} (h : FlAt 181 B w g gw c s) (n : Nat) (hn : n < s.ws.length / 256) (hl : s.ws.length ≤ 1048576) :
    Calls Try.prog 157 #[.pointer (some ⟨g, 0, none⟩), .int .i64 n] w (Ret fun v w' => v = .tuple #[] ∧ FlAt 181 B w' g gw c { s with ws := fillF s.ws (256 * n) (s.mask.toNat % 257) } ∧ FlMod g gw w w') := by
  refine calls_of_vc lok Try.func157 ?_ rfl
  conv => whnf
  refine ⟨by omega, ?_⟩
  conv => whnf
  refine ⟨by omega, ?_⟩
  conv => whnf
  refine ⟨_, h.blk.cell (i := 3) rfl, ?_⟩
  conv => whnf
  refine ⟨by decide, ?_⟩
  have hml := s.mask.isLt
  intro z hz
  have hz54 : z = ((s.mask.toNat % 257 : Nat) : Int) := by rw [hz, Int.tmod_eq_emod_of_nonneg (by omega)]; omega
  clear hz
  subst hz54
  conv => whnf
  have hm2 : s.mask.toNat % 257 < 257 := Nat.mod_lt _ (by decide)
  generalize s.mask.toNat % 257 = m at *
  intro z hz
  have hz55 : z = (m : Int) := by rw [hz]; exact wi64 (by omega)
  clear hz
  subst hz55
  conv => whnf
  refine ⟨by omega, ?_⟩
  conv => whnf
  have e1 : (n : Int) * 256 = ((256 * n : Nat) : Int) := by omega
  have e2 : ((256 * n : Nat) : Int) + (m : Int) = ((256 * n + m : Nat) : Int) := by omega
  rw [e1, e2]
  have g1 := fill_calls h (256 * n) (256 * n + m) (by omega) (by omega) hl
  rw [show 256 * n + m - 256 * n = m by omega] at g1
  refine Calls.ret (g1) ?_
  rintro _ w1 ⟨rfl, h1, hm1⟩
  conv => whnf
  exact ⟨rfl, h1, hm1⟩
end Go.Proofs.Ytgipackjnncabaa
