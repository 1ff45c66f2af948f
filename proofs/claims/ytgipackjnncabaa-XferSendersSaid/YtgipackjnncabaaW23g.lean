/- Walks of layer 23, seventh part: the reference's sender. -/
import Derived.Test.YtgipackjnncabaaW23f
set_option linter.unusedVariables false
namespace Go.Proofs.Ytgipackjnncabaa
open Go.Vc Go.RowKit

/-- how long a chunk is -/
def longF (size chunk : Nat) : Nat := if 31 < chunk ∨ size ≤ 64 * chunk then 0 else if size - 64 * chunk < 64 then size - 64 * chunk else 64

theorem long_calls {w : World} (size chunk : Nat) (hs : size ≤ 1048576) (hc : chunk ≤ 1048576) : Calls Try.prog 176 #[.int .i64 size, .int .i64 chunk] w (Ret fun v w' => v = .int .i64 (longF size chunk) ∧ w' = w) := by
  refine calls_of_vc lok Try.func176 ?_ rfl
  conv => whnf
  refine vcReg_meet lok (fun β : Bool => [(16, .bool β)]) (fun β w' => w' = w ∧ β = decide (31 < chunk ∨ size ≤ 64 * chunk)) [16] (fun _ => rfl) rfl ?_ ?_
  · conv => whnf
    refine bcase (fun h2 => ?_) (fun h2 => ?_)
    · have h2 := dt h2
      conv => whnf
      exact ⟨_, ⟨rfl, trivial⟩, rfl, by rw [eq_comm, decide_eq_true_iff]; omega⟩
    · have h2 := df h2
      conv => whnf
      refine ⟨by omega, ?_⟩
      conv => whnf
      exact ⟨_, ⟨rfl, trivial⟩, rfl, by rw [decide_eq_decide]; omega⟩
  rintro β w1 ⟨hw1, hβ⟩
  subst hw1
  conv => whnf
  refine vcCond_split lok rfl (fun h1 => ?_) (fun h1 => ?_)
  · rw [h1] at hβ
    have e : longF size chunk = 0 := if_pos (dt hβ.symm)
    rw [e]
    conv => whnf
    exact ⟨rfl, rfl⟩
  rw [h1] at hβ
  have hn := df hβ.symm
  conv => whnf
  refine ⟨by omega, ?_⟩
  conv => whnf
  refine ⟨by omega, ?_⟩
  conv => whnf
  refine vcCond_split lok rfl (fun h2 => ?_) (fun h2 => ?_)
  · have h2 := dt h2
    conv => whnf
    have e : longF size chunk = size - 64 * chunk := by unfold longF; rw [if_neg hn, if_pos (by omega)]
    refine ⟨by omega, ?_⟩
    conv => whnf
    refine ⟨by omega, ?_⟩
    conv => whnf
    refine ⟨?_, rfl⟩
    rw [e]
    congr 1
    omega
  · have h2 := df h2
    conv => whnf
    have e : longF size chunk = 64 := by unfold longF; rw [if_neg hn, if_neg (by omega)]
    rw [e]
    exact ⟨rfl, rfl⟩

/-- missing -/
theorem missing_calls {B : Nat} {w : World} {b c : Nat} {a : Option Addr} {s : SS} (h : SnAt 136 B w b a c s) (hl : s.data.length ≤ 2048) :
    Calls Try.prog 184 #[.pointer (some ⟨b, 0, none⟩)] w (Ret fun v w' => v = .int .i64 (match missF s.data.length s.hav 40 0 with | some k => (k : Int) | none => -1) ∧ w' = w) := by
  refine calls_of_vc lok Try.func184 ?_ rfl
  conv => whnf
  refine ⟨_, h.blk.cell (i := 2) rfl, ?_⟩
  conv => whnf
  have hhl := s.hav.isLt
  refine vcLoop_inv lok (σ := Nat × Nat)
    (fun ⟨k, n⟩ => [(4, .int .i64 k), (3, .int .u32 n), (0, .pointer (some ⟨b, 0, none⟩))])
    (fun ⟨k, n⟩ w1 => k ≤ 32 ∧ n = s.hav.toNat / 2 ^ k ∧ missF s.data.length s.hav 40 0 = missF s.data.length s.hav (40 - k) k ∧ w1 = w) (fun t => 33 - t.1)
    (0, s.hav.toNat) ⟨rfl, rfl, rfl, trivial⟩ ⟨Nat.zero_le _, by simp, rfl, rfl⟩ ?_
  rintro ⟨k, n⟩ w1 ⟨hk, hn, hmi, hw1⟩
  subst hw1
  have hnl : n ≤ s.hav.toNat := by rw [hn]; exact Nat.div_le_self _ _
  have hst := missF_step (hav := s.hav) hl (40 - k) k (by omega)
  rw [hst] at hmi
  conv => whnf
  refine ⟨_, h.blk.cell (i := 1) rfl, ?_⟩
  conv => whnf
  refine Calls.ret (long_calls s.data.length k (by omega) (by omega)) ?_
  rintro _ w2 ⟨rfl, hw2⟩
  conv => whnf
  subst hw2
  conv => whnf
  refine vcCond_split lok rfl (fun h2 => ?_) (fun h2 => ?_)
  · have h2 := dt h2
    conv => whnf
    have hkl : k ≤ 31 ∧ 64 * k < s.data.length := by
      unfold longF at h2
      split at h2
      · exact absurd h2 (by decide)
      · omega
    rw [if_pos hkl.2] at hmi
    refine ⟨by decide, ?_⟩
    intro z hz
    have hz25 : z = ((n % 2 : Nat) : Int) := by rw [hz, Int.tmod_eq_emod_of_nonneg (by omega)]; omega
    clear hz
    subst hz25
    conv => whnf
    have hb : s.hav.getLsbD k = decide (n % 2 = 1) := by rw [bit_nat, hn]
    refine vcCond_split lok rfl (fun h3 => ?_) (fun h3 => ?_)
    · have h3 := dt h3
      conv => whnf
      rw [hb, decide_eq_false (by omega), if_neg (by decide)] at hmi
      rw [hmi]
      exact ⟨rfl, rfl⟩
    · have h3 := df h3
      conv => whnf
      rw [hb, decide_eq_true (by omega), if_pos rfl] at hmi
      refine ⟨by decide, ?_⟩
      intro z hz
      have hz29 : z = ((n / 2 : Nat) : Int) := by rw [hz, Int.tdiv_eq_ediv_of_nonneg (by omega), wu32]; omega
      clear hz
      subst hz29
      conv => whnf
      refine ⟨by omega, ?_⟩
      conv => whnf
      exact ⟨(k + 1, n / 2), ⟨rfl, rfl, rfl, trivial⟩, ⟨by omega, by rw [hn, Nat.div_div_eq_div_mul, Nat.pow_succ], by rw [hmi]; congr 1, rfl⟩, by omega⟩
  · have h2 := df h2
    conv => whnf
    have hkl : ¬ 64 * k < s.data.length := by
      intro h3
      apply h2
      unfold longF
      rw [if_neg (by omega)]
      split <;> omega
    rw [if_neg hkl] at hmi
    rw [hmi]
    exact ⟨rfl, rfl⟩

theorem built70q (v n : Int) : Try.prog.built 70 [(0, .int .i64 1), (1, .int .u32 v), (2, .int .i64 n)] = some #[.int .i64 1, .int .u32 v, .int .i64 n, .int .i64 0, .int .i64 0, .int .u32 0, .slice none 0 0] := by kernel_rfl
theorem built70d (v k : Int) (a : Option Addr) (n c : Nat) : Try.prog.built 70 [(0, .int .i64 2), (1, .int .u32 v), (3, .int .i64 k), (6, .slice a n c)] = some #[.int .i64 2, .int .u32 v, .int .i64 0, .int .i64 k, .int .i64 0, .int .u32 0, .slice a n c] := by kernel_rfl

theorem missF_lt {len : Nat} {hav : BitVec 32} : ∀ (f k j : Nat), missF len hav f k = some j → 64 * j < len
  | 0, k, j, h => by cases h
  | f + 1, k, j, h => by
    unfold missF at h
    split at h
    · split at h
      · exact missF_lt f (k + 1) j h
      · cases h; assumption
    · cases h

set_option maxHeartbeats 2000000 in
/-- send -/
theorem rsend_calls {B : Nat} {w : World} {b c : Nat} {a : Option Addr} {s : SS} (h : SnAt 136 B w b a c s) (hl : s.data.length ≤ 2048) :
    Calls Try.prog 167 #[.pointer (some ⟨b, 0, none⟩)] w (Ret fun v w' => ∃ a' c', v = .slice a' (outF s).length c' ∧ Own 5 u8v w.heap.size w' a' c' (outF s) ∧ SnAt 136 B w' b a c (sendF s) ∧ Gr w w' (some b)) := by
  have hlc := h.own.le.1
  refine calls_of_vc lok Try.func167 ?_ rfl
  conv => whnf
  refine ⟨h.blk.can 5 (by simp [SS.cells]) _ rfl, fun w1 hw1 => ?_⟩
  have k1 := h.setField 5 (.int .i64 4) (sendF s) rfl rfl hw1
  obtain ⟨h1, g1⟩ := k1
  clear hw1
  have z1 := g1.size
  have qb := h1.blk.lt
  conv => whnf
  refine vcDraw_meet lok mixed (fun w' => SnAt 136 B w' b a c (sendF s)) [10] [0, 1, 2, 3, 4, 5, 6, 7, 8, 9, 10, 11]
    (fun t : Nat => [(3, .pointer (some ⟨t, 0, none⟩))]) (fun t w' => w1.heap.size ≤ t ∧ Blk w' t 70 ((⟨1, s.ver, s.data.length, 0, 0, 0#32, []⟩ : Pk).cells none 0) ∧ Ext w1 w') [3] (fun _ => rfl) rfl (by kernel_rfl) (fun w2 hw2 => ⟨h1.ext (hw2 ▸ Ext.drew w1), ?_⟩) ?_
  · have x2 : Ext w1 w2 := hw2 ▸ Ext.drew w1
    have h2 := h1.ext x2
    conv => whnf
    refine ⟨_, fun w' hw' => hw'.blk.cell0 rfl, ?_⟩
    conv => whnf
    refine ⟨_, fun w' hw' => hw'.blk.cell (i := 1) rfl, ?_⟩
    conv => whnf
    refine ⟨_, fun w => run_build w 70 _ _ (built70q _ _), ?_⟩
    conv => whnf
    intro w3 hw3
    have hb3 : Blk w3 w2.heap.size 70 (Pk.zero.cells none 0) := by rw [hw3]; exact Blk.new w2 70 _
    have x3 : Ext w2 w3 := by rw [hw3]; exact Ext.new _ _
    clear hw3
    refine ⟨_, fun _ h => h, h2.ext x3, ?_⟩
    conv => whnf
    have k4 := Blk.storeAgg lok hb3 (t := 70) (us := (⟨1, s.ver, s.data.length, 0, 0, 0#32, []⟩ : Pk).cells none 0) rfl 0 (Nat.le_refl 7) (Pk.one _ _ _)
    obtain ⟨w4, hr4, hb4, g4⟩ := k4
    have hb4 : Blk w4 w2.heap.size 70 ((⟨1, s.ver, s.data.length, 0, 0, 0#32, []⟩ : Pk).cells none 0) := hb4
    have x4 : Ext w2 w4 := g4.extOf x3 (fun g hg => by cases hg; exact Nat.le_refl _)
    refine ⟨w4, hr4, ?_⟩
    conv => whnf
    exact ⟨w2.heap.size, ⟨rfl, trivial⟩, x2.size, hb4, x2.trans x4⟩
  rintro bp w2 ⟨hbp, hb2, x2⟩
  have h2 := h1.ext x2
  have g2 : Gr w w2 (some b) := g1.step (Gr.ofExt x2 none) (.inr (fun g hg => by cases hg))
  have qa : ∀ g, blockOf a = some g → g < bp := fun g hg => by have := (h1.own.ge g hg).2; omega
  conv => whnf
  refine ⟨_, h2.blk.cell (i := 3) rfl, ?_⟩
  conv => whnf
  have eo : outF s = if (nextF s).2 = true then (packF (nextF s).1).1 else [] := rfl
  refine vcCond_meet (fun t : Option Addr × Nat => [(3, .pointer (some ⟨bp, 0, none⟩)), (0, .pointer (some ⟨b, 0, none⟩))])
    (fun t w' => (nextF s).2 = true ∧ Blk w' bp 70 ((nextF s).1.cells t.1 t.2) ∧ Sl u8v w' t.1 (nextF s).1.data ∧ SnAt 136 B w' b a c (sendF s) ∧ Gr w w' (some b)) ?_ ?_
  · cases hwa : s.wanted with
    | false =>
      have e : nextF s = (⟨1, s.ver, s.data.length, 0, 0, 0#32, []⟩, true) := if_neg (by rw [hwa]; exact Bool.false_ne_true)
      rw [e]
      refine vcCond_false lok (by rw [show (sendF s).wanted = false from hwa]; rfl) ?_
      conv => whnf
      exact ⟨(none, 0), ⟨rfl, rfl, trivial⟩, rfl, hb2, .inl rfl, h2, g2⟩
    | true =>
      refine vcCond_true lok (by rw [show (sendF s).wanted = true from hwa]; rfl) ?_
      conv => whnf
      have gm := missing_calls h2 hl
      have em : missF (sendF s).data.length (sendF s).hav 40 0 = missF s.data.length s.hav 40 0 := rfl
      rw [em] at gm
      cases hmi : missF s.data.length s.hav 40 0 with
      | none =>
        rw [hmi] at gm
        have gm : Calls Try.prog 184 #[.pointer (some ⟨b, 0, none⟩)] w2 (Ret fun v w' => v = .int .i64 (-1) ∧ w' = w2) := gm
        refine Calls.ret (gm) ?_
        rintro _ w3 ⟨rfl, hw3⟩
        conv => whnf
        subst hw3
        have e : nextF s = (⟨2, s.ver, 0, 0, 0, 0#32, []⟩, false) := by unfold nextF; rw [if_pos hwa, hmi]
        rw [e, if_neg Bool.false_ne_true] at eo
        rw [eo]
        conv => whnf
        refine vcCond_true lok (rfl) ?_
        conv => whnf
        exact ⟨none, 0, rfl, Own.nil _ _ _ _, h2, g2⟩
      | some k =>
        have e : nextF s = (⟨2, s.ver, 0, k, 0, 0#32, chunkF s.data k⟩, true) := by unfold nextF; rw [if_pos hwa, hmi]
        have hkl := missF_lt 40 0 k hmi
        have ecl : (chunkF s.data k).length = min s.data.length (64 * (k + 1)) - 64 * k := by unfold chunkF; rw [List.length_take, List.length_drop]; omega
        have elo : longF s.data.length k = min s.data.length (64 * (k + 1)) - 64 * k := by
          unfold longF
          rw [if_neg (by omega)]
          split <;> omega
        rw [e]
        rw [hmi] at gm
        have gm : Calls Try.prog 184 #[.pointer (some ⟨b, 0, none⟩)] w2 (Ret fun v w' => v = .int .i64 (k : Int) ∧ w' = w2) := gm
        refine Calls.ret (gm) ?_
        rintro _ w3 ⟨rfl, hw3⟩
        conv => whnf
        subst hw3
        conv => whnf
        refine vcCond_split lok rfl (fun h5 => absurd (dt h5) (by show ¬ (k : Int) < 0; omega)) (fun _ => ?_)
        conv => whnf
        refine vcDraw_meet lok mixed (fun w' => SnAt 136 B w' b a c (sendF s)) [19] [0, 1, 2, 3, 4, 5, 6, 7, 8, 9, 10, 11, 12, 13, 14, 15, 16, 17, 18, 19, 20, 21, 22, 23]
          (fun _ : Unit => []) (fun _ w' => ∃ a' c', Blk w' bp 70 ((⟨2, s.ver, 0, k, 0, 0#32, chunkF s.data k⟩ : Pk).cells a' c') ∧ Sl u8v w' a' (chunkF s.data k) ∧ SnAt 136 B w' b a c (sendF s) ∧ Gr w w' (some b)) [] (fun _ => rfl) rfl (by kernel_rfl) (fun w4 hw4 => ⟨h2.ext (hw4 ▸ Ext.drew w3), ?_⟩) ?_
        · have x4 : Ext w3 w4 := hw4 ▸ Ext.drew w3
          have h4 := h2.ext x4
          have hb4 := hb2.ext x4
          conv => whnf
          refine ⟨_, fun w' hw' => hw'.blk.cell0 rfl, ?_⟩
          conv => whnf
          refine ⟨_, fun w' hw' => hw'.blk.cell (i := 1) rfl, ?_⟩
          conv => whnf
          refine ⟨by omega, ?_⟩
          conv => whnf
          refine ⟨by omega, ?_⟩
          conv => whnf
          refine ⟨_, fun w' hw' => hw'.blk.cell (i := 1) rfl, ?_⟩
          conv => whnf
          refine Calls.ret (long_calls s.data.length k (by omega) (by omega)) ?_
          rintro _ w5 ⟨rfl, hw5⟩
          conv => whnf
          subst hw5
          refine ⟨_, fun _ h => h, h4, ?_⟩
          rw [elo]
          conv => whnf
          refine ⟨by omega, ?_⟩
          conv => whnf
          have e1 : 64 * (k : Int) = ((64 * k : Nat) : Int) := by omega
          have e2 : ((64 * k : Nat) : Int) + ((min s.data.length (64 * (k + 1)) - 64 * k : Nat) : Int) = ((min s.data.length (64 * (k + 1)) : Nat) : Int) := by omega
          rw [e1, e2]
          refine ⟨⟨by omega, by omega, by omega⟩, ?_⟩
          intro aa haa
          rw [Int.toNat_natCast] at haa
          have hsl : Sl u8v w5 aa (chunkF s.data k) := by rw [haa]; exact Sl.mid (xs := s.data) h4.own.sl (64 * k) (min s.data.length (64 * (k + 1))) c (by omega) (by omega) hlc
          have hab : ∀ g, blockOf aa = some g → g < bp := by
            intro g hg
            rw [haa] at hg
            refine qa g ?_
            split at hg
            · exact hg
            · cases ha : a with
              | none => rw [ha] at hg; cases hg
              | some p => rw [ha] at hg; have : (p.add (64 * k * 1)).block = g := Option.some.inj hg; rw [← this]; unfold Addr.add; split <;> rfl
          clear haa
          rw [Int.toNat_natCast, Int.toNat_natCast, ← ecl]
          conv => whnf
          refine ⟨_, fun w => run_build w 70 _ _ (built70d _ _ _ _ _), ?_⟩
          conv => whnf
          have k6 := Blk.storeAgg lok hb4 (t := 70) (us := (⟨2, s.ver, 0, k, 0, 0#32, chunkF s.data k⟩ : Pk).cells aa (c - 64 * k)) rfl 0 (Nat.le_refl 7) (Pk.one _ _ _)
          obtain ⟨w6, hr6, hb6, g6⟩ := k6
          have hb6 : Blk w6 bp 70 ((⟨2, s.ver, 0, k, 0, 0#32, chunkF s.data k⟩ : Pk).cells aa (c - 64 * k)) := hb6
          refine ⟨w6, hr6, ?_⟩
          conv => whnf
          exact ⟨(), trivial, aa, _, hb6, g6.keepSl hsl (fun _ g hg q => by have q' := Option.some.inj q; have := hab g hg; omega),
            ⟨h4.blk.keep (g6.block _ h4.blk.lt (fun q => by have q' := Option.some.inj q; omega)), g6.keepOwn h4.own (fun g hg q => by have q' := Option.some.inj q; have := qa g hg; omega), h4.lo, h4.ne⟩,
            (g2.step (Gr.ofExt x4 none) (.inr (fun g hg => by cases hg))).step g6 (.inr (fun g hg => by cases hg; omega))⟩
        rintro _ w4 ⟨a', c', hb4, hs4, h4, g4⟩
        conv => whnf
        exact ⟨(a', c'), ⟨rfl, rfl, trivial⟩, rfl, hb4, hs4, h4, g4⟩
  rintro ⟨a3, c3⟩ w3 ⟨hok, hb3, hs3, h3, g3⟩
  rw [if_pos hok] at eo
  rw [eo]
  generalize (nextF s).1 = p at *
  have hb3 : Blk w3 bp 70 (p.cells a3 c3) := hb3
  conv => whnf
  refine ⟨p.cells a3 c3, rfl, hb3.cells, ?_⟩
  conv => whnf
  refine Calls.ret (rpack_calls p hs3) ?_
  rintro _ w4 ⟨a4, c4, rfl, ho4, x4⟩
  conv => whnf
  exact ⟨a4, c4, rfl, ho4.base g3.size, h3.ext x4, g3.step (Gr.ofExt x4 none) (.inr (fun g hg => by cases hg))⟩

/-- Tick -/
theorem rtick_calls {B : Nat} {w : World} {b c : Nat} {a : Option Addr} {s : SS} (h : SnAt 136 B w b a c s) (hl : s.data.length ≤ 2048) (hw : s.wait ≤ 9223372036854775807) (hv : s.ver ≠ 0#32) :
    Calls Try.prog 116 #[.pointer (some ⟨b, 0, none⟩)] w (Ret fun v w' => ∃ a' c', v = .slice a' (tickF s).2.length c' ∧ Own 5 u8v w.heap.size w' a' c' (tickF s).2 ∧ SnAt 136 B w' b a c (tickF s).1 ∧ Gr w w' (some b)) := by
  refine calls_of_vc lok Try.func116 ?_ rfl
  conv => whnf
  refine ⟨_, h.blk.cell (i := 4) rfl, ?_⟩
  conv => whnf
  cases hd : s.done with
  | true =>
    have e : tickF s = (s, []) := if_pos (.inl hd)
    rw [e]
    refine vcCond_true lok (rfl) ?_
    conv => whnf
    exact ⟨none, 0, rfl, Own.nil _ _ _ _, h, Gr.refl _ _⟩
  | false =>
    have hn : ¬ (s.done = true ∨ s.ver = 0#32) := by rintro (q | q); rw [hd] at q; cases q; exact hv q
    refine vcCond_false lok (rfl) ?_
    conv => whnf
    refine ⟨_, h.blk.cell (i := 5) rfl, ?_⟩
    conv => whnf
    refine vcCond_split lok rfl (fun h2 => ?_) (fun h2 => ?_)
    · have h2 := dt h2
      conv => whnf
      have e : tickF s = ({ s with wait := s.wait - 1 }, []) := by unfold tickF; rw [if_neg hn, if_pos h2]
      rw [e]
      refine ⟨_, h.blk.cell (i := 5) rfl, ?_⟩
      conv => whnf
      refine ⟨by omega, ?_⟩
      conv => whnf
      refine ⟨h.blk.can 5 (by simp [SS.cells]) _ rfl, fun w2 hw2 => ?_⟩
      have k2 := h.setField 5 (.int .i64 (s.wait - 1)) { s with wait := s.wait - 1 } rfl rfl hw2
      exact ⟨none, 0, rfl, Own.nil _ _ _ _, k2.1, k2.2⟩
    · have h2 := df h2
      conv => whnf
      have e : tickF s = (sendF s, outF s) := by unfold tickF; rw [if_neg hn, if_neg h2]
      rw [e]
      refine Calls.ret (rsend_calls h hl) ?_
      rintro _ w2 ⟨a2, c2, rfl, ho2, h2', g2⟩
      conv => whnf
      exact ⟨a2, c2, rfl, ho2, h2', g2⟩
end Go.Proofs.Ytgipackjnncabaa
