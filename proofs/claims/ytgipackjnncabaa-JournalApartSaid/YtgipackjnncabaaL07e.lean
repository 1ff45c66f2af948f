/- The law JournalApart, walked. -/
import Derived.Test.YtgipackjnncabaaL07d
set_option linter.unusedVariables false
namespace Go.Proofs.Ytgipackjnncabaa
open Go.Vc Go.RowKit

/-- whatever comes of an Append: the words beside are as they were -/
theorem append_beside {s : FS} {n : Nat} (hn : 256 * (n + 2) ≤ s.ws.length) (hs : s.off = false) (rec : List (BitVec 32)) : Beside n s.ws (appendF (jopF s.ws n) s rec).2.1.ws := by
  by_cases hbig : rec.length < 1 ∨ 64 < rec.length ∨ 2147483647 ≤ (jopF s.ws n).num.toNat
  · rw [append_big (jop_dead _ _) hs hbig]; exact Beside.refl _ _
  · have g := append_tie (s := s) (n := n) (rec := rec) hn hs (by omega) (by omega)
    rcases g with ⟨t, e1, _, _, _, _, e6⟩ | ⟨t, e1, _, _, _, e5⟩
    · rw [e1]; exact e6
    · rw [e1]; exact e5

set_option maxRecDepth 100000 in
set_option maxHeartbeats 8000000 in
theorem journalApart_walk {w : World} {la : Option Addr} {lc : Nat} {l : List (BitVec 32)} {a : Option Addr} {c : Nat} {xs : List O7} (hl32 : Sl u32v w la l) (hll : l.length ≤ 9223372036854775807)
    (h : SlN 4 O7.cells w a xs) (hl : xs.length ≤ 9223372036854775807) (hok : ∀ x ∈ xs, O7Ok w x) :
    Calls Try.prog 32 #[.slice la l.length lc, .slice a xs.length c] w (Law w) := by
  refine calls_of_vc lok Try.func32 ?_ rfl
  conv => whnf
  refine Calls.ret (light_calls h hl) ?_
  rintro _ w0 ⟨hw0, β, rfl, _⟩
  conv => whnf
  subst hw0
  refine vcCond_split lok rfl (fun h1 => ?_) (fun h1 => ?_)
  · conv => whnf
    refine Calls.ret (known07) ?_
    rintro _ w1 ⟨rfl, x1⟩
    conv => whnf
    exact ⟨rfl, x1⟩
  clear h1
  conv => whnf
  refine vcLoop_inv lok (σ := Nat × Option Addr × Nat × List (BitVec 32))
    (fun ⟨i, ra, rc, ws⟩ => [(6, .int .i64 i), (5, .slice ra ws.length rc), (0, .slice la l.length lc), (1, .slice a xs.length c)])
    (fun ⟨i, ra, rc, ws⟩ w' => i ≤ 1024 ∧ ws.length = i ∧ Own 42 u32v w0.heap.size w' ra rc ws ∧ Ext w0 w') (fun t => 1024 - t.1)
    (0, none, 0, []) ⟨rfl, rfl, rfl, rfl, trivial⟩ ⟨Nat.zero_le _, rfl, Own.nil _ _ _ _, Ext.refl _⟩ ?_
  rintro ⟨i, ra, rc, ws⟩ w1 ⟨hi, hwl, ho1, x1⟩
  conv => whnf
  refine vcCond_split lok rfl (fun h2 => ?_) (fun h2 => ?_)
  · have h2 := dt h2
    conv => whnf
    refine vcReg_meet lok (fun β : Bool => [(33, .bool β)]) (fun β w' => w' = w1 ∧ (β = true → 0 < l.length)) [33] (fun _ => rfl) rfl ?_ ?_
    · conv => whnf
      refine bcase (fun k1 => ?_) (fun k1 => ?_)
      · conv => whnf
        refine ⟨_, ⟨rfl, trivial⟩, rfl, fun q => ?_⟩
        have := of_decide_eq_true q
        omega
      · conv => whnf
        refine bcase (fun k2 => ?_) (fun k2 => ?_)
        · conv => whnf
          refine ⟨_, ⟨rfl, trivial⟩, rfl, fun q => ?_⟩
          have := of_decide_eq_true q
          omega
        · conv => whnf
          refine ⟨_, ⟨rfl, trivial⟩, rfl, fun q => ?_⟩
          cases q
    rintro β w2 ⟨hw2, hβ⟩
    subst hw2
    conv => whnf
    refine vcCond_meet (fun y : BitVec 32 => [(7, .int .u32 y.toNat), (6, .int .i64 i), (5, .slice ra ws.length rc), (0, .slice la l.length lc), (1, .slice a xs.length c)]) (fun y w' => w' = w2) ?_ ?_
    · refine vcCond_split lok rfl (fun h3 => ?_) (fun h3 => ?_)
      · have hpos := hβ h3
        conv => whnf
        refine ⟨by omega, ?_⟩
        intro z hz
        have hz18 : z = ((i % l.length : Nat) : Int) := by rw [hz]; exact rem_u8 i l.length hpos
        clear hz
        subst hz18
        conv => whnf
        have hix : i % l.length < l.length := Nat.mod_lt _ hpos
        have g19 := sl_get ((hl32.ext x1)) (((i % l.length : Nat) : Int)) (i % l.length) (by omega) (by omega)
        obtain ⟨p19, o19, ha19, hb19, hcell19⟩ := g19
        refine ⟨p19, o19, ha19, hb19, ?_⟩
        conv => whnf
        refine ⟨_, hcell19, ?_⟩
        conv => whnf
        exact ⟨_, ⟨rfl, rfl, rfl, rfl, rfl, trivial⟩, rfl⟩
      · conv => whnf
        exact ⟨ones, ⟨rfl, rfl, rfl, rfl, rfl, trivial⟩, rfl⟩
    rintro y w3 hw3
    subst hw3
    conv => whnf
    have g6 := run_one w3 y
    obtain ⟨w6, hr6, ho6, x6⟩ := g6
    refine ⟨_, _, hr6, ?_⟩
    conv => whnf
    have z6 := x6.size
    have z1 := x1.size
    have g7 := run_app (ty := 37) (d := 1) (ho1.ext x6) ho6.sl (by simp; omega) (by omega)
    obtain ⟨a7, c7, w7, hr7, ho7, hg7⟩ := g7
    refine ⟨_, _, hr7, ?_⟩
    have x7 : Ext w0 w7 := hg7.extOf (x1.trans x6) (fun g hg => (ho1.ge g hg).1)
    have el : (ws ++ [y]).length = i + 1 := by rw [List.length_append, hwl]; rfl
    generalize ws ++ [y] = ys at *
    conv => whnf
    refine ⟨by omega, ?_⟩
    conv => whnf
    exact ⟨(i + 1, a7, c7, ys), ⟨rfl, rfl, rfl, rfl, trivial⟩, ⟨by omega, el, ho7, x7⟩, by show 1024 - (i + 1) < 1024 - i; omega⟩
  have h2 := df h2
  conv => whnf
  have hw1024 : ws.length = 1024 := by omega
  clear h2 hi hwl
  refine Calls.ret (of_big ho1.sl (by omega)) ?_
  rintro _ w2 hp
  conv => whnf
  rcases hp with ⟨_, g, gw, fc, rfl, hf, x2⟩ | ⟨hno, _⟩
  rotate_left
  · rw [hw1024] at hno; exact absurd hno (by decide)
  have so : (newFS ws).off = false := rfl
  have sw : (newFS ws).ws = ws := rfl
  have sn : Num (newFS ws) 1024 0 := ⟨hw1024, ⟨Int.le_refl _, Int.le_refl _⟩, by show (-1 : Int) ≤ _; decide⟩
  generalize newFS ws = s0 at *
  have hlt := hf.lt
  have hflo := hf.lo
  have z1 := x1.size
  have ho2 := ho1.ext x2
  have hob := fun b hb => (ho1.ge b hb).2
  have l0 := sn.len
  conv => whnf
  refine Calls.ret (jopen_calls hf (by omega) 1) ?_
  rintro _ w3 hp
  conv => whnf
  rcases hp with ⟨hno, _⟩ | ⟨_, hno, _⟩ | ⟨_, _, _, p0, rfl, hj, x3⟩
  · rw [so] at hno; cases hno
  · exact absurd ⟨by decide, by omega⟩ hno
  have hj : JAt (fun k => k < w2.heap.size ∨ k = p0) w2.heap.size w3 p0 g (jopF s0.ws 1) := hj
  have hp0 := hj.lo
  have z2 := x2.size
  conv => whnf
  refine vcReg_go lok ?_
  conv => whnf
  refine vcCond_false lok (rfl) ?_
  conv => whnf
  have x03 := x1.trans (x2.trans x3)
  refine vcLoop_inv lok (σ := Nat × Nat × FS)
    (fun ⟨i, p, s⟩ => [(11, .int .i64 i), (8, .pointer (some ⟨g, 0, none⟩)), (9, .pointer (some ⟨p, 0, none⟩)), (5, .slice ra ws.length rc), (1, .slice a xs.length c)])
    (fun ⟨i, p, s⟩ w' => i ≤ xs.length ∧ i ≤ 30 ∧ FlAt 181 w0.heap.size w' g gw fc s ∧ (∃ z, w2.heap.size ≤ z ∧ z ≤ p ∧ JAt (fun k => k < z ∨ k = p) w0.heap.size w' p g (jopF s.ws 1)) ∧ s.off = false ∧ Num s 1024 (72 * i) ∧
      Own 42 u32v w0.heap.size w' ra rc ws ∧ Beside 1 ws s.ws ∧ Ext w0 w') (fun t => 30 - t.1)
    (0, p0, s0) ⟨rfl, rfl, rfl, rfl, rfl, trivial⟩ ⟨Nat.zero_le _, Nat.zero_le _, (hf.base z1).ext x3, ⟨_, Nat.le_refl _, hp0, hj.base (by omega)⟩, so, sn, ho2.ext x3, by rw [sw]; exact Beside.refl _ _, x03⟩ ?_
  rintro ⟨i, p, s⟩ w4 ⟨hi, hi30, f4, ⟨z, hz1, hz2, j4⟩, so4, sn4, ho4, hbs, x4⟩
  conv => whnf
  refine vcReg_meet lok (fun β : Bool => [(65, .bool β)]) (fun β w' => w' = w4 ∧ β = decide (i < xs.length ∧ i < 30)) [65] (fun _ => rfl) rfl ?_ ?_
  · conv => whnf
    refine bcase (fun h1 => ?_) (fun h1 => ?_)
    · have h1 := dt h1
      conv => whnf
      refine ⟨_, ⟨rfl, trivial⟩, rfl, ?_⟩
      rw [decide_eq_decide]; omega
    · have h1 := df h1
      conv => whnf
      exact ⟨_, ⟨rfl, trivial⟩, rfl, by rw [eq_comm, decide_eq_false_iff_not]; omega⟩
  rintro β w5 ⟨hw5, hβ⟩
  subst hw5
  conv => whnf
  refine vcCond_split lok rfl (fun h1 => ?_) (fun h1 => ?_)
  rotate_left
  · rw [h1] at hβ
    have hsl := sn4.len
    conv => whnf
    refine Calls.ret (fwordsN_calls f4 sn4.len (by decide)) ?_
    rintro _ w6 ⟨a6, c6, rfl, ho6, x6⟩
    conv => whnf
    have ho46 := ho4.ext x6
    refine vcDraw_go lok mixed (fun _ => True) [] [0, 1, 2, 3, 4, 5, 6, 7, 8, 9, 10, 11, 12, 13, 14, 15, 16, 17, 18, 19, 20, 21, 22] (by kernel_rfl) (fun w7 hw7 => ⟨trivial, ?_⟩)
    have x7 : Ext w6 w7 := hw7 ▸ Ext.drew w6
    clear hw7
    have hs7 := (ho6.ext x7).sl
    have ht7 := (ho46.ext x7).sl
    have hc6 := ho6.le
    have hcr := ho46.le
    have eq1 : s.ws.take 256 = ws.take 256 := by
      apply ext0
      · rw [List.length_take, List.length_take]; omega
      · intro k hk
        rw [List.length_take] at hk
        rw [take_get0 _ _ _ (by omega), take_get0 _ _ _ (by omega)]
        exact hbs.2 k (.inl (by omega))
    have eq2 : s.ws.drop 768 = ws.drop 768 := by
      apply ext0
      · rw [List.length_drop, List.length_drop]; omega
      · intro k hk
        rw [drop_get0, drop_get0]
        exact hbs.2 (768 + k) (.inr (by omega))
    conv => whnf
    refine bcase (fun _ => ?_) (fun k => absurd (of_decide_eq_false k) (fun q => q (by omega)))
    have hA := hs7.take 256
    have hB := ht7.take 256
    have hC := hs7.drop 768 c6 (by omega)
    have hD := ht7.drop 768 rc (by omega)
    rw [eq1] at hA
    rw [eq2] at hC
    have tkl : (ws.take 256).length = 256 := by rw [List.length_take]; omega
    have drl : (ws.drop 768).length = 256 := by rw [List.length_drop]; omega
    generalize ws.take 256 = tk at *
    generalize ws.drop 768 = dr at *
    conv => whnf
    refine ⟨⟨by omega, by omega⟩, ?_⟩
    rw [show (256 : Int).toNat = tk.length from tkl.symm]
    conv => whnf
    refine ⟨⟨by omega, by omega⟩, ?_⟩
    rw [show (256 : Int).toNat = tk.length from tkl.symm]
    conv => whnf
    refine Calls.ret (same_calls hA hB (by omega)) ?_
    rintro _ w8 ⟨rfl, x8⟩
    conv => whnf
    refine bcase (fun _ => ?_) (fun k => absurd rfl (of_decide_eq_false k))
    conv => whnf
    refine ⟨⟨by omega, by omega, by omega⟩, ?_⟩
    intro b1 hb1
    have hb1 : b1 = if c6 = 768 then a6 else a6.map (·.add (768 * 1)) := hb1
    rw [← hb1] at hC
    clear hb1
    rw [show 1024 - (768 : Int).toNat = dr.length from drl.symm]
    conv => whnf
    refine ⟨⟨by omega, by omega, by omega⟩, ?_⟩
    intro b2 hb2
    have hb2 : b2 = if rc = 768 then ra else ra.map (·.add (768 * 1)) := hb2
    rw [← hb2] at hD
    clear hb2
    rw [show ws.length - (768 : Int).toNat = dr.length from by rw [drl, hw1024]; rfl]
    conv => whnf
    refine Calls.ret (same_calls (hC.ext x8) (hD.ext x8) (by omega)) ?_
    rintro _ w9 ⟨rfl, x9⟩
    conv => whnf
    refine bcase (fun _ => ?_) (fun k => absurd rfl (of_decide_eq_false k))
    conv => whnf
    refine Calls.ret (known07) ?_
    rintro _ w10 ⟨rfl, x10⟩
    conv => whnf
    exact ⟨rfl, x4.trans (x6.trans (x7.trans (x8.trans (x9.trans x10))))⟩
  rw [h1] at hβ
  have hlt2 := dt hβ.symm
  have hixs : i < xs.length := hlt2.1
  have hox := hok xs[i] (List.getElem_mem hixs)
  conv => whnf
  have g5 := h.at i hixs
  generalize xs[i] = x at *
  obtain ⟨pp, oo, hpa, hcell0⟩ := g5
  have hcell : ∀ k v, x.cells[k]? = some v → w5.cell? ⟨pp, oo + i * 4 + k, none⟩ = some v := fun k v hv => Below.cell_of (w := w0) x4 (cell_lt (hcell0 k v hv)) (hcell0 k v hv)
  refine ⟨pp, oo, hpa, ⟨by omega, by omega⟩, ?_⟩
  conv => whnf
  refine ⟨_, hcell 0 _ rfl, ?_⟩
  conv => whnf
  refine ⟨by decide, ?_⟩
  intro zk hzk
  clear hzk
  conv => whnf
  have hpz := j4.nt p j4.self
  have hgz : g < w5.heap.size := f4.lt.1
  have hgwz : gw < w5.heap.size := f4.lt.2.1
  refine vcCond_meet (fun _ : Unit => [(11, .int .i64 i), (8, .pointer (some ⟨g, 0, none⟩)), (9, .pointer (some ⟨p, 0, none⟩)), (5, .slice ra ws.length rc), (1, .slice a xs.length c)])
    (fun _ w' => ∃ s2, FlAt 181 w0.heap.size w' g gw fc s2 ∧ s2.ws = s.ws ∧ s2.off = false ∧ Num s2 1024 (72 * i + 1) ∧ FlMod g gw w5 w') ?_ ?_
  · refine vcCond_split lok rfl (fun h3 => ?_) (fun h3 => ?_)
    · conv => whnf
      refine vcDraw_go lok mixed (Ext w5) [6] [0, 1, 2, 3, 4, 5, 7, 8, 9, 10, 11, 6, 12] (by kernel_rfl) (fun w9 hw9 => ⟨hw9 ▸ Ext.drew w5, ?_⟩)
      have x9 : Ext w5 w9 := hw9 ▸ Ext.drew w5
      clear hw9
      conv => whnf
      refine ⟨pp, oo, hpa, ⟨by omega, by omega⟩, ?_⟩
      conv => whnf
      refine ⟨_, fun w' hw' => Below.cell_of hw' (cell_lt (hcell 2 _ rfl)) (hcell 2 _ rfl), ?_⟩
      conv => whnf
      refine ⟨pp, oo, hpa, ⟨by omega, by omega⟩, ?_⟩
      conv => whnf
      refine ⟨_, fun w' hw' => Below.cell_of hw' (cell_lt (hcell 3 _ rfl)) (hcell 3 _ rfl), ?_⟩
      conv => whnf
      refine Calls.ret (count_calls x.n 100 hox.n (by decide) (by decide)) ?_
      rintro _ w10 ⟨rfl, hw10⟩
      subst hw10
      refine ⟨_, fun _ h => h, x9, ?_⟩
      conv => whnf
      have hc0 := Int.emod_nonneg x.n (show (100 : Int) ≠ 0 by decide)
      have hc1 := Int.emod_lt_of_pos x.n (show (0 : Int) < 100 by decide)
      have g11 := cut_calls (f4.ext x9) (x.n % 100) x.m
      have ec2 : cutF s (x.n % 100) x.m = ({ s with left := x.n % 100, mask := x.m }, 0) := by unfold cutF; rw [if_neg (by omega)]
      have sn2 := sn4.cut (x.n % 100) (by omega) x.m
      rw [ec2] at g11 sn2
      refine Calls.ret (g11) ?_
      rintro _ w11 ⟨rfl, f11, m11⟩
      conv => whnf
      exact ⟨(), ⟨rfl, rfl, rfl, rfl, rfl, trivial⟩, _, f11, rfl, so4, sn2, (Mod.ofExt _ x9).trans m11⟩
    · conv => whnf
      exact ⟨(), ⟨rfl, rfl, rfl, rfl, rfl, trivial⟩, s, f4, rfl, so4, sn4.up (by omega), Mod.refl _ _⟩
  rintro ⟨⟩ w9 ⟨s2, f9, sw2, so2, sn2, m9⟩
  have pF : ∀ k, (k = g ∨ k = gw) → (k < z ∨ k = p) := fun k e => .inl (by rcases e with rfl | rfl <;> omega)
  have npF : ¬ (p = g ∨ p = gw) := fun e => by rcases e with e | e <;> omega
  have j9 := j4.keep m9 pF npF
  have ho9 := m9.keepOwn ho4 (fun b hb e => by have := hob b hb; have := hf.lo; have := hlt.2.2; rcases e with e | e <;> omega)
  have x09 := FlMod.above m9 x4 (by omega) (by omega)
  rw [← sw2] at j9 hbs
  conv => whnf
  refine ⟨pp, oo, hpa, ⟨by omega, by omega⟩, ?_⟩
  conv => whnf
  refine ⟨_, Below.cell_of (w := w0) x09 (cell_lt (hcell0 1 _ rfl)) (hcell0 1 _ rfl), ?_⟩
  conv => whnf
  have hS : ∀ k, (k = g ∨ k = gw ∨ k = p) → w0.heap.size ≤ k := fun k hk => by have := j9.lo; rcases hk with e | e | e <;> omega
  have slen2 := sn2.len
  have jok := jop_ok (s := s2) (n := 1) (by omega)
  have gap := jappend_calls (rc := x.rc) (rec := x.words) (ra := x.ra) f9 j9 (.inl (by omega)) (.inl (by omega)) (by omega) (by omega) jok (by omega) (by rw [slen2]; exact sn2) (by omega) (fun w' m => hox.sl.ext (m.above x09 hS)) hox.cap
  have hbt := append_beside (s := s2) (n := 1) (by omega) so2 x.words
  have num9 := append_num (j := jopF s2.ws 1) (rec := x.words) sn2
  generalize appendF (jopF s2.ws 1) s2 x.words = A at *
  obtain ⟨jA, t, e⟩ := A
  have hbt : Beside 1 s2.ws t.ws := hbt
  have num9 : Num t 1024 (72 * i + 70) := num9.up (by omega)
  refine Calls.ret (gap) ?_
  rintro _ w10 ⟨rfl, f10, _, m10⟩
  conv => whnf
  have f10 : FlAt 181 w0.heap.size w10 g gw fc t := f10
  have ho10 := m10.keepOwn ho9 (fun b hb e => by have := hob b hb; have := hf.lo; have := hlt.2.2; rcases e with e | e | e <;> omega)
  have x010 := m10.above x09 hS
  refine Calls.ret (start_calls f10) ?_
  rintro _ w12 ⟨rfl, f12, m12⟩
  conv => whnf
  have so12 : (startF t).off = false := rfl
  have sw12 : (startF t).ws = t.ws := rfl
  have sn12 := num9.start
  generalize startF t = t2 at *
  have ho12 := m12.keepOwn ho10 (fun b hb e => by have := hob b hb; have := hf.lo; have := hlt.2.2; rcases e with e | e <;> omega)
  have x012 := FlMod.above m12 x010 (by omega) (by omega)
  have hl12 := sn12.len
  refine Calls.ret (jopen_calls f12 (by omega) 1) ?_
  rintro _ w13 hp
  conv => whnf
  rcases hp with ⟨hno, _⟩ | ⟨_, hno, _⟩ | ⟨_, _, _, p2, rfl, hj13, x13⟩
  · rw [so12] at hno; cases hno
  · exact absurd ⟨by decide, by omega⟩ hno
  have hj13 : JAt (fun k => k < w12.heap.size ∨ k = p2) w12.heap.size w13 p2 g (jopF t2.ws 1) := hj13
  have hp2 := hj13.lo
  have zz1 := x012.size
  have hz12 : w2.heap.size ≤ w12.heap.size := by
    have q1 := x4.size
    have q2 := f12.lt
    have q3 := m9.size
    have q4 := m10.size
    have q5 := m12.size
    omega
  conv => whnf
  refine vcReg_go lok ?_
  conv => whnf
  refine vcCond_false lok (rfl) ?_
  conv => whnf
  refine ⟨by omega, ?_⟩
  conv => whnf
  exact ⟨(i + 1, p2, t2), ⟨rfl, rfl, rfl, rfl, rfl, trivial⟩, ⟨by omega, by omega, f12.ext x13, ⟨w12.heap.size, hz12, hp2, hj13.base (by omega)⟩, so12, sn12.up (by omega), ho12.ext x13, by rw [sw12]; exact hbs.trans hbt, x012.trans x13⟩, by show 30 - (i + 1) < 30 - i; omega⟩
end Go.Proofs.Ytgipackjnncabaa
