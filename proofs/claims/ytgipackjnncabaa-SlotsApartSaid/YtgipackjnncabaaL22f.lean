/- Scripts of the slots' laws; the law SlotsApart, walked. -/
import Derived.Test.YtgipackjnncabaaL22e
import Derived.Test.YtgipackjnncabaaL03b
set_option linter.unusedVariables false
namespace Go.Proofs.Ytgipackjnncabaa
open Go.Vc Go.RowKit

/-- what is done to a slot: its cells, and what they read as -/
structure O22 where
  kind : Int
  slot : Int
  n : Int
  m : BitVec 32
  bytes : List (BitVec 8)
  ba : Option Addr
  bc : Nat
def O22.cells (e : O22) : List Value := [.int .i64 e.kind, .int .i64 e.slot, .int .i64 e.n, u32v e.m, .slice e.ba e.bytes.length e.bc]
structure O22Ok (w : World) (e : O22) : Prop where
  sl : Sl u8v w e.ba e.bytes
  cap : e.bytes.length ≤ 9223372036854775807
  kind : -9223372036854775808 ≤ e.kind ∧ e.kind ≤ 9223372036854775807
  slot : -9223372036854775808 ≤ e.slot ∧ e.slot ≤ 9223372036854775807
  n : -9223372036854775808 ≤ e.n ∧ e.n ≤ 9223372036854775807
theorem O22.one (e : O22) : ∀ u ∈ e.cells, u.oneCell' = true := by
  intro u hu
  simp only [O22.cells, List.mem_cons, List.not_mem_nil, or_false] at hu
  rcases hu with rfl | rfl | rfl | rfl | rfl <;> rfl

theorem fit_o22 {w : World} {es : List Value} (h : Fit w (.st (.pair 1 (.int .i64) (.pair 1 (.int .i64) (.pair 1 (.int .i64) (.pair 1 (.int .u32) (.pair 1 (.slice 1 (.int .u8)) .unit)))))) es) : ∃ e : O22, es = e.cells ∧ O22Ok w e := by
  obtain ⟨c1, r1, e1, _, ⟨n1, h1, k1⟩, c2, r2, e2, _, ⟨n2, h2, k2⟩, c3, r3, e3, _, ⟨n3, h3, k3⟩, c4, r4, e4, _, ⟨n4, h4, k4⟩, c5, r5, e5, _, h5, h6⟩ := h
  have h6 : r5 = [] := h6
  obtain ⟨a, len, cap, hs, hl1, hl2, hl3⟩ := h5
  have hcap := fit_cap (w := w) (m := 1) (s := .int .u8) (a := a) (len := len) (cap := cap) ⟨a, len, cap, rfl, hl1, hl2, hl3⟩
  have g := fit_u8 (w := w) (a := a) (len := len) (cap := cap) ⟨a, len, cap, rfl, hl1, hl2, hl3⟩
  obtain ⟨bs, eb, sb, cb⟩ := g
  obtain ⟨m, hm⟩ := wf_u32 k4
  refine ⟨⟨n1, n2, n3, m, bs, a, cap⟩, ?_, sb, by show bs.length ≤ _; omega, wf_i64 k1, wf_i64 k2, wf_i64 k3⟩
  rw [e1, e2, e3, e4, e5, h1, h2, h3, h4, hs, h6, hm, ← eb, List.append_nil]
  rfl

/-- light -/
theorem light22_calls {w : World} {a : Option Addr} {c : Nat} {xs : List O22} (h : SlN 5 O22.cells w a xs) (hl : xs.length ≤ 9223372036854775807) :
    Calls Try.prog 133 #[.slice a xs.length c] w (Ret fun v w' => w' = w ∧ ∃ β, v = .bool β ∧ (β = true → ∀ i (hi : i < xs.length), i < 60 → xs[i].bytes.length ≤ 300)) := by
  refine calls_of_vc lok Try.func133 ?_ rfl
  conv => whnf
  refine vcLoop_inv lok (σ := Nat)
    (fun i => [(3, .int .i64 i), (0, .slice a xs.length c)])
    (fun i w1 => w1 = w ∧ i ≤ xs.length ∧ i ≤ 60 ∧ ∀ k (hk : k < xs.length), k < i → xs[k].bytes.length ≤ 300) (fun i => 60 - i)
    0 ⟨rfl, rfl, trivial⟩ ⟨rfl, Nat.zero_le _, Nat.zero_le _, fun k _ hk => absurd hk (Nat.not_lt_zero _)⟩ ?_
  rintro i w1 ⟨hw1, hi, hi40, hall⟩
  subst hw1
  conv => whnf
  refine vcReg_meet lok (fun β : Bool => [(11, .bool β)]) (fun β w' => w' = w1 ∧ β = decide (i < xs.length ∧ i < 60)) [11] (fun _ => rfl) rfl ?_ ?_
  · conv => whnf
    refine bcase (fun h1 => ?_) (fun h1 => ?_)
    · have h1 := dt h1
      conv => whnf
      refine ⟨_, ⟨rfl, trivial⟩, rfl, ?_⟩
      rw [decide_eq_decide]; omega
    · have h1 := df h1
      conv => whnf
      exact ⟨_, ⟨rfl, trivial⟩, rfl, by rw [eq_comm, decide_eq_false_iff_not]; omega⟩
  rintro β w2 ⟨hw2, hβ⟩
  subst hw2
  conv => whnf
  refine vcCond_split lok rfl (fun h1 => ?_) (fun h1 => ?_)
  · rw [h1] at hβ
    have hlt := dt hβ.symm
    have g5 := h.at i hlt.1
    obtain ⟨p, o, ha, hcell⟩ := g5
    conv => whnf
    refine ⟨p, o, ha, ⟨by omega, by omega⟩, ?_⟩
    conv => whnf
    refine ⟨_, hcell 4 _ rfl, ?_⟩
    conv => whnf
    refine vcCond_split lok rfl (fun h2 => ?_) (fun h2 => ?_)
    · conv => whnf
      exact ⟨rfl, false, rfl, fun e => by cases e⟩
    · have h2 := df h2
      conv => whnf
      refine ⟨by omega, ?_⟩
      conv => whnf
      refine ⟨i + 1, ⟨rfl, rfl, trivial⟩, ⟨rfl, by omega, by omega, fun k hk hki => ?_⟩, by omega⟩
      by_cases e : k = i
      · subst e; omega
      · exact hall k hk (by omega)
  · rw [h1] at hβ
    have hlt := df hβ.symm
    conv => whnf
    refine ⟨rfl, true, rfl, fun _ k hk hk40 => ?_⟩
    exact hall k hk (by omega)

set_option maxRecDepth 100000 in
set_option maxHeartbeats 8000000 in
theorem slotsApart_walk {w : World} {la : Option Addr} {lc : Nat} {l : List (BitVec 32)} {a : Option Addr} {c : Nat} {xs : List O22} (hl32 : Sl u32v w la l) (hll : l.length ≤ 9223372036854775807) (sl : Bool)
    (h : SlN 5 O22.cells w a xs) (hl : xs.length ≤ 9223372036854775807) (hok : ∀ x ∈ xs, O22Ok w x) :
    Calls Try.prog 38 #[.slice la l.length lc, .bool sl, .slice a xs.length c] w (Law w) := by
  refine calls_of_vc lok Try.func38 ?_ rfl
  conv => whnf
  refine Calls.ret (light22_calls h hl) ?_
  rintro _ w0 ⟨hw0, β, rfl, _⟩
  conv => whnf
  subst hw0
  refine vcCond_split lok rfl (fun h1 => ?_) (fun h1 => ?_)
  · conv => whnf
    refine Calls.ret (known22) ?_
    rintro _ w1 ⟨rfl, x1⟩
    conv => whnf
    exact ⟨rfl, x1⟩
  clear h1
  conv => whnf
  refine vcCond_meet (fun k : Nat => [(7, .int .i64 k), (0, .slice la l.length lc), (2, .slice a xs.length c)]) (fun k w' => w' = w0 ∧ k ≤ 1) ?_ ?_
  · refine vcCond_split lok rfl (fun h1 => ?_) (fun h1 => ?_)
    · conv => whnf
      exact ⟨1, ⟨rfl, rfl, rfl, trivial⟩, rfl, Nat.le_refl _⟩
    · conv => whnf
      exact ⟨0, ⟨rfl, rfl, rfl, trivial⟩, rfl, Nat.zero_le _⟩
  rintro k w1 ⟨hw1, hk⟩
  subst hw1
  conv => whnf
  refine vcLoop_inv lok (σ := Nat × Option Addr × Nat × List (BitVec 32))
    (fun ⟨i, ra, rc, ws⟩ => [(9, .int .i64 i), (8, .slice ra ws.length rc), (7, .int .i64 k), (0, .slice la l.length lc), (2, .slice a xs.length c)])
    (fun ⟨i, ra, rc, ws⟩ w' => i ≤ 2048 ∧ ws.length = i ∧ Own 42 u32v w1.heap.size w' ra rc ws ∧ Ext w1 w') (fun t => 2048 - t.1)
    (0, none, 0, []) ⟨rfl, rfl, rfl, rfl, rfl, trivial⟩ ⟨Nat.zero_le _, rfl, Own.nil _ _ _ _, Ext.refl _⟩ ?_
  rintro ⟨i, ra, rc, ws⟩ w2 ⟨hi, hwl, ho2, x2⟩
  conv => whnf
  refine vcCond_split lok rfl (fun h2 => ?_) (fun h2 => ?_)
  · have h2 := dt h2
    conv => whnf
    refine vcCond_meet (fun y : BitVec 32 => [(10, .int .u32 y.toNat), (9, .int .i64 i), (8, .slice ra ws.length rc), (7, .int .i64 k), (0, .slice la l.length lc), (2, .slice a xs.length c)]) (fun y w' => w' = w2) ?_ ?_
    · refine vcCond_split lok rfl (fun h3 => ?_) (fun h3 => ?_)
      · have h3 := dt h3
        conv => whnf
        refine ⟨by omega, ?_⟩
        intro z hz
        have hz31 : z = ((i % l.length : Nat) : Int) := by rw [hz]; exact rem_nat i l.length
        clear hz
        subst hz31
        conv => whnf
        have hix : i % l.length < l.length := Nat.mod_lt _ (by omega)
        have g32 := sl_get ((hl32.ext x2)) (((i % l.length : Nat) : Int)) (i % l.length) (by omega) (by omega)
        obtain ⟨p32, o32, ha32, hb32, hcell32⟩ := g32
        refine ⟨p32, o32, ha32, hb32, ?_⟩
        conv => whnf
        refine ⟨_, hcell32, ?_⟩
        conv => whnf
        exact ⟨_, ⟨rfl, rfl, rfl, rfl, rfl, rfl, trivial⟩, rfl⟩
      · conv => whnf
        exact ⟨ones, ⟨rfl, rfl, rfl, rfl, rfl, rfl, trivial⟩, rfl⟩
    rintro y w3 hw3
    subst hw3
    conv => whnf
    have g6 := run_word w3 y
    obtain ⟨w6, hr6, ho6, x6⟩ := g6
    refine ⟨_, _, hr6, ?_⟩
    conv => whnf
    have z6 := x6.size
    have z2 := x2.size
    have g7 := run_app (ty := 37) (d := 1) (ho2.ext x6) ho6.sl (by simp; omega) (by omega)
    obtain ⟨a7, c7, w7, hr7, ho7, hg7⟩ := g7
    refine ⟨_, _, hr7, ?_⟩
    have x7 : Ext w1 w7 := hg7.extOf (x2.trans x6) (fun g hg => (ho2.ge g hg).1)
    have el : (ws ++ [y]).length = i + 1 := by rw [List.length_append, hwl]; rfl
    have gy : ∃ ys, ys = ws ++ [y] := ⟨_, rfl⟩
    obtain ⟨ys, hys⟩ := gy
    rw [← hys] at ho7 el ⊢
    conv => whnf
    refine ⟨by omega, ?_⟩
    conv => whnf
    exact ⟨(i + 1, a7, c7, ys), ⟨rfl, rfl, rfl, rfl, rfl, trivial⟩, ⟨by omega, el, ho7, x7⟩, by show 2048 - (i + 1) < 2048 - i; omega⟩
  have h2 := df h2
  conv => whnf
  have hw2048 : ws.length = 2048 := by omega
  clear h2 hi hwl
  refine Calls.ret (of_big ho2.sl (by omega)) ?_
  rintro _ w3 hp
  conv => whnf
  rcases hp with ⟨_, g, gw, fc, rfl, f3, x3⟩ | ⟨hno, _⟩
  rotate_left
  · rw [hw2048] at hno; exact absurd hno (by decide)
  have sw0 : (newFS ws).ws = ws := rfl
  have sn0 : Num (newFS ws) 2048 0 := ⟨hw2048, ⟨Int.le_refl _, Int.le_refl _⟩, by show (-1 : Int) ≤ _; decide⟩
  have gs0 : ∃ s0, s0 = newFS ws := ⟨_, rfl⟩
  obtain ⟨s0, hs0⟩ := gs0
  rw [← hs0] at f3 sw0 sn0
  clear hs0
  have l0 := sn0.len
  have f3lo := f3.lo
  have f3lt := f3.lt
  have z2 := x2.size
  have x03 := x2.trans x3
  have ho3 := ho2.ext x3
  have oge := fun b hb => (ho2.ge b hb).2
  conv => whnf
  refine Calls.ret (sopen_calls f3 (by omega) 1) ?_
  rintro _ w4 hp
  conv => whnf
  rcases hp with ⟨hno, _, _⟩ | ⟨m, hm, _, sb, rfl, hsb, S4, x4⟩
  · exact absurd ⟨by decide, by rw [l0]; decide⟩ hno
  have hm0 : m = 1 := by omega
  subst hm0
  clear hm
  have hat : atF 1 ((k : Nat) : Int) = 256 + 768 * k := by unfold atF; omega
  have S4' : SlAt w1.heap.size w4 sb g gw fc 1 s0 := ⟨S4.f.base (by omega), S4.b, S4.n1, S4.n2, S4.room, S4.small⟩
  clear S4
  have x04 := x03.trans x4
  have ho4 := ho3.ext x4
  conv => whnf
  refine vcReg_go lok ?_
  conv => whnf
  refine vcCond_false lok (rfl) ?_
  conv => whnf
  refine vcLoop_inv lok (σ := Nat × FS)
    (fun ⟨i, s⟩ => [(14, .int .i64 i), (11, .pointer (some ⟨g, 0, none⟩)), (12, .pointer (some ⟨sb, 0, none⟩)), (8, .slice ra ws.length rc), (7, .int .i64 k), (2, .slice a xs.length c)])
    (fun ⟨i, s⟩ w' => i ≤ xs.length ∧ i ≤ 40 ∧ SlAt w1.heap.size w' sb g gw fc 1 s ∧ Num s 2048 (18 * i) ∧ Own 42 u32v w1.heap.size w' ra rc ws ∧ Out (atF 1 k) (atF 1 k + 768) ws s.ws ∧ Ext w1 w') (fun t => 40 - t.1)
    (0, s0) ⟨rfl, rfl, rfl, rfl, rfl, rfl, trivial⟩ ⟨Nat.zero_le _, Nat.zero_le _, S4', sn0, ho4, by rw [sw0]; exact Out.refl _ _ _, x04⟩ ?_
  rintro ⟨i, s⟩ w5 ⟨hi, hi40, S5, sn5, ho5, hos, x5⟩
  conv => whnf
  refine vcReg_meet lok (fun β : Bool => [(61, .bool β)]) (fun β w' => w' = w5 ∧ β = decide (i < xs.length ∧ i < 40)) [61] (fun _ => rfl) rfl ?_ ?_
  · conv => whnf
    refine bcase (fun h1 => ?_) (fun h1 => ?_)
    · have h1 := dt h1
      conv => whnf
      refine ⟨_, ⟨rfl, trivial⟩, rfl, ?_⟩
      rw [decide_eq_decide]; omega
    · have h1 := df h1
      conv => whnf
      exact ⟨_, ⟨rfl, trivial⟩, rfl, by rw [eq_comm, decide_eq_false_iff_not]; omega⟩
  rintro β w6 ⟨hw6, hβ⟩
  subst hw6
  conv => whnf
  refine vcCond_split lok rfl (fun h1 => ?_) (fun h1 => ?_)
  rotate_left
  · -- the words told
    clear h1 hβ
    have hsl := sn5.len
    conv => whnf
    refine Calls.ret (fwordsN_calls S5.f sn5.len (by decide)) ?_
    rintro _ w7 ⟨a7, c7, rfl, ho7, x7⟩
    conv => whnf
    have ho67 := ho5.ext x7
    conv => whnf
    refine vcCond_split lok rfl (fun h6 => ?_) (fun h6 => ?_)
    · rw [hw2048] at h6; exact absurd h6 (by decide)
    clear h6
    conv => whnf
    refine vcLoop_inv lok (σ := Nat)
      (fun i => [(17, .int .i64 i), (16, .slice a7 2048 c7), (8, .slice ra ws.length rc), (7, .int .i64 k)])
      (fun i w' => i ≤ 2048 ∧ Ext w7 w') (fun i => 2048 - i)
      0 ⟨rfl, rfl, rfl, rfl, trivial⟩ ⟨Nat.zero_le _, Ext.refl _⟩ ?_
    rintro j w8 ⟨hj, x8⟩
    conv => whnf
    refine vcCond_split lok rfl (fun h7 => ?_) (fun h7 => ?_)
    rotate_left
    · conv => whnf
      refine Calls.ret (known22) ?_
      rintro _ w10 ⟨rfl, x10⟩
      conv => whnf
      exact ⟨rfl, x5.trans (x7.trans (x8.trans x10))⟩
    have h7 := dt h7
    conv => whnf
    refine vcReg_meet lok (fun β : Bool => [(135, .bool β)]) (fun β w' => w' = w8 ∧ (β = false → j < 256 + 768 * k ∨ 256 + 768 * k + 768 ≤ j)) [135] (fun _ => rfl) rfl ?_ ?_
    · conv => whnf
      refine ⟨by decide, ?_⟩
      intro z hz
      replace hz := hz.trans (quo256 j (by omega))
      subst hz
      conv => whnf
      refine ⟨by omega, ?_⟩
      conv => whnf
      refine ⟨by omega, ?_⟩
      conv => whnf
      refine bcase (fun k1 => ?_) (fun k1 => ?_)
      · have k1 := dt k1
        conv => whnf
        refine ⟨by decide, ?_⟩
        intro z hz
        replace hz := hz.trans (quo256 j (by omega))
        subst hz
        conv => whnf
        refine ⟨by omega, ?_⟩
        conv => whnf
        refine ⟨by omega, ?_⟩
        conv => whnf
        refine ⟨_, ⟨rfl, trivial⟩, rfl, fun q => ?_⟩
        have q := of_decide_eq_false q
        omega
      · have k1 := df k1
        conv => whnf
        exact ⟨_, ⟨rfl, trivial⟩, rfl, fun q => by omega⟩
    rintro β w9 ⟨hw9, hβ⟩
    subst hw9
    conv => whnf
    refine vcCond_split lok rfl (fun h8 => ?_) (fun h8 => ?_)
    · conv => whnf
      refine ⟨by omega, ?_⟩
      conv => whnf
      exact ⟨j + 1, ⟨rfl, rfl, rfl, rfl, trivial⟩, ⟨by omega, x8⟩, by omega⟩
    · have hout := hβ h8
      clear hβ h8
      have hsw : s.ws.getD j 0#32 = ws.getD j 0#32 := hos.2 j (by rw [hat]; exact hout)
      conv => whnf
      refine vcDraw_go lok mixed (fun w' => w' = w9.drew) [] [0, 1, 2, 3, 4, 5, 6, 7, 8] (by kernel_rfl) (fun w10 hw10 => ⟨hw10, ?_⟩)
      have x10 : Ext w9 w10 := hw10 ▸ Ext.drew w9
      have h1s := (ho7.ext (x8.trans x10)).sl
      have h2s := (ho67.ext (x8.trans x10)).sl
      conv => whnf
      have g11 := sl_get h1s (j : Int) j rfl (by omega)
      obtain ⟨p11, o11, ha11, hb11, hcell11⟩ := g11
      refine ⟨p11, o11, ha11, ⟨by omega, by omega⟩, ?_⟩
      conv => whnf
      refine ⟨_, fun w' hw' => by rw [hw', ← hw10]; exact hcell11, ?_⟩
      conv => whnf
      have g78 := sl_get (h2s) ((j : Int)) (j) (by omega) (by omega)
      obtain ⟨p78, o78, ha78, hb78, hcell78⟩ := g78
      refine ⟨p78, o78, ha78, hb78, ?_⟩
      conv => whnf
      refine ⟨_, fun w' hw' => by rw [hw', ← hw10]; exact hcell78, ?_⟩
      conv => whnf
      rw [hsw]
      refine vcCond_split lok rfl (fun h9 => ?_) (fun h9 => ?_)
      · exact absurd h9 (by simp)
      conv => whnf
      refine ⟨by omega, ?_⟩
      conv => whnf
      exact ⟨j + 1, ⟨rfl, rfl, rfl, rfl, trivial⟩, ⟨by omega, x8.trans x10⟩, by omega⟩
  rw [h1] at hβ
  have hlt2 := dt hβ.symm
  clear hβ h1
  have hixs : i < xs.length := hlt2.1
  have hox := hok xs[i] (List.getElem_mem hixs)
  conv => whnf
  have g5 := (h.ext x5).at i hixs
  have gx : ∃ x, x = xs[i] := ⟨_, rfl⟩
  obtain ⟨x, hx⟩ := gx
  rw [← hx] at g5 hox
  clear hx
  obtain ⟨pp, oo, hpa, hcell⟩ := g5
  refine ⟨pp, oo, hpa, ⟨by omega, by omega⟩, ?_⟩
  conv => whnf
  refine ⟨x.cells, rfl, hcell, ?_⟩
  conv => whnf
  intro w8 hw8
  have hb8 : Blk w8 w6.heap.size 171 [.int .i64 0, .int .i64 0, .int .i64 0, .int .u32 0, .slice none 0 0] := by rw [hw8]; exact Blk.new w6 171 _
  have y8 : Ext w6 w8 := by rw [hw8]; exact Ext.new _ _
  clear hw8
  conv => whnf
  have k9 := Blk.storeAgg lok hb8 (t := 171) (us := x.cells) rfl 0 (Nat.le_refl 5) (O22.one x)
  obtain ⟨w9, hr9, ho9, hg9⟩ := k9
  have y9 : Ext w6 w9 := hg9.extOf y8 (fun g hg => by cases hg; exact Nat.le_refl _)
  have ho9 : Blk w9 w6.heap.size 171 x.cells := ho9
  refine ⟨w9, hr9, ?_⟩
  have S9 := S5.ext y9
  have x09 := x5.trans y9
  clear hr9 hg9 y8 hb8 hcell
  have r1 := S5.f.lt
  have r3 := S5.f.lo
  have r8 := ho9.lt
  have slen := sn5.len
  have gbo : ∃ bo, bo = w6.heap.size := ⟨_, rfl⟩
  obtain ⟨bo, hbo⟩ := gbo
  rw [← hbo] at ho9 r8 ⊢
  conv => whnf
  refine ⟨_, ho9.cell (i := 0) rfl, ?_⟩
  conv => whnf
  refine vcCond_meet (fun _ : Unit => [(14, .int .i64 i), (11, .pointer (some ⟨g, 0, none⟩)), (12, .pointer (some ⟨sb, 0, none⟩)), (8, .slice ra ws.length rc), (7, .int .i64 k), (2, .slice a xs.length c)])
    (fun _ w' => ∃ s', SlAt w1.heap.size w' sb g gw fc 1 s' ∧ Num s' 2048 (18 * i + 17) ∧ FlMod g gw w9 w' ∧ Out (atF 1 k) (atF 1 k + 768) s.ws s'.ws) ?_ ?_
  · refine vcCond_split lok rfl (fun h2 => ?_) (fun h2 => ?_)
    · -- Begin
      conv => whnf
      refine ⟨_, ho9.cell (i := 3) rfl, ?_⟩
      conv => whnf
      refine ⟨_, ho9.cell (i := 2) rfl, ?_⟩
      conv => whnf
      refine Calls.ret (sbegin_calls S9 k x.m x.n (by rw [slen]; exact sn5) (by omega)) ?_
      rintro _ w10 ⟨rfl, S10, m10⟩
      conv => whnf
      exact ⟨(), ⟨rfl, rfl, rfl, rfl, rfl, rfl, trivial⟩, _, S10, begin_num sn5, m10, begin_out _ _⟩
    clear h2
    conv => whnf
    refine vcCond_split lok rfl (fun h2 => ?_) (fun h2 => ?_)
    · -- Write
      conv => whnf
      refine ⟨_, ho9.cell (i := 2) rfl, ?_⟩
      conv => whnf
      refine ⟨_, ho9.cell (i := 4) rfl, ?_⟩
      conv => whnf
      refine Calls.ret (swrite_calls S9 k x.n (hox.sl.ext x09) hox.cap (by rw [slen]; exact sn5) (by omega)) ?_
      rintro _ w10 ⟨rfl, S10, m10⟩
      conv => whnf
      exact ⟨(), ⟨rfl, rfl, rfl, rfl, rfl, rfl, trivial⟩, _, S10, write_num sn5, m10, write_out _ _⟩
    clear h2
    conv => whnf
    refine vcCond_split lok rfl (fun h2 => ?_) (fun h2 => ?_)
    · -- Seal
      conv => whnf
      refine Calls.ret (sseal_calls S9 k (by rw [slen]; exact sn5) (by omega)) ?_
      rintro _ w10 ⟨rfl, S10, m10⟩
      conv => whnf
      exact ⟨(), ⟨rfl, rfl, rfl, rfl, rfl, rfl, trivial⟩, _, S10, seal_num sn5, m10, seal_out⟩
    clear h2
    conv => whnf
    refine vcCond_split lok rfl (fun h2 => ?_) (fun h2 => ?_)
    · -- Drop
      conv => whnf
      refine Calls.ret (sdrop_calls S9 k (by rw [slen]; exact sn5) (by omega)) ?_
      rintro _ w10 ⟨rfl, S10, m10⟩
      conv => whnf
      exact ⟨(), ⟨rfl, rfl, rfl, rfl, rfl, rfl, trivial⟩, _, S10, drop_num sn5, m10, drop_out⟩
    clear h2
    conv => whnf
    refine vcCond_split lok rfl (fun h2 => ?_) (fun h2 => ?_)
    · -- Cut
      conv => whnf
      refine vcDraw_go lok mixed (Ext w9) [3] [0, 1, 2, 4, 5, 3, 6] (by kernel_rfl) (fun w10 hw10 => ⟨hw10 ▸ Ext.drew w9, ?_⟩)
      have x10 : Ext w9 w10 := hw10 ▸ Ext.drew w9
      clear hw10
      conv => whnf
      refine ⟨_, fun w' hw' => (ho9.ext hw').cell (i := 2) rfl, ?_⟩
      conv => whnf
      refine ⟨_, fun w' hw' => (ho9.ext hw').cell (i := 3) rfl, ?_⟩
      conv => whnf
      refine Calls.ret (count_calls x.n 40 hox.n (by decide) (by decide)) ?_
      rintro _ w11 ⟨rfl, hw11⟩
      subst hw11
      refine ⟨_, fun _ h => h, x10, ?_⟩
      conv => whnf
      have hc0 := Int.emod_nonneg x.n (show (40 : Int) ≠ 0 by decide)
      have hc1 := Int.emod_lt_of_pos x.n (show (0 : Int) < 40 by decide)
      have g11 := cut_calls (S9.ext x10).f (x.n % 40) x.m
      have sn2 := sn5.cut (x.n % 40) (by omega) x.m
      have ec2 : (cutF s (x.n % 40) x.m).1.ws = s.ws := by unfold cutF; split <;> rfl
      refine Calls.ret (g11) ?_
      rintro _ w12 ⟨rfl, f12, m12⟩
      conv => whnf
      exact ⟨(), ⟨rfl, rfl, rfl, rfl, rfl, rfl, trivial⟩, _, (S9.ext x10).next f12 m12 (by rw [ec2]), sn2.up (by omega), (Mod.ofExt _ x10).trans m12, by rw [ec2]; exact Out.refl _ _ _⟩
    · -- Start
      conv => whnf
      refine Calls.ret (start_calls S9.f) ?_
      rintro _ w10 ⟨rfl, f10, m10⟩
      conv => whnf
      exact ⟨(), ⟨rfl, rfl, rfl, rfl, rfl, rfl, trivial⟩, _, S9.next f10 m10 rfl, sn5.start.up (by omega), m10, Out.refl _ _ _⟩
  rintro ⟨⟩ w10 ⟨s', S10, sn10, m10, ho10⟩
  have how10 := m10.keepOwn (ho5.ext y9) (fun b hb e => by have := oge b hb; rcases e with e | e <;> omega)
  have x010 := FlMod.above m10 x09 (by omega) (by omega)
  conv => whnf
  refine ⟨by omega, ?_⟩
  conv => whnf
  exact ⟨(i + 1, s'), ⟨rfl, rfl, rfl, rfl, rfl, rfl, trivial⟩, ⟨by omega, by omega, S10, sn10.up (by omega), how10, hos.trans ho10, x010⟩, by show 40 - (i + 1) < 40 - i; omega⟩
end Go.Proofs.Ytgipackjnncabaa
