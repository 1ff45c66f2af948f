/- Own texts of this claim, joined: L22f, L22g, L23d, Hd. -/
import Derived.Test.YtgipackjnncabaaK12k
import Derived.Test.YtgipackjnncabaaRows
import Derived.ProofKit

/- Scripts of the slots' laws; the law SlotsApart, walked. -/
set_option linter.unusedVariables false
namespace Go.Proofs.Ytgipackjnncabaa
open Go.Vc Go.RowKit

/-- what is done to a slot: its cells, and what they read as -/
structure O22 where
  kind : Int
  slot : Int
  n : Int
  m : BitVec 32
  bytes : List (BitVec 8)
  ba : Option Addr
  bc : Nat
def O22.cells (e : O22) : List Value := [.int .i64 e.kind, .int .i64 e.slot, .int .i64 e.n, u32v e.m, .slice e.ba e.bytes.length e.bc]
structure O22Ok (w : World) (e : O22) : Prop where
  sl : Sl u8v w e.ba e.bytes
  cap : e.bytes.length ≤ 9223372036854775807
  kind : -9223372036854775808 ≤ e.kind ∧ e.kind ≤ 9223372036854775807
  slot : -9223372036854775808 ≤ e.slot ∧ e.slot ≤ 9223372036854775807
  n : -9223372036854775808 ≤ e.n ∧ e.n ≤ 9223372036854775807
theorem O22.one (e : O22) : ∀ u ∈ e.cells, u.oneCell' = true := by
  intro u hu
  simp only [O22.cells, List.mem_cons, List.not_mem_nil, or_false] at hu
  rcases hu with rfl | rfl | rfl | rfl | rfl <;> rfl

theorem fit_o22 {w : World} {es : List Value} (h : Fit w (.st (.pair 1 (.int .i64) (.pair 1 (.int .i64) (.pair 1 (.int .i64) (.pair 1 (.int .u32) (.pair 1 (.slice 1 (.int .u8)) .unit)))))) es) : ∃ e : O22, es = e.cells ∧ O22Ok w e := by
  obtain ⟨c1, r1, e1, _, ⟨n1, h1, k1⟩, c2, r2, e2, _, ⟨n2, h2, k2⟩, c3, r3, e3, _, ⟨n3, h3, k3⟩, c4, r4, e4, _, ⟨n4, h4, k4⟩, c5, r5, e5, _, h5, h6⟩ := h
  have h6 : r5 = [] := h6
  obtain ⟨a, len, cap, hs, hl1, hl2, hl3⟩ := h5
  have hcap := fit_cap (w := w) (m := 1) (s := .int .u8) (a := a) (len := len) (cap := cap) ⟨a, len, cap, rfl, hl1, hl2, hl3⟩
  have g := fit_u8 (w := w) (a := a) (len := len) (cap := cap) ⟨a, len, cap, rfl, hl1, hl2, hl3⟩
  obtain ⟨bs, eb, sb, cb⟩ := g
  obtain ⟨m, hm⟩ := wf_u32 k4
  refine ⟨⟨n1, n2, n3, m, bs, a, cap⟩, ?_, sb, by show bs.length ≤ _; omega, wf_i64 k1, wf_i64 k2, wf_i64 k3⟩
  rw [e1, e2, e3, e4, e5, h1, h2, h3, h4, hs, h6, hm, ← eb, List.append_nil]
  rfl

/-- light -/
theorem light22_calls {w : World} {a : Option Addr} {c : Nat} {xs : List O22} (h : SlN 5 O22.cells w a xs) (hl : xs.length ≤ 9223372036854775807) :
    Calls Try.prog 133 #[.slice a xs.length c] w (Ret fun v w' => w' = w ∧ ∃ β, v = .bool β ∧ (β = true → ∀ i (hi : i < xs.length), i < 60 → xs[i].bytes.length ≤ 300)) := by
  refine calls_of_vc lok Try.func133 ?_ rfl
  conv => whnf
  refine vcLoop_inv lok (σ := Nat)
    (fun i => [(3, .int .i64 i), (0, .slice a xs.length c)])
    (fun i w1 => w1 = w ∧ i ≤ xs.length ∧ i ≤ 60 ∧ ∀ k (hk : k < xs.length), k < i → xs[k].bytes.length ≤ 300) (fun i => 60 - i)
    0 ⟨rfl, rfl, trivial⟩ ⟨rfl, Nat.zero_le _, Nat.zero_le _, fun k _ hk => absurd hk (Nat.not_lt_zero _)⟩ ?_
  rintro i w1 ⟨hw1, hi, hi40, hall⟩
  subst hw1
  conv => whnf
  refine vcReg_meet lok (fun β : Bool => [(11, .bool β)]) (fun β w' => w' = w1 ∧ β = decide (i < xs.length ∧ i < 60)) [11] (fun _ => rfl) rfl ?_ ?_
  · conv => whnf
    refine bcase (fun h1 => ?_) (fun h1 => ?_)
    · have h1 := dt h1
      conv => whnf
      refine ⟨_, ⟨rfl, trivial⟩, rfl, ?_⟩
      rw [decide_eq_decide]; omega
    · have h1 := df h1
      conv => whnf
      exact ⟨_, ⟨rfl, trivial⟩, rfl, by rw [eq_comm, decide_eq_false_iff_not]; omega⟩
  rintro β w2 ⟨hw2, hβ⟩
  subst hw2
  conv => whnf
  refine vcCond_split lok rfl (fun h1 => ?_) (fun h1 => ?_)
  · rw [h1] at hβ
    have hlt := dt hβ.symm
    have g5 := h.at i hlt.1
    obtain ⟨p, o, ha, hcell⟩ := g5
    conv => whnf
    refine ⟨p, o, ha, ⟨by omega, by omega⟩, ?_⟩
    conv => whnf
    refine ⟨_, hcell 4 _ rfl, ?_⟩
    conv => whnf
    refine vcCond_split lok rfl (fun h2 => ?_) (fun h2 => ?_)
    · conv => whnf
      exact ⟨rfl, false, rfl, fun e => by cases e⟩
    · have h2 := df h2
      conv => whnf
      refine ⟨by omega, ?_⟩
      conv => whnf
      refine ⟨i + 1, ⟨rfl, rfl, trivial⟩, ⟨rfl, by omega, by omega, fun k hk hki => ?_⟩, by omega⟩
      by_cases e : k = i
      · subst e; omega
      · exact hall k hk (by omega)
  · rw [h1] at hβ
    have hlt := df hβ.symm
    conv => whnf
    refine ⟨rfl, true, rfl, fun _ k hk hk40 => ?_⟩
    exact hall k hk (by omega)

set_option maxRecDepth 100000 in
set_option maxHeartbeats 8000000 in
theorem slotsApart_walk {w : World} {la : Option Addr} {lc : Nat} {l : List (BitVec 32)} {a : Option Addr} {c : Nat} {xs : List O22} (hl32 : Sl u32v w la l) (hll : l.length ≤ 9223372036854775807) (sl : Bool)
    (h : SlN 5 O22.cells w a xs) (hl : xs.length ≤ 9223372036854775807) (hok : ∀ x ∈ xs, O22Ok w x) :
    Calls Try.prog 38 #[.slice la l.length lc, .bool sl, .slice a xs.length c] w (Law w) := by
  refine calls_of_vc lok Try.func38 ?_ rfl
  conv => whnf
  refine Calls.ret (light22_calls h hl) ?_
  rintro _ w0 ⟨hw0, β, rfl, _⟩
  conv => whnf
  subst hw0
  refine vcCond_split lok rfl (fun h1 => ?_) (fun h1 => ?_)
  · conv => whnf
    refine Calls.ret (known22) ?_
    rintro _ w1 ⟨rfl, x1⟩
    conv => whnf
    exact ⟨rfl, x1⟩
  clear h1
  conv => whnf
  refine vcCond_meet (fun k : Nat => [(7, .int .i64 k), (0, .slice la l.length lc), (2, .slice a xs.length c)]) (fun k w' => w' = w0 ∧ k ≤ 1) ?_ ?_
  · refine vcCond_split lok rfl (fun h1 => ?_) (fun h1 => ?_)
    · conv => whnf
      exact ⟨1, ⟨rfl, rfl, rfl, trivial⟩, rfl, Nat.le_refl _⟩
    · conv => whnf
      exact ⟨0, ⟨rfl, rfl, rfl, trivial⟩, rfl, Nat.zero_le _⟩
  rintro k w1 ⟨hw1, hk⟩
  subst hw1
  conv => whnf
  refine vcLoop_inv lok (σ := Nat × Option Addr × Nat × List (BitVec 32))
    (fun ⟨i, ra, rc, ws⟩ => [(9, .int .i64 i), (8, .slice ra ws.length rc), (7, .int .i64 k), (0, .slice la l.length lc), (2, .slice a xs.length c)])
    (fun ⟨i, ra, rc, ws⟩ w' => i ≤ 2048 ∧ ws.length = i ∧ Own 42 u32v w1.heap.size w' ra rc ws ∧ Ext w1 w') (fun t => 2048 - t.1)
    (0, none, 0, []) ⟨rfl, rfl, rfl, rfl, rfl, trivial⟩ ⟨Nat.zero_le _, rfl, Own.nil _ _ _ _, Ext.refl _⟩ ?_
  rintro ⟨i, ra, rc, ws⟩ w2 ⟨hi, hwl, ho2, x2⟩
  conv => whnf
  refine vcCond_split lok rfl (fun h2 => ?_) (fun h2 => ?_)
  · have h2 := dt h2
    conv => whnf
    refine vcCond_meet (fun y : BitVec 32 => [(10, .int .u32 y.toNat), (9, .int .i64 i), (8, .slice ra ws.length rc), (7, .int .i64 k), (0, .slice la l.length lc), (2, .slice a xs.length c)]) (fun y w' => w' = w2) ?_ ?_
    · refine vcCond_split lok rfl (fun h3 => ?_) (fun h3 => ?_)
      · have h3 := dt h3
        conv => whnf
        refine ⟨by omega, ?_⟩
        intro z hz
        have hz31 : z = ((i % l.length : Nat) : Int) := by rw [hz]; exact rem_nat i l.length
        clear hz
        subst hz31
        conv => whnf
        have hix : i % l.length < l.length := Nat.mod_lt _ (by omega)
        have g32 := sl_get ((hl32.ext x2)) (((i % l.length : Nat) : Int)) (i % l.length) (by omega) (by omega)
        obtain ⟨p32, o32, ha32, hb32, hcell32⟩ := g32
        refine ⟨p32, o32, ha32, hb32, ?_⟩
        conv => whnf
        refine ⟨_, hcell32, ?_⟩
        conv => whnf
        exact ⟨_, ⟨rfl, rfl, rfl, rfl, rfl, rfl, trivial⟩, rfl⟩
      · conv => whnf
        exact ⟨ones, ⟨rfl, rfl, rfl, rfl, rfl, rfl, trivial⟩, rfl⟩
    rintro y w3 hw3
    subst hw3
    conv => whnf
    have g6 := run_word w3 y
    obtain ⟨w6, hr6, ho6, x6⟩ := g6
    refine ⟨_, _, hr6, ?_⟩
    conv => whnf
    have z6 := x6.size
    have z2 := x2.size
    have g7 := run_app (ty := 37) (d := 1) (ho2.ext x6) ho6.sl (by simp; omega) (by omega)
    obtain ⟨a7, c7, w7, hr7, ho7, hg7⟩ := g7
    refine ⟨_, _, hr7, ?_⟩
    have x7 : Ext w1 w7 := hg7.extOf (x2.trans x6) (fun g hg => (ho2.ge g hg).1)
    have el : (ws ++ [y]).length = i + 1 := by rw [List.length_append, hwl]; rfl
    have gy : ∃ ys, ys = ws ++ [y] := ⟨_, rfl⟩
    obtain ⟨ys, hys⟩ := gy
    rw [← hys] at ho7 el ⊢
    conv => whnf
    refine ⟨by omega, ?_⟩
    conv => whnf
    exact ⟨(i + 1, a7, c7, ys), ⟨rfl, rfl, rfl, rfl, rfl, trivial⟩, ⟨by omega, el, ho7, x7⟩, by show 2048 - (i + 1) < 2048 - i; omega⟩
  have h2 := df h2
  conv => whnf
  have hw2048 : ws.length = 2048 := by omega
  clear h2 hi hwl
  refine Calls.ret (of_big ho2.sl (by omega)) ?_
  rintro _ w3 hp
  conv => whnf
  rcases hp with ⟨_, g, gw, fc, rfl, f3, x3⟩ | ⟨hno, _⟩
  rotate_left
  · rw [hw2048] at hno; exact absurd hno (by decide)
  have sw0 : (newFS ws).ws = ws := rfl
  have sn0 : Num (newFS ws) 2048 0 := ⟨hw2048, ⟨Int.le_refl _, Int.le_refl _⟩, by show (-1 : Int) ≤ _; decide⟩
  have gs0 : ∃ s0, s0 = newFS ws := ⟨_, rfl⟩
  obtain ⟨s0, hs0⟩ := gs0
  rw [← hs0] at f3 sw0 sn0
  clear hs0
  have l0 := sn0.len
  have f3lo := f3.lo
  have f3lt := f3.lt
  have z2 := x2.size
  have x03 := x2.trans x3
  have ho3 := ho2.ext x3
  have oge := fun b hb => (ho2.ge b hb).2
  conv => whnf
  refine Calls.ret (sopen_calls f3 (by omega) 1) ?_
  rintro _ w4 hp
  conv => whnf
  rcases hp with ⟨hno, _, _⟩ | ⟨m, hm, _, sb, rfl, hsb, S4, x4⟩
  · exact absurd ⟨by decide, by rw [l0]; decide⟩ hno
  have hm0 : m = 1 := by omega
  subst hm0
  clear hm
  have hat : atF 1 ((k : Nat) : Int) = 256 + 768 * k := by unfold atF; omega
  have S4' : SlAt w1.heap.size w4 sb g gw fc 1 s0 := ⟨S4.f.base (by omega), S4.b, S4.n1, S4.n2, S4.room, S4.small⟩
  clear S4
  have x04 := x03.trans x4
  have ho4 := ho3.ext x4
  conv => whnf
  refine vcReg_go lok ?_
  conv => whnf
  refine vcCond_false lok (rfl) ?_
  conv => whnf
  refine vcLoop_inv lok (σ := Nat × FS)
    (fun ⟨i, s⟩ => [(14, .int .i64 i), (11, .pointer (some ⟨g, 0, none⟩)), (12, .pointer (some ⟨sb, 0, none⟩)), (8, .slice ra ws.length rc), (7, .int .i64 k), (2, .slice a xs.length c)])
    (fun ⟨i, s⟩ w' => i ≤ xs.length ∧ i ≤ 40 ∧ SlAt w1.heap.size w' sb g gw fc 1 s ∧ Num s 2048 (18 * i) ∧ Own 42 u32v w1.heap.size w' ra rc ws ∧ Out (atF 1 k) (atF 1 k + 768) ws s.ws ∧ Ext w1 w') (fun t => 40 - t.1)
    (0, s0) ⟨rfl, rfl, rfl, rfl, rfl, rfl, trivial⟩ ⟨Nat.zero_le _, Nat.zero_le _, S4', sn0, ho4, by rw [sw0]; exact Out.refl _ _ _, x04⟩ ?_
  rintro ⟨i, s⟩ w5 ⟨hi, hi40, S5, sn5, ho5, hos, x5⟩
  conv => whnf
  refine vcReg_meet lok (fun β : Bool => [(61, .bool β)]) (fun β w' => w' = w5 ∧ β = decide (i < xs.length ∧ i < 40)) [61] (fun _ => rfl) rfl ?_ ?_
  · conv => whnf
    refine bcase (fun h1 => ?_) (fun h1 => ?_)
    · have h1 := dt h1
      conv => whnf
      refine ⟨_, ⟨rfl, trivial⟩, rfl, ?_⟩
      rw [decide_eq_decide]; omega
    · have h1 := df h1
      conv => whnf
      exact ⟨_, ⟨rfl, trivial⟩, rfl, by rw [eq_comm, decide_eq_false_iff_not]; omega⟩
  rintro β w6 ⟨hw6, hβ⟩
  subst hw6
  conv => whnf
  refine vcCond_split lok rfl (fun h1 => ?_) (fun h1 => ?_)
  rotate_left
  · -- the words told
    clear h1 hβ
    have hsl := sn5.len
    conv => whnf
    refine Calls.ret (fwordsN_calls S5.f sn5.len (by decide)) ?_
    rintro _ w7 ⟨a7, c7, rfl, ho7, x7⟩
    conv => whnf
    have ho67 := ho5.ext x7
    conv => whnf
    refine vcCond_split lok rfl (fun h6 => ?_) (fun h6 => ?_)
    · rw [hw2048] at h6; exact absurd h6 (by decide)
    clear h6
    conv => whnf
    refine vcLoop_inv lok (σ := Nat)
      (fun i => [(17, .int .i64 i), (16, .slice a7 2048 c7), (8, .slice ra ws.length rc), (7, .int .i64 k)])
      (fun i w' => i ≤ 2048 ∧ Ext w7 w') (fun i => 2048 - i)
      0 ⟨rfl, rfl, rfl, rfl, trivial⟩ ⟨Nat.zero_le _, Ext.refl _⟩ ?_
    rintro j w8 ⟨hj, x8⟩
    conv => whnf
    refine vcCond_split lok rfl (fun h7 => ?_) (fun h7 => ?_)
    rotate_left
    · conv => whnf
      refine Calls.ret (known22) ?_
      rintro _ w10 ⟨rfl, x10⟩
      conv => whnf
      exact ⟨rfl, x5.trans (x7.trans (x8.trans x10))⟩
    have h7 := dt h7
    conv => whnf
    refine vcReg_meet lok (fun β : Bool => [(135, .bool β)]) (fun β w' => w' = w8 ∧ (β = false → j < 256 + 768 * k ∨ 256 + 768 * k + 768 ≤ j)) [135] (fun _ => rfl) rfl ?_ ?_
    · conv => whnf
      refine ⟨by decide, ?_⟩
      intro z hz
      replace hz := hz.trans (quo256 j (by omega))
      subst hz
      conv => whnf
      refine ⟨by omega, ?_⟩
      conv => whnf
      refine ⟨by omega, ?_⟩
      conv => whnf
      refine bcase (fun k1 => ?_) (fun k1 => ?_)
      · have k1 := dt k1
        conv => whnf
        refine ⟨by decide, ?_⟩
        intro z hz
        replace hz := hz.trans (quo256 j (by omega))
        subst hz
        conv => whnf
        refine ⟨by omega, ?_⟩
        conv => whnf
        refine ⟨by omega, ?_⟩
        conv => whnf
        refine ⟨_, ⟨rfl, trivial⟩, rfl, fun q => ?_⟩
        have q := of_decide_eq_false q
        omega
      · have k1 := df k1
        conv => whnf
        exact ⟨_, ⟨rfl, trivial⟩, rfl, fun q => by omega⟩
    rintro β w9 ⟨hw9, hβ⟩
    subst hw9
    conv => whnf
    refine vcCond_split lok rfl (fun h8 => ?_) (fun h8 => ?_)
    · conv => whnf
      refine ⟨by omega, ?_⟩
      conv => whnf
      exact ⟨j + 1, ⟨rfl, rfl, rfl, rfl, trivial⟩, ⟨by omega, x8⟩, by omega⟩
    · have hout := hβ h8
      clear hβ h8
      have hsw : s.ws.getD j 0#32 = ws.getD j 0#32 := hos.2 j (by rw [hat]; exact hout)
      conv => whnf
      refine vcDraw_go lok mixed (fun w' => w' = w9.drew) [] [0, 1, 2, 3, 4, 5, 6, 7, 8] (by kernel_rfl) (fun w10 hw10 => ⟨hw10, ?_⟩)
      have x10 : Ext w9 w10 := hw10 ▸ Ext.drew w9
      have h1s := (ho7.ext (x8.trans x10)).sl
      have h2s := (ho67.ext (x8.trans x10)).sl
      conv => whnf
      have g11 := sl_get h1s (j : Int) j rfl (by omega)
      obtain ⟨p11, o11, ha11, hb11, hcell11⟩ := g11
      refine ⟨p11, o11, ha11, ⟨by omega, by omega⟩, ?_⟩
      conv => whnf
      refine ⟨_, fun w' hw' => by rw [hw', ← hw10]; exact hcell11, ?_⟩
      conv => whnf
      have g78 := sl_get (h2s) ((j : Int)) (j) (by omega) (by omega)
      obtain ⟨p78, o78, ha78, hb78, hcell78⟩ := g78
      refine ⟨p78, o78, ha78, hb78, ?_⟩
      conv => whnf
      refine ⟨_, fun w' hw' => by rw [hw', ← hw10]; exact hcell78, ?_⟩
      conv => whnf
      rw [hsw]
      refine vcCond_split lok rfl (fun h9 => ?_) (fun h9 => ?_)
      · exact absurd h9 (by simp)
      conv => whnf
      refine ⟨by omega, ?_⟩
      conv => whnf
      exact ⟨j + 1, ⟨rfl, rfl, rfl, rfl, trivial⟩, ⟨by omega, x8.trans x10⟩, by omega⟩
  rw [h1] at hβ
  have hlt2 := dt hβ.symm
  clear hβ h1
  have hixs : i < xs.length := hlt2.1
  have hox := hok xs[i] (List.getElem_mem hixs)
  conv => whnf
  have g5 := (h.ext x5).at i hixs
  have gx : ∃ x, x = xs[i] := ⟨_, rfl⟩
  obtain ⟨x, hx⟩ := gx
  rw [← hx] at g5 hox
  clear hx
  obtain ⟨pp, oo, hpa, hcell⟩ := g5
  refine ⟨pp, oo, hpa, ⟨by omega, by omega⟩, ?_⟩
  conv => whnf
  refine ⟨x.cells, rfl, hcell, ?_⟩
  conv => whnf
  intro w8 hw8
  have hb8 : Blk w8 w6.heap.size 171 [.int .i64 0, .int .i64 0, .int .i64 0, .int .u32 0, .slice none 0 0] := by rw [hw8]; exact Blk.new w6 171 _
  have y8 : Ext w6 w8 := by rw [hw8]; exact Ext.new _ _
  clear hw8
  conv => whnf
  have k9 := Blk.storeAgg lok hb8 (t := 171) (us := x.cells) rfl 0 (Nat.le_refl 5) (O22.one x)
  obtain ⟨w9, hr9, ho9, hg9⟩ := k9
  have y9 : Ext w6 w9 := hg9.extOf y8 (fun g hg => by cases hg; exact Nat.le_refl _)
  have ho9 : Blk w9 w6.heap.size 171 x.cells := ho9
  refine ⟨w9, hr9, ?_⟩
  have S9 := S5.ext y9
  have x09 := x5.trans y9
  clear hr9 hg9 y8 hb8 hcell
  have r1 := S5.f.lt
  have r3 := S5.f.lo
  have r8 := ho9.lt
  have slen := sn5.len
  have gbo : ∃ bo, bo = w6.heap.size := ⟨_, rfl⟩
  obtain ⟨bo, hbo⟩ := gbo
  rw [← hbo] at ho9 r8 ⊢
  conv => whnf
  refine ⟨_, ho9.cell (i := 0) rfl, ?_⟩
  conv => whnf
  refine vcCond_meet (fun _ : Unit => [(14, .int .i64 i), (11, .pointer (some ⟨g, 0, none⟩)), (12, .pointer (some ⟨sb, 0, none⟩)), (8, .slice ra ws.length rc), (7, .int .i64 k), (2, .slice a xs.length c)])
    (fun _ w' => ∃ s', SlAt w1.heap.size w' sb g gw fc 1 s' ∧ Num s' 2048 (18 * i + 17) ∧ FlMod g gw w9 w' ∧ Out (atF 1 k) (atF 1 k + 768) s.ws s'.ws) ?_ ?_
  · refine vcCond_split lok rfl (fun h2 => ?_) (fun h2 => ?_)
    · -- Begin
      conv => whnf
      refine ⟨_, ho9.cell (i := 3) rfl, ?_⟩
      conv => whnf
      refine ⟨_, ho9.cell (i := 2) rfl, ?_⟩
      conv => whnf
      refine Calls.ret (sbegin_calls S9 k x.m x.n (by rw [slen]; exact sn5) (by omega)) ?_
      rintro _ w10 ⟨rfl, S10, m10⟩
      conv => whnf
      exact ⟨(), ⟨rfl, rfl, rfl, rfl, rfl, rfl, trivial⟩, _, S10, begin_num sn5, m10, begin_out _ _⟩
    clear h2
    conv => whnf
    refine vcCond_split lok rfl (fun h2 => ?_) (fun h2 => ?_)
    · -- Write
      conv => whnf
      refine ⟨_, ho9.cell (i := 2) rfl, ?_⟩
      conv => whnf
      refine ⟨_, ho9.cell (i := 4) rfl, ?_⟩
      conv => whnf
      refine Calls.ret (swrite_calls S9 k x.n (hox.sl.ext x09) hox.cap (by rw [slen]; exact sn5) (by omega)) ?_
      rintro _ w10 ⟨rfl, S10, m10⟩
      conv => whnf
      exact ⟨(), ⟨rfl, rfl, rfl, rfl, rfl, rfl, trivial⟩, _, S10, write_num sn5, m10, write_out _ _⟩
    clear h2
    conv => whnf
    refine vcCond_split lok rfl (fun h2 => ?_) (fun h2 => ?_)
    · -- Seal
      conv => whnf
      refine Calls.ret (sseal_calls S9 k (by rw [slen]; exact sn5) (by omega)) ?_
      rintro _ w10 ⟨rfl, S10, m10⟩
      conv => whnf
      exact ⟨(), ⟨rfl, rfl, rfl, rfl, rfl, rfl, trivial⟩, _, S10, seal_num sn5, m10, seal_out⟩
    clear h2
    conv => whnf
    refine vcCond_split lok rfl (fun h2 => ?_) (fun h2 => ?_)
    · -- Drop
      conv => whnf
      refine Calls.ret (sdrop_calls S9 k (by rw [slen]; exact sn5) (by omega)) ?_
      rintro _ w10 ⟨rfl, S10, m10⟩
      conv => whnf
      exact ⟨(), ⟨rfl, rfl, rfl, rfl, rfl, rfl, trivial⟩, _, S10, drop_num sn5, m10, drop_out⟩
    clear h2
    conv => whnf
    refine vcCond_split lok rfl (fun h2 => ?_) (fun h2 => ?_)
    · -- Cut
      conv => whnf
      refine vcDraw_go lok mixed (Ext w9) [3] [0, 1, 2, 4, 5, 3, 6] (by kernel_rfl) (fun w10 hw10 => ⟨hw10 ▸ Ext.drew w9, ?_⟩)
      have x10 : Ext w9 w10 := hw10 ▸ Ext.drew w9
      clear hw10
      conv => whnf
      refine ⟨_, fun w' hw' => (ho9.ext hw').cell (i := 2) rfl, ?_⟩
      conv => whnf
      refine ⟨_, fun w' hw' => (ho9.ext hw').cell (i := 3) rfl, ?_⟩
      conv => whnf
      refine Calls.ret (count_calls x.n 40 hox.n (by decide) (by decide)) ?_
      rintro _ w11 ⟨rfl, hw11⟩
      subst hw11
      refine ⟨_, fun _ h => h, x10, ?_⟩
      conv => whnf
      have hc0 := Int.emod_nonneg x.n (show (40 : Int) ≠ 0 by decide)
      have hc1 := Int.emod_lt_of_pos x.n (show (0 : Int) < 40 by decide)
      have g11 := cut_calls (S9.ext x10).f (x.n % 40) x.m
      have sn2 := sn5.cut (x.n % 40) (by omega) x.m
      have ec2 : (cutF s (x.n % 40) x.m).1.ws = s.ws := by unfold cutF; split <;> rfl
      refine Calls.ret (g11) ?_
      rintro _ w12 ⟨rfl, f12, m12⟩
      conv => whnf
      exact ⟨(), ⟨rfl, rfl, rfl, rfl, rfl, rfl, trivial⟩, _, (S9.ext x10).next f12 m12 (by rw [ec2]), sn2.up (by omega), (Mod.ofExt _ x10).trans m12, by rw [ec2]; exact Out.refl _ _ _⟩
    · -- Start
      conv => whnf
      refine Calls.ret (start_calls S9.f) ?_
      rintro _ w10 ⟨rfl, f10, m10⟩
      conv => whnf
      exact ⟨(), ⟨rfl, rfl, rfl, rfl, rfl, rfl, trivial⟩, _, S9.next f10 m10 rfl, sn5.start.up (by omega), m10, Out.refl _ _ _⟩
  rintro ⟨⟩ w10 ⟨s', S10, sn10, m10, ho10⟩
  have how10 := m10.keepOwn (ho5.ext y9) (fun b hb e => by have := oge b hb; rcases e with e | e <;> omega)
  have x010 := FlMod.above m10 x09 (by omega) (by omega)
  conv => whnf
  refine ⟨by omega, ?_⟩
  conv => whnf
  exact ⟨(i + 1, s'), ⟨rfl, rfl, rfl, rfl, rfl, rfl, trivial⟩, ⟨by omega, by omega, S10, sn10.up (by omega), how10, hos.trans ho10, x010⟩, by show 40 - (i + 1) < 40 - i; omega⟩
end Go.Proofs.Ytgipackjnncabaa

/- The law SlotsPlays: both slots, and all that is told of them. -/
set_option linter.unusedVariables false
namespace Go.Proofs.Ytgipackjnncabaa
open Go.Vc Go.RowKit

/-- both slots, of one flash that is told twice; apart from one another -/
structure Both22 (B : Nat) (w : World) (g gw c h hw d sb rb n : Nat) (s : FS) : Prop where
  S : SlAt B w sb g gw c n s
  R : RsAt B w rb h hw d n s
  a1 : g < h ∧ g < hw ∧ gw < h ∧ gw < hw
  a2 : h < sb ∧ hw < sb ∧ g < rb ∧ gw < rb
section
variable {B : Nat} {w w1 w2 : World} {g gw c h hw d sb rb n : Nat} {s t : FS}
theorem Both22.ext (k : Both22 B w g gw c h hw d sb rb n s) (x : Ext w w1) : Both22 B w1 g gw c h hw d sb rb n s := ⟨k.S.ext x, k.R.ext x, k.a1, k.a2⟩
theorem Both22.keepR (k : Both22 B w g gw c h hw d sb rb n s) (m : FlMod g gw w w1) : RsAt B w1 rb h hw d n s := by
  have a1 := k.a1
  have a2 := k.a2
  exact ⟨k.R.f.keep m (fun e => by rcases e with e | e <;> omega) (fun e => by rcases e with e | e <;> omega), m.keepBlk k.R.b (fun e => by rcases e with e | e <;> omega), k.R.n1, k.R.n2, k.R.room, k.R.small⟩
theorem Both22.keepS (k : Both22 B w g gw c h hw d sb rb n s) (S1 : SlAt B w1 sb g gw c n t) (m : FlMod h hw w1 w2) : SlAt B w2 sb g gw c n t := by
  have a1 := k.a1
  have a2 := k.a2
  exact ⟨S1.f.keep m (fun e => by rcases e with e | e <;> omega) (fun e => by rcases e with e | e <;> omega), m.keepBlk S1.b (fun e => by rcases e with e | e <;> omega), S1.n1, S1.n2, S1.room, S1.small⟩
theorem Both22.both (k : Both22 B w g gw c h hw d sb rb n s) (S1 : SlAt B w1 sb g gw c n t) (R2 : RsAt B w2 rb h hw d n t) (m : FlMod h hw w1 w2) : Both22 B w2 g gw c h hw d sb rb n t := ⟨k.keepS S1 m, R2, k.a1, k.a2⟩

set_option maxHeartbeats 4000000 in
/-- alike -/
theorem salike_calls (k : Both22 B w g gw c h hw d sb rb n s) (slot : Int) :
    Calls Try.prog 139 #[.pointer (some ⟨sb, 0, none⟩), .pointer (some ⟨rb, 0, none⟩), .int .i64 slot] w (Ret fun v w' => v = .bool true ∧ Ext w w') := by
  refine calls_of_vc lok Try.func139 ?_ rfl
  conv => whnf
  refine Calls.ret (shead_calls k.S slot) ?_
  rintro _ w1 ⟨rfl, x1⟩
  conv => whnf
  have k1 := k.ext x1
  refine Calls.ret (rshead_calls k1.R slot) ?_
  rintro _ w2 ⟨rfl, x2⟩
  conv => whnf
  have k2 := k1.ext x2
  have gH : ∃ H, H = headR s n slot := ⟨_, rfl⟩
  obtain ⟨H, hH⟩ := gH
  rw [← hH]
  clear hH
  obtain ⟨ha, hb, hc⟩ := H
  conv => whnf
  refine Calls.ret (shave_calls k2.S slot) ?_
  rintro _ w3 ⟨rfl, x3⟩
  conv => whnf
  have k3 := k2.ext x3
  refine Calls.ret (rshave_calls k3.R slot) ?_
  rintro _ w4 ⟨rfl, x4⟩
  conv => whnf
  have k4 := k3.ext x4
  have gV : ∃ V, V = haveF s n slot := ⟨_, rfl⟩
  obtain ⟨V, hV⟩ := gV
  rw [← hV]
  clear hV
  obtain ⟨va, vb⟩ := V
  conv => whnf
  refine Calls.ret (sbytes_calls k4.S slot) ?_
  rintro _ w5 ⟨a5, c5, rfl, ho5, x5⟩
  conv => whnf
  have k5 := k4.ext x5
  refine Calls.ret (rsbytes_calls k5.R slot) ?_
  rintro _ w6 ⟨a6, c6, rfl, hs6, x6⟩
  conv => whnf
  have k6 := k5.ext x6
  have hs5 := (ho5.ext x6).sl
  have x06 := x1.trans (x2.trans (x3.trans (x4.trans (x5.trans x6))))
  have gB : ∃ Q, Q = bytesSF s n slot := ⟨_, rfl⟩
  obtain ⟨Q, hQ⟩ := gB
  rw [← hQ] at hs5 hs6 ⊢
  clear hQ ho5
  obtain ⟨bs, be⟩ := Q
  have hs5 : Sl u8v w6 a5 bs := hs5
  have hs6 : Sl u8v w6 a6 bs := hs6
  clear x1 x2 x3 x4 x5 x6 k1 k2 k3 k4 k5
  conv => whnf
  refine vcReg_meet lok (fun β : Bool => [(6, .bool β)]) (fun β w' => β = true ∧ Ext w6 w') [6] (fun _ => rfl) rfl ?_ ?_
  · conv => whnf
    refine bcase (fun _ => ?_) (fun q => absurd q (by simp))
    conv => whnf
    refine bcase (fun _ => ?_) (fun q => absurd q (by simp))
    conv => whnf
    refine bcase (fun _ => ?_) (fun q => absurd q (by cases hc <;> simp))
    conv => whnf
    refine bcase (fun _ => ?_) (fun q => absurd q (by simp))
    conv => whnf
    refine bcase (fun _ => ?_) (fun q => absurd q (by cases vb <;> simp))
    conv => whnf
    refine ⟨_, run_toStr hs5, ?_⟩
    conv => whnf
    refine ⟨_, run_toStr hs6, ?_⟩
    conv => whnf
    intro γ hγ
    have hγ2 : γ = true := by rw [str_eq hγ rfl rfl]; simp
    clear hγ
    subst hγ2
    conv => whnf
    refine bcase (fun _ => ?_) (fun q => absurd q (by simp))
    conv => whnf
    refine Calls.ret (ssealed_calls k6.S slot) ?_
    rintro _ w7 ⟨rfl, x7⟩
    conv => whnf
    refine Calls.ret (rssealed_calls (k6.ext x7).R slot) ?_
    rintro _ w8 ⟨rfl, x8⟩
    conv => whnf
    exact ⟨_, ⟨rfl, trivial⟩, beq_self_bool _, x7.trans x8⟩
  rintro β w7 ⟨rfl, x7⟩
  conv => whnf
  exact ⟨rfl, x06.trans x7⟩
end

theorem cut_ws22 (s : FS) (a : Int) (m : BitVec 32) : (cutF s a m).1.ws = s.ws := by unfold cutF; split <;> rfl
theorem own_pre22 {α : Type} {T : TypeId} {f : α → Value} {B : Nat} {w : World} {a : Option Addr} {c : Nat} {xs ys : List α} (h : Own T f B w a c (xs ++ ys)) : Own T f B w a c xs := by
  obtain ⟨h1, h2⟩ := h
  refine ⟨by simp, ?_⟩
  rcases h2 with ⟨h2, h3⟩ | ⟨g, cap, cur, hv, hB, hh, hn, hcm, hs, ht⟩
  · rw [List.length_append] at h3
    injection h2 with e1 e2 e3
    have : xs.length = 0 := by omega
    exact .inl ⟨by rw [e1, e3, this], this⟩
  · injection hv with e1 e2 e3
    rw [List.length_append] at hn
    refine .inr ⟨g, cap, cur, by rw [e1, e3], hB, hh, by omega, hcm, hs, ?_⟩
    simp only [Nat.mul_one, List.map_append, List.length_append] at ht ⊢
    have h4 := congrArg (List.take xs.length) ht
    rw [List.take_take, Nat.min_eq_left (by omega), List.take_left' (by rw [List.length_map])] at h4
    exact h4

set_option maxRecDepth 100000 in
set_option maxHeartbeats 16000000 in
theorem slotsPlays_walk {w : World} (at_ : Int) {a : Option Addr} {c : Nat} {xs : List O22} (h : SlN 5 O22.cells w a xs) (hl : xs.length ≤ 9223372036854775807) (hok : ∀ x ∈ xs, O22Ok w x) :
    Calls Try.prog 37 #[.int .i64 at_, .slice a xs.length c] w (Law w) := by
  refine calls_of_vc lok Try.func37 ?_ rfl
  conv => whnf
  refine Calls.ret (light22_calls h hl) ?_
  rintro _ w0 ⟨hw0, β, rfl, hlight⟩
  conv => whnf
  subst hw0
  refine vcCond_split lok rfl (fun h1 => ?_) (fun h1 => ?_)
  · conv => whnf
    refine Calls.ret (known22) ?_
    rintro _ w1 ⟨rfl, x1⟩
    conv => whnf
    exact ⟨rfl, x1⟩
  have hlight := hlight (by simpa using h1)
  clear h1
  conv => whnf
  refine Calls.ret (new_calls 7) ?_
  rintro _ w1 hp
  conv => whnf
  rcases hp with ⟨hno, _, _⟩ | ⟨_, g, gw, fc, rfl, f1, x1⟩
  · exact absurd hno (by decide)
  conv => whnf
  refine Calls.ret (made_calls 7) ?_
  rintro _ w2 hp
  conv => whnf
  rcases hp with ⟨hno, _⟩ | ⟨_, hh, hw, hd, rfl, r2, x2⟩
  · exact absurd hno (by decide)
  have gs0 : ∃ s0, s0 = newFS (List.replicate (256 * (7 : Int).toNat) ones) ∧ Num s0 1792 0 := ⟨_, rfl, List.length_replicate, ⟨Int.le_refl _, Int.le_refl _⟩, by show (-1 : Int) ≤ _; decide⟩
  obtain ⟨s0, hs0, sn0⟩ := gs0
  rw [← hs0] at f1 r2
  clear hs0
  have l0 := sn0.len
  have q1 := f1.lo
  have q2 := f1.lt
  have q3 := r2.lo
  have q4 := r2.lt
  have z1 := x1.size
  have z2 := x2.size
  conv => whnf
  refine Calls.ret (sopen_calls (f1.ext x2) (by omega) at_) ?_
  rintro _ w3 hp
  conv => whnf
  rcases hp with ⟨hno, rfl, hw3⟩ | ⟨n, rfl, hn, sb, rfl, hsb, S3, x3⟩
  · subst hw3
    conv => whnf
    refine Calls.ret (rsopen_calls r2 (by omega) at_) ?_
    rintro _ w4 hp
    conv => whnf
    rcases hp with ⟨_, ⟨rb, rfl⟩, x4⟩ | ⟨m, rfl, hm, _⟩
    rotate_left
    · exact absurd ⟨by omega, by omega⟩ hno
    have x04 := x1.trans (x2.trans x4)
    conv => whnf
    refine vcReg_meet lok (fun β : Bool => [(58, .bool β)]) (fun β w' => w' = w4 ∧ β = false) [58] (fun _ => rfl) rfl ?_ ?_
    · conv => whnf
      exact ⟨_, ⟨rfl, trivial⟩, rfl, rfl⟩
    rintro β w5 ⟨hw5, rfl⟩
    subst hw5
    conv => whnf
    refine vcCond_false lok (rfl) ?_
    conv => whnf
    refine vcLoop_inv lok (σ := Unit) (fun _ => [(12, .int .i64 0), (8, .pointer none), (1, .slice a xs.length c)]) (fun _ w' => w' = w5) (fun _ => 0) () ⟨rfl, rfl, rfl, trivial⟩ rfl ?_
    rintro ⟨⟩ w6 hw6
    subst hw6
    conv => whnf
    refine vcReg_meet lok (fun β : Bool => [(70, .bool β)]) (fun β w' => w' = w6 ∧ β = false) [70] (fun _ => rfl) rfl ?_ ?_
    · conv => whnf
      refine bcase (fun h1 => ?_) (fun h1 => ?_)
      · conv => whnf
        exact ⟨_, ⟨rfl, trivial⟩, rfl, rfl⟩
      · conv => whnf
        exact ⟨_, ⟨rfl, trivial⟩, rfl, rfl⟩
    rintro β w7 ⟨hw7, rfl⟩
    subst hw7
    conv => whnf
    refine vcCond_false lok (rfl) ?_
    conv => whnf
    refine Calls.ret (known22) ?_
    rintro _ w8 ⟨rfl, x8⟩
    conv => whnf
    exact ⟨rfl, x04.trans x8⟩
  have x03 := x1.trans (x2.trans x3)
  have z3 := x3.size
  have q5 := S3.b.lt
  conv => whnf
  refine Calls.ret (rsopen_calls (r2.ext x3) (by omega) n) ?_
  rintro _ w4 hp
  conv => whnf
  rcases hp with ⟨hno, _⟩ | ⟨m, hm, _, rb, rfl, hrb, hrb2, R4, x4⟩
  · exact absurd ⟨by omega, by omega⟩ hno
  have hm : m = n := by omega
  subst hm
  have x04 := x03.trans x4
  have z4 := x4.size
  have K4 : Both22 w0.heap.size w4 g gw fc hh hw hd sb rb m s0 := ⟨S3.ext x4, ⟨R4.f.base (by omega), R4.b, R4.n1, R4.n2, R4.room, R4.small⟩, by omega, by omega⟩
  have o1 : w0.heap.size ≤ g ∧ w0.heap.size ≤ gw ∧ w0.heap.size ≤ hh ∧ w0.heap.size ≤ hw := by omega
  have hn7 : 256 * (m + 6) ≤ 1792 := by omega
  clear f1 r2 S3 R4 q1 q2 q3 q4 q5 z1 z2 z3 z4 hsb hrb hrb2 x1 x2 x3 x4 x03 hn
  obtain ⟨o1, o2, o3, o4⟩ := o1
  have gn : ∃ n, n = m := ⟨_, rfl⟩
  obtain ⟨n, hn⟩ := gn
  rw [← hn] at K4 hn7 ⊢
  clear hn
  conv => whnf
  refine vcReg_meet lok (fun β : Bool => [(58, .bool β)]) (fun β w' => w' = w4 ∧ β = false) [58] (fun _ => rfl) rfl ?_ ?_
  · conv => whnf
    exact ⟨_, ⟨rfl, trivial⟩, rfl, rfl⟩
  rintro β w5 ⟨hw5, rfl⟩
  subst hw5
  conv => whnf
  refine vcCond_false lok (rfl) ?_
  conv => whnf
  refine vcLoop_inv lok (σ := Nat × FS)
    (fun ⟨i, s⟩ => [(12, .int .i64 i), (5, .pointer (some ⟨g, 0, none⟩)), (6, .pointer (some ⟨hh, 0, none⟩)), (8, .pointer (some ⟨sb, 0, none⟩)), (10, .pointer (some ⟨rb, 0, none⟩)), (1, .slice a xs.length c)])
    (fun ⟨i, s⟩ w' => i ≤ xs.length ∧ i ≤ 60 ∧ Both22 w0.heap.size w' g gw fc hh hw hd sb rb n s ∧ Num s 1792 (18 * i) ∧ Ext w0 w') (fun t => 60 - t.1)
    (0, s0) ⟨rfl, rfl, rfl, rfl, rfl, rfl, trivial⟩ ⟨Nat.zero_le _, Nat.zero_le _, K4, sn0, x04⟩ ?_
  rintro ⟨i, s⟩ w6 ⟨hi, hi60, K6, sn, x6⟩
  conv => whnf
  refine vcReg_meet lok (fun β : Bool => [(70, .bool β)]) (fun β w' => w' = w6 ∧ β = decide (i < xs.length ∧ i < 60)) [70] (fun _ => rfl) rfl ?_ ?_
  · conv => whnf
    refine bcase (fun h1 => ?_) (fun h1 => ?_)
    · have h1 := dt h1
      conv => whnf
      refine bcase (fun h2 => ?_) (fun h2 => ?_)
      · have h2 := dt h2
        conv => whnf
        exact ⟨_, ⟨rfl, trivial⟩, rfl, by rw [decide_eq_true (by omega)]⟩
      · have h2 := df h2
        conv => whnf
        exact ⟨_, ⟨rfl, trivial⟩, rfl, by rw [decide_eq_false (by omega)]⟩
    · have h1 := df h1
      conv => whnf
      exact ⟨_, ⟨rfl, trivial⟩, rfl, by rw [decide_eq_false (by omega)]⟩
  rintro β w7 ⟨hw7, hβ⟩
  subst hw7
  conv => whnf
  refine vcCond_split lok rfl (fun h1 => ?_) (fun h1 => ?_)
  rotate_left
  · conv => whnf
    refine Calls.ret (known22) ?_
    rintro _ w8 ⟨rfl, x8⟩
    conv => whnf
    exact ⟨rfl, x6.trans x8⟩
  rw [h1] at hβ
  have hlt2 := dt hβ.symm
  clear hβ h1
  have hixs : i < xs.length := hlt2.1
  have hox := hok xs[i] (List.getElem_mem hixs)
  have h300 := hlight i hixs hlt2.2
  conv => whnf
  have g5 := (h.ext x6).at i hixs
  have gx : ∃ x, x = xs[i] := ⟨_, rfl⟩
  obtain ⟨x, hx⟩ := gx
  rw [← hx] at g5 hox h300
  clear hx
  obtain ⟨pp, oo, hpa, hcell⟩ := g5
  refine ⟨pp, oo, hpa, ⟨by omega, by omega⟩, ?_⟩
  conv => whnf
  refine ⟨x.cells, rfl, hcell, ?_⟩
  conv => whnf
  intro w8 hw8
  have hb8 : Blk w8 w7.heap.size 171 [.int .i64 0, .int .i64 0, .int .i64 0, .int .u32 0, .slice none 0 0] := by rw [hw8]; exact Blk.new w7 171 _
  have y8 : Ext w7 w8 := by rw [hw8]; exact Ext.new _ _
  clear hw8
  conv => whnf
  have k9 := Blk.storeAgg lok hb8 (t := 171) (us := x.cells) rfl 0 (Nat.le_refl 5) (O22.one x)
  obtain ⟨w9, hr9, ho9, hg9⟩ := k9
  have y9 : Ext w7 w9 := hg9.extOf y8 (fun g hg => by cases hg; exact Nat.le_refl _)
  have ho9 : Blk w9 w7.heap.size 171 x.cells := ho9
  refine ⟨w9, hr9, ?_⟩
  have k9 := K6.ext y9
  have x09 := x6.trans y9
  have r1 := K6.S.f.lt
  have r2 := K6.R.f.lt
  have r8 := ho9.lt
  have slen := sn.len
  clear hr9 hg9 y8 hb8 hcell K6
  have gbo : ∃ bo, bo = w7.heap.size := ⟨_, rfl⟩
  obtain ⟨bo, hbo⟩ := gbo
  rw [← hbo] at ho9 r8 ⊢
  have no : ¬ (bo = g ∨ bo = gw ∨ bo = hh ∨ bo = hw) := by omega
  have hS : ∀ k, (k = g ∨ k = gw ∨ k = hh ∨ k = hw) → w0.heap.size ≤ k := fun k hk => by rcases hk with e | e | e | e <;> omega
  conv => whnf
  refine ⟨_, ho9.cell (i := 0) rfl, ?_⟩
  conv => whnf
  refine vcCond_meet (fun _ : Unit => [(14, .bool true), (12, .int .i64 i), (13, .pointer (some ⟨bo, 0, none⟩)), (5, .pointer (some ⟨g, 0, none⟩)), (6, .pointer (some ⟨hh, 0, none⟩)), (8, .pointer (some ⟨sb, 0, none⟩)), (10, .pointer (some ⟨rb, 0, none⟩)), (1, .slice a xs.length c)])
    (fun _ w' => ∃ s', Both22 w0.heap.size w' g gw fc hh hw hd sb rb n s' ∧ Num s' 1792 (18 * i + 17) ∧ Mod (fun k => k = g ∨ k = gw ∨ k = hh ∨ k = hw) w9 w') ?_ ?_
  · refine vcCond_split lok rfl (fun h2 => ?_) (fun h2 => ?_)
    · -- Begin
      conv => whnf
      refine vcDraw_meet lok mixed (Mod (fun k => k = g ∨ k = gw ∨ k = hh ∨ k = hw) w9) [7] [0, 1, 2, 3, 4, 5, 6, 8, 9, 10, 11, 12, 13, 14, 7, 15, 16, 17]
        (fun β : Bool => [(14, .bool β)]) (fun β w' => β = true ∧ Mod (fun k => k = g ∨ k = gw ∨ k = hh ∨ k = hw) w9 w' ∧ Both22 w0.heap.size w' g gw fc hh hw hd sb rb n (beginSF s n x.slot x.m x.n).1) [14] (fun _ => rfl) rfl (by kernel_rfl)
        (fun w11 hw11 => ⟨Mod.ofExt _ (hw11 ▸ Ext.drew w9), ?_⟩) ?_
      · have y11 : Ext w9 w11 := hw11 ▸ Ext.drew w9
        clear hw11
        have m11 : Mod (fun k => k = g ∨ k = gw ∨ k = hh ∨ k = hw) w9 w11 := Mod.ofExt _ y11
        have k11 := k9.ext y11
        conv => whnf
        refine ⟨_, fun w' hw' => (hw'.keepBlk ho9 no).cell (i := 1) rfl, ?_⟩
        conv => whnf
        refine ⟨_, fun w' hw' => (hw'.keepBlk ho9 no).cell (i := 3) rfl, ?_⟩
        conv => whnf
        refine ⟨_, fun w' hw' => (hw'.keepBlk ho9 no).cell (i := 2) rfl, ?_⟩
        conv => whnf
        refine ⟨_, fun w' hw' => (hw'.keepBlk ho9 no).cell (i := 1) rfl, ?_⟩
        conv => whnf
        refine ⟨_, fun w' hw' => (hw'.keepBlk ho9 no).cell (i := 3) rfl, ?_⟩
        conv => whnf
        refine ⟨_, fun w' hw' => (hw'.keepBlk ho9 no).cell (i := 2) rfl, ?_⟩
        conv => whnf
        refine Calls.ret (sbegin_calls k11.S x.slot x.m x.n (by rw [slen]; exact sn) (by omega)) ?_
        rintro _ w12 ⟨rfl, S12, m12⟩
        have mm12 := m11.trans (m12.sub (S' := fun k => k = g ∨ k = gw ∨ k = hh ∨ k = hw) fun k _ hk => by rcases hk with e | e; exact .inl e; exact .inr (.inl e))
        refine ⟨_, fun _ h => h, mm12, ?_⟩
        conv => whnf
        have R12 := k11.keepR m12
        refine Calls.ret (rsbegin_calls R12 x.slot x.m x.n (by rw [slen]; exact sn) (by omega)) ?_
        rintro _ w13 ⟨rfl, R13, m13⟩
        have mm13 := mm12.trans (m13.sub (S' := fun k => k = g ∨ k = gw ∨ k = hh ∨ k = hw) fun k _ hk => by rcases hk with e | e; exact .inr (.inr (.inl e)); exact .inr (.inr (.inr e)))
        have k13 := k11.both S12 R13 m13
        conv => whnf
        exact ⟨_, ⟨rfl, trivial⟩, decide_eq_true rfl, mm13, k13⟩
      rintro β w11 ⟨rfl, m11, k11⟩
      conv => whnf
      exact ⟨(), ⟨rfl, rfl, rfl, rfl, rfl, rfl, rfl, rfl, trivial⟩, _, k11, begin_num sn, m11⟩
    clear h2
    conv => whnf
    refine vcCond_split lok rfl (fun h2 => ?_) (fun h2 => ?_)
    · -- Write
      conv => whnf
      refine ⟨_, ho9.cell (i := 4) rfl, ?_⟩
      conv => whnf
      refine Calls.ret (lent_calls (hox.sl.ext x09) (by omega)) ?_
      rintro _ w10 ⟨a10, c10, rfl, ho10, y10⟩
      conv => whnf
      have x010 := x09.trans y10
      have ho9 := ho9.ext y10
      have k10 := k9.ext y10
      have z10 := y10.size
      have nS : ∀ b, blockOf a10 = some b → ¬ (b = g ∨ b = gw ∨ b = hh ∨ b = hw) := fun b hb e => by have := (ho10.ge b hb).1; rcases e with e | e | e | e <;> omega
      have oc := ho10.le.1
      rw [List.length_append, List.length_singleton] at oc
      refine vcDraw_meet lok mixed (Mod (fun k => k = g ∨ k = gw ∨ k = hh ∨ k = hw) w10) [6, 14] [0, 1, 2, 3, 4, 5, 7, 8, 9, 10, 11, 12, 13, 6, 14, 15, 16, 17, 18, 19, 20, 21, 22]
        (fun β : Bool => [(14, .bool β)]) (fun β w' => β = true ∧ Mod (fun k => k = g ∨ k = gw ∨ k = hh ∨ k = hw) w10 w' ∧ Both22 w0.heap.size w' g gw fc hh hw hd sb rb n (writeSF s n x.slot x.n x.bytes).1) [14] (fun _ => rfl) rfl (by kernel_rfl)
        (fun w11 hw11 => ⟨Mod.ofExt _ (hw11 ▸ Ext.drew w10), ?_⟩) ?_
      · have y11 : Ext w10 w11 := hw11 ▸ Ext.drew w10
        clear hw11
        have m11 : Mod (fun k => k = g ∨ k = gw ∨ k = hh ∨ k = hw) w10 w11 := Mod.ofExt _ y11
        have k11 := k10.ext y11
        conv => whnf
        refine ⟨_, fun w' hw' => (hw'.keepBlk ho9 no).cell (i := 1) rfl, ?_⟩
        conv => whnf
        refine ⟨_, fun w' hw' => (hw'.keepBlk ho9 no).cell (i := 2) rfl, ?_⟩
        conv => whnf
        refine ⟨_, fun w' hw' => (hw'.keepBlk ho9 no).cell (i := 1) rfl, ?_⟩
        conv => whnf
        refine ⟨_, fun w' hw' => (hw'.keepBlk ho9 no).cell (i := 2) rfl, ?_⟩
        conv => whnf
        refine ⟨_, fun w' hw' => (hw'.keepBlk ho9 no).cell (i := 4) rfl, ?_⟩
        conv => whnf
        refine Calls.ret (swrite_calls k11.S x.slot x.n (b := x.bytes) (own_pre22 (ho10.ext y11)).sl hox.cap (by rw [slen]; exact sn) (by omega)) ?_
        rintro _ w12 ⟨rfl, S12, m12⟩
        have mm12 := m11.trans (m12.sub (S' := fun k => k = g ∨ k = gw ∨ k = hh ∨ k = hw) fun k _ hk => by rcases hk with e | e; exact .inl e; exact .inr (.inl e))
        refine ⟨_, fun _ h => h, mm12, ?_⟩
        conv => whnf
        have R12 := k11.keepR m12
        have hs12 := hox.sl.ext (mm12.above x010 hS)
        refine Calls.ret (rswrite_calls R12 x.slot x.n hox.n hs12 hox.cap (by rw [slen]; exact sn) (by omega)) ?_
        rintro _ w13 ⟨rfl, R13, m13⟩
        have mm13 := mm12.trans (m13.sub (S' := fun k => k = g ∨ k = gw ∨ k = hh ∨ k = hw) fun k _ hk => by rcases hk with e | e; exact .inr (.inr (.inl e)); exact .inr (.inr (.inr e)))
        have k13 := k11.both S12 R13 m13
        refine ⟨_, fun _ h => h, mm13, ?_⟩
        conv => whnf
        refine bcase (fun _ => ?_) (fun q => absurd q (by simp))
        conv => whnf
        refine ⟨_, fun w' hw' => (hw'.keepBlk ho9 no).cell (i := 4) rfl, ?_⟩
        conv => whnf
        refine Calls.ret (kept_calls (mm13.keepOwn ho10 nS).sl (hox.sl.ext (mm13.above x010 hS)) (by omega) (by omega)) ?_
        rintro _ w14 ⟨rfl, hw14⟩
        subst hw14
        conv => whnf
        exact ⟨_, ⟨rfl, trivial⟩, rfl, mm13, k13⟩
      rintro β w11 ⟨rfl, m11, k11⟩
      conv => whnf
      exact ⟨(), ⟨rfl, rfl, rfl, rfl, rfl, rfl, rfl, rfl, trivial⟩, _, k11, write_num sn, (Mod.ofExt _ y10).trans m11⟩
    clear h2
    conv => whnf
    refine vcCond_split lok rfl (fun h2 => ?_) (fun h2 => ?_)
    · -- Seal
      conv => whnf
      refine vcDraw_meet lok mixed (Mod (fun k => k = g ∨ k = gw ∨ k = hh ∨ k = hw) w9) [3] [0, 1, 2, 4, 5, 6, 3, 7, 8, 9]
        (fun β : Bool => [(14, .bool β)]) (fun β w' => β = true ∧ Mod (fun k => k = g ∨ k = gw ∨ k = hh ∨ k = hw) w9 w' ∧ Both22 w0.heap.size w' g gw fc hh hw hd sb rb n (sealSF s n x.slot).1) [14] (fun _ => rfl) rfl (by kernel_rfl)
        (fun w11 hw11 => ⟨Mod.ofExt _ (hw11 ▸ Ext.drew w9), ?_⟩) ?_
      · have y11 : Ext w9 w11 := hw11 ▸ Ext.drew w9
        clear hw11
        have m11 : Mod (fun k => k = g ∨ k = gw ∨ k = hh ∨ k = hw) w9 w11 := Mod.ofExt _ y11
        have k11 := k9.ext y11
        conv => whnf
        refine ⟨_, fun w' hw' => (hw'.keepBlk ho9 no).cell (i := 1) rfl, ?_⟩
        conv => whnf
        refine ⟨_, fun w' hw' => (hw'.keepBlk ho9 no).cell (i := 1) rfl, ?_⟩
        conv => whnf
        refine Calls.ret (sseal_calls k11.S x.slot (by rw [slen]; exact sn) (by omega)) ?_
        rintro _ w12 ⟨rfl, S12, m12⟩
        have mm12 := m11.trans (m12.sub (S' := fun k => k = g ∨ k = gw ∨ k = hh ∨ k = hw) fun k _ hk => by rcases hk with e | e; exact .inl e; exact .inr (.inl e))
        refine ⟨_, fun _ h => h, mm12, ?_⟩
        conv => whnf
        have R12 := k11.keepR m12
        refine Calls.ret (rsseal_calls R12 x.slot (by rw [slen]; exact sn) (by omega)) ?_
        rintro _ w13 ⟨rfl, R13, m13⟩
        have mm13 := mm12.trans (m13.sub (S' := fun k => k = g ∨ k = gw ∨ k = hh ∨ k = hw) fun k _ hk => by rcases hk with e | e; exact .inr (.inr (.inl e)); exact .inr (.inr (.inr e)))
        have k13 := k11.both S12 R13 m13
        conv => whnf
        exact ⟨_, ⟨rfl, trivial⟩, decide_eq_true rfl, mm13, k13⟩
      rintro β w11 ⟨rfl, m11, k11⟩
      conv => whnf
      exact ⟨(), ⟨rfl, rfl, rfl, rfl, rfl, rfl, rfl, rfl, trivial⟩, _, k11, seal_num sn, m11⟩
    clear h2
    conv => whnf
    refine vcCond_split lok rfl (fun h2 => ?_) (fun h2 => ?_)
    · -- Drop
      conv => whnf
      refine vcDraw_meet lok mixed (Mod (fun k => k = g ∨ k = gw ∨ k = hh ∨ k = hw) w9) [3] [0, 1, 2, 4, 5, 6, 3, 7, 8, 9]
        (fun β : Bool => [(14, .bool β)]) (fun β w' => β = true ∧ Mod (fun k => k = g ∨ k = gw ∨ k = hh ∨ k = hw) w9 w' ∧ Both22 w0.heap.size w' g gw fc hh hw hd sb rb n (dropSF s n x.slot).1) [14] (fun _ => rfl) rfl (by kernel_rfl)
        (fun w11 hw11 => ⟨Mod.ofExt _ (hw11 ▸ Ext.drew w9), ?_⟩) ?_
      · have y11 : Ext w9 w11 := hw11 ▸ Ext.drew w9
        clear hw11
        have m11 : Mod (fun k => k = g ∨ k = gw ∨ k = hh ∨ k = hw) w9 w11 := Mod.ofExt _ y11
        have k11 := k9.ext y11
        conv => whnf
        refine ⟨_, fun w' hw' => (hw'.keepBlk ho9 no).cell (i := 1) rfl, ?_⟩
        conv => whnf
        refine ⟨_, fun w' hw' => (hw'.keepBlk ho9 no).cell (i := 1) rfl, ?_⟩
        conv => whnf
        refine Calls.ret (sdrop_calls k11.S x.slot (by rw [slen]; exact sn) (by omega)) ?_
        rintro _ w12 ⟨rfl, S12, m12⟩
        have mm12 := m11.trans (m12.sub (S' := fun k => k = g ∨ k = gw ∨ k = hh ∨ k = hw) fun k _ hk => by rcases hk with e | e; exact .inl e; exact .inr (.inl e))
        refine ⟨_, fun _ h => h, mm12, ?_⟩
        conv => whnf
        have R12 := k11.keepR m12
        refine Calls.ret (rsdrop_calls R12 x.slot (by rw [slen]; exact sn) (by omega)) ?_
        rintro _ w13 ⟨rfl, R13, m13⟩
        have mm13 := mm12.trans (m13.sub (S' := fun k => k = g ∨ k = gw ∨ k = hh ∨ k = hw) fun k _ hk => by rcases hk with e | e; exact .inr (.inr (.inl e)); exact .inr (.inr (.inr e)))
        have k13 := k11.both S12 R13 m13
        conv => whnf
        exact ⟨_, ⟨rfl, trivial⟩, decide_eq_true rfl, mm13, k13⟩
      rintro β w11 ⟨rfl, m11, k11⟩
      conv => whnf
      exact ⟨(), ⟨rfl, rfl, rfl, rfl, rfl, rfl, rfl, rfl, trivial⟩, _, k11, drop_num sn, m11⟩
    clear h2
    conv => whnf
    refine vcCond_split lok rfl (fun h2 => ?_) (fun h2 => ?_)
    · -- Bytes
      conv => whnf
      refine ⟨_, ho9.cell (i := 1) rfl, ?_⟩
      conv => whnf
      refine Calls.ret (sbytes_calls k9.S x.slot) ?_
      rintro _ w10 ⟨a10, c10, rfl, ho10, y10⟩
      conv => whnf
      refine ⟨_, (ho9.ext y10).cell (i := 1) rfl, ?_⟩
      conv => whnf
      refine Calls.ret (rsbytes_calls (k9.ext y10).R x.slot) ?_
      rintro _ w11 ⟨a11, c11, rfl, hs11, y11⟩
      conv => whnf
      have y011 := y10.trans y11
      have hs10 := (ho10.ext y11).sl
      have gB : ∃ Q, Q = bytesSF s n x.slot := ⟨_, rfl⟩
      obtain ⟨Q, hQ⟩ := gB
      rw [← hQ] at hs10 hs11 ⊢
      clear hQ ho10
      obtain ⟨bs, be⟩ := Q
      have hs10 : Sl u8v w11 a10 bs := hs10
      have hs11 : Sl u8v w11 a11 bs := hs11
      conv => whnf
      refine vcReg_meet lok (fun β : Bool => [(14, .bool β)]) (fun β w' => β = true ∧ w' = w11) [14] (fun _ => rfl) rfl ?_ ?_
      · conv => whnf
        refine ⟨_, run_toStr hs10, ?_⟩
        conv => whnf
        refine ⟨_, run_toStr hs11, ?_⟩
        conv => whnf
        intro γ hγ
        have hγ2 : γ = true := by rw [str_eq hγ rfl rfl]; simp
        clear hγ
        subst hγ2
        conv => whnf
        exact ⟨_, ⟨rfl, trivial⟩, decide_eq_true rfl, rfl⟩
      rintro β w12 ⟨rfl, hw12⟩
      subst hw12
      conv => whnf
      exact ⟨(), ⟨rfl, rfl, rfl, rfl, rfl, rfl, rfl, rfl, trivial⟩, _, k9.ext y011, sn.up (by omega), Mod.ofExt _ y011⟩
    clear h2
    conv => whnf
    refine vcCond_split lok rfl (fun h2 => ?_) (fun h2 => ?_)
    · -- Cut
      conv => whnf
      refine vcDraw_meet lok mixed (Mod (fun k => k = g ∨ k = gw ∨ k = hh ∨ k = hw) w9) [5] [0, 1, 2, 3, 4, 6, 7, 8, 9, 10, 5, 11, 12, 13]
        (fun β : Bool => [(14, .bool β)]) (fun β w' => β = true ∧ Mod (fun k => k = g ∨ k = gw ∨ k = hh ∨ k = hw) w9 w' ∧ Both22 w0.heap.size w' g gw fc hh hw hd sb rb n (cutF s x.n x.m).1) [14] (fun _ => rfl) rfl (by kernel_rfl)
        (fun w11 hw11 => ⟨Mod.ofExt _ (hw11 ▸ Ext.drew w9), ?_⟩) ?_
      · have y11 : Ext w9 w11 := hw11 ▸ Ext.drew w9
        clear hw11
        have m11 : Mod (fun k => k = g ∨ k = gw ∨ k = hh ∨ k = hw) w9 w11 := Mod.ofExt _ y11
        have k11 := k9.ext y11
        conv => whnf
        refine ⟨_, fun w' hw' => (hw'.keepBlk ho9 no).cell (i := 2) rfl, ?_⟩
        conv => whnf
        refine ⟨_, fun w' hw' => (hw'.keepBlk ho9 no).cell (i := 3) rfl, ?_⟩
        conv => whnf
        refine ⟨_, fun w' hw' => (hw'.keepBlk ho9 no).cell (i := 2) rfl, ?_⟩
        conv => whnf
        refine ⟨_, fun w' hw' => (hw'.keepBlk ho9 no).cell (i := 3) rfl, ?_⟩
        conv => whnf
        refine Calls.ret (cut_calls k11.S.f x.n x.m) ?_
        rintro _ w12 ⟨rfl, f12, m12⟩
        have S12 := k11.S.next f12 m12 (by rw [cut_ws22])
        have mm12 := m11.trans (m12.sub (S' := fun k => k = g ∨ k = gw ∨ k = hh ∨ k = hw) fun k _ hk => by rcases hk with e | e; exact .inl e; exact .inr (.inl e))
        refine ⟨_, fun _ h => h, mm12, ?_⟩
        conv => whnf
        have R12 := k11.keepR m12
        refine Calls.ret (rcut_calls R12.f x.n x.m) ?_
        rintro _ w13 ⟨rfl, f13, m13⟩
        have R13 := R12.next f13 m13 (by rw [cut_ws22])
        have mm13 := mm12.trans (m13.sub (S' := fun k => k = g ∨ k = gw ∨ k = hh ∨ k = hw) fun k _ hk => by rcases hk with e | e; exact .inr (.inr (.inl e)); exact .inr (.inr (.inr e)))
        have k13 := k11.both S12 R13 m13
        conv => whnf
        exact ⟨_, ⟨rfl, trivial⟩, decide_eq_true rfl, mm13, k13⟩
      rintro β w11 ⟨rfl, m11, k11⟩
      conv => whnf
      exact ⟨(), ⟨rfl, rfl, rfl, rfl, rfl, rfl, rfl, rfl, trivial⟩, _, k11, (sn.cut x.n hox.n.2 x.m).up (by omega), m11⟩
    clear h2
    conv => whnf
    refine vcCond_split lok rfl (fun h2 => ?_) (fun h2 => ?_)
    · -- Start
      conv => whnf
      refine Calls.ret (start_calls k9.S.f) ?_
      rintro _ w10 ⟨rfl, f10, m10⟩
      conv => whnf
      have S10 := k9.S.next f10 m10 rfl
      have R10 := k9.keepR m10
      refine Calls.ret (rstart_calls R10.f) ?_
      rintro _ w11 ⟨rfl, f11, m11⟩
      conv => whnf
      have k11 := k9.both S10 (R10.next f11 m11 rfl) m11
      exact ⟨(), ⟨rfl, rfl, rfl, rfl, rfl, rfl, rfl, rfl, trivial⟩, _, k11, sn.start.up (by omega), (m10.sub (S' := fun k => k = g ∨ k = gw ∨ k = hh ∨ k = hw) fun k _ hk => by rcases hk with e | e; exact .inl e; exact .inr (.inl e)).trans (m11.sub (S' := fun k => k = g ∨ k = gw ∨ k = hh ∨ k = hw) fun k _ hk => by rcases hk with e | e; exact .inr (.inr (.inl e)); exact .inr (.inr (.inr e)))⟩
    · -- Program
      conv => whnf
      refine vcDraw_meet lok mixed (Mod (fun k => k = g ∨ k = gw ∨ k = hh ∨ k = hw) w9) [5] [0, 1, 2, 3, 4, 6, 7, 8, 9, 10, 5, 11, 12, 13]
        (fun β : Bool => [(14, .bool β)]) (fun β w' => β = true ∧ Mod (fun k => k = g ∨ k = gw ∨ k = hh ∨ k = hw) w9 w' ∧ Both22 w0.heap.size w' g gw fc hh hw hd sb rb n (progF s x.n x.m).1) [14] (fun _ => rfl) rfl (by kernel_rfl)
        (fun w11 hw11 => ⟨Mod.ofExt _ (hw11 ▸ Ext.drew w9), ?_⟩) ?_
      · have y11 : Ext w9 w11 := hw11 ▸ Ext.drew w9
        clear hw11
        have m11 : Mod (fun k => k = g ∨ k = gw ∨ k = hh ∨ k = hw) w9 w11 := Mod.ofExt _ y11
        have k11 := k9.ext y11
        conv => whnf
        refine ⟨_, fun w' hw' => (hw'.keepBlk ho9 no).cell (i := 2) rfl, ?_⟩
        conv => whnf
        refine ⟨_, fun w' hw' => (hw'.keepBlk ho9 no).cell (i := 3) rfl, ?_⟩
        conv => whnf
        refine ⟨_, fun w' hw' => (hw'.keepBlk ho9 no).cell (i := 2) rfl, ?_⟩
        conv => whnf
        refine ⟨_, fun w' hw' => (hw'.keepBlk ho9 no).cell (i := 3) rfl, ?_⟩
        conv => whnf
        refine Calls.ret (prog_calls k11.S.f x.n x.m (by omega) (sn.ok (by omega))) ?_
        rintro _ w12 ⟨rfl, f12, m12⟩
        have S12 := k11.S.next f12 m12 ((progF_le s x.n x.m).len)
        have mm12 := m11.trans (m12.sub (S' := fun k => k = g ∨ k = gw ∨ k = hh ∨ k = hw) fun k _ hk => by rcases hk with e | e; exact .inl e; exact .inr (.inl e))
        refine ⟨_, fun _ h => h, mm12, ?_⟩
        conv => whnf
        have R12 := k11.keepR m12
        refine Calls.ret (rprog_calls R12.f x.n x.m (by omega) (sn.ok (by omega))) ?_
        rintro _ w13 ⟨rfl, f13, m13⟩
        have R13 := R12.next f13 m13 ((progF_le s x.n x.m).len)
        have mm13 := mm12.trans (m13.sub (S' := fun k => k = g ∨ k = gw ∨ k = hh ∨ k = hw) fun k _ hk => by rcases hk with e | e; exact .inr (.inr (.inl e)); exact .inr (.inr (.inr e)))
        have k13 := k11.both S12 R13 m13
        conv => whnf
        exact ⟨_, ⟨rfl, trivial⟩, decide_eq_true rfl, mm13, k13⟩
      rintro β w11 ⟨rfl, m11, k11⟩
      conv => whnf
      exact ⟨(), ⟨rfl, rfl, rfl, rfl, rfl, rfl, rfl, rfl, trivial⟩, _, k11, (sn.prog x.n x.m).up (by omega), m11⟩
  rintro ⟨⟩ w10 ⟨s', k10, sn10, m10⟩
  have ho10 := m10.keepBlk ho9 no
  have x010 := m10.above x09 hS
  have sl10 := sn10.len
  clear k9 ho9 m10
  conv => whnf
  refine vcDraw_meet lok mixed (Ext w10) [5, 11, 19, 24] [0, 1, 2, 3, 4, 5, 6, 7, 8, 9, 10, 11, 12, 13, 14, 15, 16, 17, 18, 19, 20, 21, 22, 23, 25, 26, 27, 28, 24, 29, 30, 31]
    (fun β : Bool => [(238, .bool β)]) (fun β w' => β = false ∧ Ext w10 w') [238] (fun _ => rfl) rfl (by kernel_rfl) (fun w11 hw11 => ⟨hw11 ▸ Ext.drew w10, ?_⟩) ?_
  · have y11 : Ext w10 w11 := hw11 ▸ Ext.drew w10
    clear hw11
    conv => whnf
    refine Calls.ret (salike_calls (k10.ext y11) 0) ?_
    rintro _ w12 ⟨rfl, y12⟩
    have y12 := y11.trans y12
    refine ⟨_, fun _ h => h, y12, ?_⟩
    conv => whnf
    refine Calls.ret (salike_calls (k10.ext y12) 1) ?_
    rintro _ w13 ⟨rfl, y13⟩
    have y13 := y12.trans y13
    refine ⟨_, fun _ h => h, y13, ?_⟩
    conv => whnf
    refine ⟨_, fun w' hw' => (ho10.ext hw').cell (i := 1) rfl, ?_⟩
    conv => whnf
    refine Calls.ret (salike_calls (k10.ext y13) x.slot) ?_
    rintro _ w14 ⟨rfl, y14⟩
    have y14 := y13.trans y14
    refine ⟨_, fun _ h => h, y14, ?_⟩
    conv => whnf
    refine ⟨_, fun w' hw' => (k10.R.f.blk.ext hw').cell (i := 0) rfl, ?_⟩
    conv => whnf
    refine Calls.ret (fwords_calls (k10.ext y14).S.f (by omega)) ?_
    rintro _ w15 ⟨a15, c15, rfl, ho15, y15⟩
    have y15 := y14.trans y15
    refine ⟨_, fun _ h => h, y15, ?_⟩
    conv => whnf
    refine Calls.ret (same_calls ho15.sl (k10.ext y15).R.f.own.sl (by omega)) ?_
    rintro _ w16 ⟨rfl, y16⟩
    conv => whnf
    exact ⟨_, ⟨rfl, trivial⟩, by rw [decide_eq_true rfl]; rfl, y15.trans y16⟩
  rintro β w11 ⟨rfl, y11⟩
  conv => whnf
  refine vcCond_false lok (rfl) ?_
  conv => whnf
  refine ⟨by omega, ?_⟩
  conv => whnf
  exact ⟨(i + 1, s'), ⟨rfl, rfl, rfl, rfl, rfl, rfl, trivial⟩, ⟨by omega, by omega, k10.ext y11, sn10.up (by omega), x010.trans y11⟩, by show 60 - (i + 1) < 60 - i; omega⟩
end Go.Proofs.Ytgipackjnncabaa

/- The law XferReceives, walked. -/
set_option linter.unusedVariables false
namespace Go.Proofs.Ytgipackjnncabaa
open Go.Vc Go.RowKit

theorem rcv_num {s : FS} {N i n : Nat} {slot : Int} {least : BitVec 32} {busy : Bool} {b : List (BitVec 8)} (h : Num s N i) : Num (rcvF s n slot least busy b).1 N (i + 34) := by
  unfold rcvF
  split
  · exact h.up (by omega)
  split
  · exact h.up (by omega)
  split
  · exact h.up (by omega)
  split
  · unfold offerF
    split
    · exact h.up (by omega)
    split
    · exact h.up (by omega)
    split
    · exact (begin_num h).up (by omega)
    · exact (begin_num h).up (by omega)
  · unfold dataF
    split
    · exact h.up (by omega)
    split
    · exact (write_num h).up (by omega)
    split
    · split
      · exact (drop_num (write_num h)).up (by omega)
      · exact (drop_num (write_num h)).up (by omega)
    · exact (write_num h).up (by omega)

/-- bytes: what they bring is the caller's, or new -/
def BytesIn (w0 : World) (B : Nat) (w' : World) (a : Option Addr) (c : Nat) (bs : List (BitVec 8)) : Prop := Sl u8v w0 a bs ∨ Own 5 u8v B w' a c bs
theorem BytesIn.sl {w0 w w' : World} {B : Nat} {a : Option Addr} {c : Nat} {bs : List (BitVec 8)} (h : BytesIn w0 B w a c bs) {S : Nat → Prop} (x : Ext w0 w') (m : Mod S w w') (hS : ∀ k, B ≤ k → ¬ S k) : Sl u8v w' a bs := by
  rcases h with h | h
  · exact h.ext x
  · exact (m.keepOwn h (fun k hk => hS k (h.ge k hk).1)).sl
theorem evBytes2_calls {w0 w : World} (x0 : Ext w0 w) (e : Ev) (h : EvOk w0 e) :
    Calls Try.prog 76 #[.agg e.cells.toArray] w (Ret fun v w' => ∃ a c, v = .slice a (bytesE e).length c ∧ BytesIn w0 w.heap.size w' a c (bytesE e) ∧ (bytesE e).length ≤ c ∧ Ext w w') := by
  refine calls_of_vc lok Try.func76 ?_ rfl
  conv => whnf
  intro w1 hw1
  have hb1 : Blk w1 w.heap.size 72 e.cells := by rw [hw1]; exact Blk.new w 72 _
  have x1 : Ext w w1 := by rw [hw1]; exact Ext.new _ _
  clear hw1
  conv => whnf
  refine ⟨_, hb1.cell (i := 1) rfl, ?_⟩
  conv => whnf
  refine vcCond_split lok rfl (fun h1 => ?_) (fun h1 => ?_)
  · have er : bytesE e = e.b.take 3000 := if_pos h1
    have el : (bytesE e).length = min 3000 e.b.length := by rw [er, List.length_take]
    conv => whnf
    refine ⟨_, hb1.cell (i := 2) rfl, ?_⟩
    conv => whnf
    refine ⟨_, hb1.cell (i := 2) rfl, ?_⟩
    conv => whnf
    have e5 : (if (3000 : Int) < (e.b.length : Int) then (3000 : Int) else (e.b.length : Int)) = ((bytesE e).length : Int) := by rw [el]; split <;> omega
    rw [e5]
    have hbc := h.bc
    refine ⟨⟨by omega, by omega⟩, ?_⟩
    rw [Int.toNat_natCast]
    conv => whnf
    exact ⟨e.ba, e.bc, rfl, .inl (by rw [er]; exact h.b.take 3000), by omega, x1⟩
  · have er : bytesE e = (packF e.p).1 := if_neg (by rw [h1]; exact Bool.false_ne_true)
    conv => whnf
    refine ⟨e.p.cells e.pa e.pc, rfl, hb1.cellsAt 3 _ (fun i v hv => by rw [← hv]; exact (List.getElem?_append_right (Nat.le_add_right 3 i)).trans (by show (e.p.cells e.pa e.pc)[3 + i - 3]? = _; rw [show 3 + i - 3 = i by omega])), ?_⟩
    conv => whnf
    refine Calls.ret (rpack_calls e.p (h.p.ext (x0.trans x1))) ?_
    rintro _ w2 ⟨a2, c2, rfl, ho2, x2⟩
    conv => whnf
    rw [er]
    exact ⟨a2, c2, rfl, .inr (ho2.base x1.size), ho2.le.1, x1.trans x2⟩

set_option maxRecDepth 100000 in
set_option maxHeartbeats 16000000 in
theorem xferReceives_walk {w : World} {a : Option Addr} {c : Nat} {xs : List Tn} (h : SlN 15 Tn.cells w a xs) (hl : xs.length ≤ 9223372036854775807) (hok : ∀ x ∈ xs, EvOk w x.e) :
    Calls Try.prog 12 #[.slice a xs.length c] w (Law w) := by
  refine calls_of_vc lok Try.func12 ?_ rfl
  conv => whnf
  refine Calls.ret (new_calls 6) ?_
  rintro _ w1 hp
  conv => whnf
  rcases hp with ⟨hno, _, _⟩ | ⟨_, g, gw, fc, rfl, f1, x1⟩
  · exact absurd hno (by decide)
  conv => whnf
  refine Calls.ret (made_calls 6) ?_
  rintro _ w2 hp
  conv => whnf
  rcases hp with ⟨hno, _⟩ | ⟨_, hh, hw, hd, rfl, r2, x2⟩
  · exact absurd hno (by decide)
  have gs0 : ∃ s0, s0 = newFS (List.replicate (256 * (6 : Int).toNat) ones) ∧ Num s0 1536 0 := ⟨_, rfl, List.length_replicate, ⟨Int.le_refl _, Int.le_refl _⟩, by show (-1 : Int) ≤ _; decide⟩
  obtain ⟨s0, hs0, sn0⟩ := gs0
  rw [← hs0] at f1 r2
  clear hs0
  have l0 := sn0.len
  have q1 := f1.lo
  have q2 := f1.lt
  have q3 := r2.lo
  have q4 := r2.lt
  have z1 := x1.size
  have z2 := x2.size
  conv => whnf
  refine Calls.ret (sopen_calls (f1.ext x2) (by omega) 0) ?_
  rintro _ w3 hp
  conv => whnf
  rcases hp with ⟨hno, _, _⟩ | ⟨m, hm, hn, sb, rfl, hsb, S3, x3⟩
  · exact absurd ⟨by decide, by rw [l0]; decide⟩ hno
  have hm0 : m = 0 := by omega
  subst hm0
  clear hm hn
  have x03 := x1.trans (x2.trans x3)
  have z3 := x3.size
  have q5 := S3.b.lt
  conv => whnf
  refine Calls.ret (rsopen_calls (r2.ext x3) (by omega) 0) ?_
  rintro _ w4 hp
  conv => whnf
  rcases hp with ⟨hno, _⟩ | ⟨m, hm, _, rb, rfl, hrb, hrb2, R4, x4⟩
  · exact absurd ⟨by decide, by rw [l0]; decide⟩ hno
  have hm0 : m = 0 := by omega
  subst hm0
  have x04 := x03.trans x4
  have z4 := x4.size
  have K4 : Both22 w.heap.size w4 g gw fc hh hw hd sb rb 0 s0 := ⟨S3.ext x4, ⟨R4.f.base (by omega), R4.b, R4.n1, R4.n2, R4.room, R4.small⟩, by omega, by omega⟩
  have o1 : w.heap.size ≤ g ∧ w.heap.size ≤ gw ∧ w.heap.size ≤ hh ∧ w.heap.size ≤ hw := by omega
  clear f1 r2 S3 R4 q1 q2 q3 q4 q5 z1 z2 z3 z4 hsb hrb hrb2 x1 x2 x3 x4 x03
  obtain ⟨o1, o2, o3, o4⟩ := o1
  conv => whnf
  refine vcReg_meet lok (fun β : Bool => [(51, .bool β)]) (fun β w' => w' = w4 ∧ β = false) [51] (fun _ => rfl) rfl ?_ ?_
  · conv => whnf
    exact ⟨_, ⟨rfl, trivial⟩, rfl, rfl⟩
  rintro β w5 ⟨hw5, rfl⟩
  subst hw5
  conv => whnf
  refine vcCond_false lok (rfl) ?_
  conv => whnf
  refine vcLoop_inv lok (σ := Nat × FS)
    (fun ⟨i, s⟩ => [(10, .int .i64 i), (3, .pointer (some ⟨g, 0, none⟩)), (4, .pointer (some ⟨hh, 0, none⟩)), (6, .pointer (some ⟨sb, 0, none⟩)), (8, .pointer (some ⟨rb, 0, none⟩)), (0, .slice a xs.length c)])
    (fun ⟨i, s⟩ w' => i ≤ xs.length ∧ i ≤ 40 ∧ Both22 w.heap.size w' g gw fc hh hw hd sb rb 0 s ∧ Num s 1536 (40 * i) ∧ Ext w w') (fun t => 40 - t.1)
    (0, s0) ⟨rfl, rfl, rfl, rfl, rfl, rfl, trivial⟩ ⟨Nat.zero_le _, Nat.zero_le _, K4, sn0, x04⟩ ?_
  rintro ⟨i, s⟩ w6 ⟨hi, hi40, K6, sn, x6⟩
  conv => whnf
  refine vcReg_meet lok (fun β : Bool => [(59, .bool β)]) (fun β w' => w' = w6 ∧ β = decide (i < xs.length ∧ i < 40)) [59] (fun _ => rfl) rfl ?_ ?_
  · conv => whnf
    refine bcase (fun h1 => ?_) (fun h1 => ?_)
    · have h1 := dt h1
      conv => whnf
      refine ⟨_, ⟨rfl, trivial⟩, rfl, ?_⟩
      rw [decide_eq_decide]; omega
    · have h1 := df h1
      conv => whnf
      exact ⟨_, ⟨rfl, trivial⟩, rfl, by rw [decide_eq_false (by omega)]⟩
  rintro β w7 ⟨hw7, hβ⟩
  subst hw7
  conv => whnf
  refine vcCond_split lok rfl (fun h1 => ?_) (fun h1 => ?_)
  rotate_left
  · conv => whnf
    refine Calls.ret (rcvNil_calls 0 0 false (.slice none 0 0)) ?_
    rintro _ w8 ⟨rfl, hw8⟩
    conv => whnf
    subst hw8
    refine vcReg_go lok ?_
    conv => whnf
    refine Calls.ret (known23) ?_
    rintro _ w9 ⟨rfl, x9⟩
    conv => whnf
    exact ⟨rfl, x6.trans x9⟩
  rw [h1] at hβ
  have hlt2 := dt hβ.symm
  clear hβ h1
  have hixs : i < xs.length := hlt2.1
  have hox := hok xs[i] (List.getElem_mem hixs)
  conv => whnf
  have g5 := (h.ext x6).at i hixs
  have gx : ∃ x, x = xs[i] := ⟨_, rfl⟩
  obtain ⟨x, hx⟩ := gx
  rw [← hx] at g5 hox
  clear hx
  obtain ⟨pp, oo, hpa, hcell⟩ := g5
  refine ⟨pp, oo, hpa, ⟨by omega, by omega⟩, ?_⟩
  conv => whnf
  refine ⟨x.cells, rfl, hcell, ?_⟩
  conv => whnf
  intro w8 hw8
  have hb8 : Blk w8 w7.heap.size 74 [.bool false, .bool false, .slice none 0 0, .int .i64 0, .int .u32 0, .int .i64 0, .int .i64 0, .int .i64 0, .int .u32 0, .slice none 0 0, .int .i64 0, .int .u32 0, .bool false, .int .u8 0, .int .u32 0] := by rw [hw8]; exact Blk.new w7 74 _
  have y8 : Ext w7 w8 := by rw [hw8]; exact Ext.new _ _
  clear hw8
  conv => whnf
  have k9 := Blk.storeAgg lok hb8 (t := 74) (us := x.cells) rfl 0 (Nat.le_refl 15) (Tn.one x)
  obtain ⟨w9, hr9, ho9, hg9⟩ := k9
  have y9 : Ext w7 w9 := hg9.extOf y8 (fun g hg => by cases hg; exact Nat.le_refl _)
  have ho9 : Blk w9 w7.heap.size 74 x.cells := ho9
  refine ⟨w9, hr9, ?_⟩
  have k9 := K6.ext y9
  have x09 := x6.trans y9
  have r1 := K6.S.f.lt
  have r2 := K6.R.f.lt
  have r8 := ho9.lt
  have slen := sn.len
  clear hr9 hg9 y8 hb8 hcell K6
  have gbo : ∃ bo, bo = w7.heap.size := ⟨_, rfl⟩
  obtain ⟨bo, hbo⟩ := gbo
  rw [← hbo] at ho9 r8 ⊢
  have no : ¬ (bo = g ∨ bo = gw ∨ bo = hh ∨ bo = hw) := by omega
  have hS : ∀ k, (k = g ∨ k = gw ∨ k = hh ∨ k = hw) → w.heap.size ≤ k := fun k hk => by rcases hk with e | e | e | e <;> omega
  have hS9 : ∀ k, w9.heap.size ≤ k → ¬ (k = g ∨ k = gw ∨ k = hh ∨ k = hw) := fun k hk e => by rcases e with e | e | e | e <;> omega
  have s1 : ∀ {u v : World}, FlMod g gw u v → Mod (fun k => k = g ∨ k = gw ∨ k = hh ∨ k = hw) u v := fun m => m.sub fun k _ hk => by rcases hk with e | e; exact .inl e; exact .inr (.inl e)
  have s2 : ∀ {u v : World}, FlMod hh hw u v → Mod (fun k => k = g ∨ k = gw ∨ k = hh ∨ k = hw) u v := fun m => m.sub fun k _ hk => by rcases hk with e | e; exact .inr (.inr (.inl e)); exact .inr (.inr (.inr e))
  have hcl := x.cut.isLt
  conv => whnf
  refine ⟨_, ho9.cell (i := 13) rfl, ?_⟩
  conv => whnf
  refine vcCond_meet (fun _ : Unit => [(10, .int .i64 i), (11, .pointer (some ⟨bo, 0, none⟩)), (3, .pointer (some ⟨g, 0, none⟩)), (4, .pointer (some ⟨hh, 0, none⟩)), (6, .pointer (some ⟨sb, 0, none⟩)), (8, .pointer (some ⟨rb, 0, none⟩)), (0, .slice a xs.length c)])
    (fun _ w' => ∃ s', Both22 w.heap.size w' g gw fc hh hw hd sb rb 0 s' ∧ Num s' 1536 (40 * i + 1) ∧ Mod (fun k => k = g ∨ k = gw ∨ k = hh ∨ k = hw) w9 w') ?_ ?_
  · refine vcCond_split lok rfl (fun h2 => ?_) (fun h2 => ?_)
    · conv => whnf
      refine ⟨_, ho9.cell (i := 13) rfl, ?_⟩
      conv => whnf
      intro z hz
      have hz43 : z = (x.cut.toNat : Int) := by rw [hz]; exact wi64 (by omega)
      clear hz
      subst hz43
      conv => whnf
      refine ⟨by omega, ?_⟩
      conv => whnf
      refine ⟨_, ho9.cell (i := 5 + 9) rfl, ?_⟩
      conv => whnf
      refine Calls.ret (cut_calls k9.S.f ((x.cut.toNat : Int) - 1) x.mask) ?_
      rintro _ w10 ⟨rfl, f10, m10⟩
      conv => whnf
      have S10 := k9.S.next f10 m10 (by rw [cut_ws22])
      have ho10 := (s1 m10).keepBlk ho9 no
      have R10 := k9.keepR m10
      refine ⟨_, ho10.cell (i := 13) rfl, ?_⟩
      conv => whnf
      intro z hz
      have hz48 : z = (x.cut.toNat : Int) := by rw [hz]; exact wi64 (by omega)
      clear hz
      subst hz48
      conv => whnf
      refine ⟨by omega, ?_⟩
      conv => whnf
      refine ⟨_, ho10.cell (i := 5 + 9) rfl, ?_⟩
      conv => whnf
      refine Calls.ret (rcut_calls R10.f ((x.cut.toNat : Int) - 1) x.mask) ?_
      rintro _ w11 ⟨rfl, f11, m11⟩
      conv => whnf
      have k11 := k9.both S10 (R10.next f11 m11 (by rw [cut_ws22])) m11
      exact ⟨(), ⟨rfl, rfl, rfl, rfl, rfl, rfl, rfl, trivial⟩, _, k11, sn.cut _ (by omega) _, (s1 m10).trans (s2 m11)⟩
    · conv => whnf
      exact ⟨(), ⟨rfl, rfl, rfl, rfl, rfl, rfl, rfl, trivial⟩, s, k9, sn.up (by omega), Mod.refl _ _⟩
  rintro ⟨⟩ w10 ⟨s1', k10, sn10, m10⟩
  have ho10 := m10.keepBlk ho9 no
  have x010 := m10.above x09 hS
  have z10 := m10.size
  have sl10 := sn10.len
  clear k9 sn slen
  conv => whnf
  refine ⟨x.e.cells, rfl, ho10.cellsAt 0 _ x.ev_cells, ?_⟩
  conv => whnf
  have hebl := bytesE_len x.e
  refine Calls.ret (evBytes2_calls x010 x.e hox) ?_
  rintro _ w11 ⟨a11, c11, rfl, hb11, hbc11, x11⟩
  conv => whnf
  have gbs : ∃ bs, bs = bytesE x.e := ⟨_, rfl⟩
  obtain ⟨bs, hbs⟩ := gbs
  rw [← hbs] at hb11 hbc11 hebl ⊢
  clear hbs
  have x011 := x010.trans x11
  have k11 := k10.ext x11
  have ho11 := ho10.ext x11
  have z11 := x11.size
  refine ⟨_, ho11.cell (i := 10) rfl, ?_⟩
  conv => whnf
  refine ⟨_, ho11.cell (i := 11) rfl, ?_⟩
  conv => whnf
  refine ⟨_, ho11.cell (i := 12) rfl, ?_⟩
  conv => whnf
  refine Calls.ret (rcv_calls k11.S x.slot x.least x.busy (hb11.sl x011 (Mod.refl (fun _ => False) _) (fun _ _ q => q)) (by omega) hbc11 (by rw [sl10]; exact sn10) (by omega)) ?_
  rintro _ w12 ⟨a12, c12, rfl, ho12, S12, m12⟩
  conv => whnf
  have n12 := rcv_num (n := 0) (slot := x.slot) (least := x.least) (busy := x.busy) (b := bs) sn10
  have x012 := (s1 m12).above x011 hS
  have ho12b := (s1 m12).keepBlk ho11 no
  have R12 := k11.keepR m12
  have z12 := m12.size
  refine ⟨_, ho12b.cell (i := 10) rfl, ?_⟩
  conv => whnf
  refine ⟨_, ho12b.cell (i := 11) rfl, ?_⟩
  conv => whnf
  refine ⟨_, ho12b.cell (i := 12) rfl, ?_⟩
  conv => whnf
  refine Calls.ret (rrcv_calls R12 x.slot x.least x.busy (hb11.sl x012 (s1 m12) (fun k hk => hS9 k (by omega))) (by omega) hbc11 (by rw [sl10]; exact sn10) (by omega)) ?_
  rintro _ w13 ⟨a13, c13, rfl, ho13, R13, m13⟩
  conv => whnf
  have k13 := k11.both S12 R13 m13
  have x013 := (s2 m13).above x012 hS
  have ho13b := (s2 m13).keepBlk ho12b no
  have hx13 := (s2 m13).keepOwn ho12 (fun k hk => hS9 k (by have := (ho12.ge k hk).1; omega))
  have gR : ∃ R, R = rcvF s1' 0 x.slot x.least x.busy bs := ⟨_, rfl⟩
  obtain ⟨R, hR⟩ := gR
  rw [← hR] at ho13 k13 hx13 n12 ⊢
  clear hR ho12 S12 R13 R12
  obtain ⟨s3, r2', r3⟩ := R
  have hx13 : Sl u8v w13 a12 r2' := hx13.sl
  have hy13 : Sl u8v w13 a13 r2' := ho13.sl
  have k13 : Both22 w.heap.size w13 g gw fc hh hw hd sb rb 0 s3 := k13
  have n12 : Num s3 1536 (40 * i + 1 + 34) := n12
  have sl13 := n12.len
  clear ho13
  dsimp only
  conv => whnf
  refine vcDraw_meet lok mixed (Ext w13) [12, 17, 22] [0, 1, 2, 3, 4, 5, 6, 7, 8, 9, 10, 11, 13, 14, 15, 16, 12, 17, 18, 19, 20, 21, 23, 24, 25, 26, 22, 27, 28]
    (fun β : Bool => [(140, .bool β)]) (fun β w' => β = false ∧ Ext w13 w') [140] (fun _ => rfl) rfl (by kernel_rfl) (fun w14 hw14 => ⟨hw14 ▸ Ext.drew w13, ?_⟩) ?_
  · have y14 : Ext w13 w14 := hw14 ▸ Ext.drew w13
    clear hw14
    conv => whnf
    refine ⟨_, fun w' hw' => run_toStr (hx13.ext hw'), ?_⟩
    conv => whnf
    refine ⟨_, fun w' hw' => run_toStr (hy13.ext hw'), ?_⟩
    conv => whnf
    intro γ hγ
    have hγ2 : γ = true := by rw [str_eq hγ rfl rfl]; simp
    clear hγ
    subst hγ2
    conv => whnf
    refine bcase (fun q => absurd q (by simp)) (fun _ => ?_)
    conv => whnf
    refine ⟨_, fun w' hw' => (k13.R.f.blk.ext hw').cell (i := 0) rfl, ?_⟩
    conv => whnf
    refine Calls.ret (fwords_calls (k13.ext y14).S.f (by omega)) ?_
    rintro _ w15 ⟨a15, c15, rfl, ho15, y15⟩
    have y15 := y14.trans y15
    refine ⟨_, fun _ h => h, y15, ?_⟩
    conv => whnf
    refine Calls.ret (same_calls ho15.sl (k13.ext y15).R.f.own.sl (by omega)) ?_
    rintro _ w16 ⟨rfl, y16⟩
    have y16 := y15.trans y16
    refine ⟨_, fun _ h => h, y16, ?_⟩
    conv => whnf
    refine bcase (fun q => absurd q (by simp)) (fun _ => ?_)
    conv => whnf
    refine ⟨_, fun w' hw' => (k13.R.f.blk.ext hw').cell (i := 1) rfl, ?_⟩
    conv => whnf
    refine Calls.ret (fon_calls (k13.ext y16).S.f) ?_
    rintro _ w17 ⟨rfl, hw17⟩
    subst hw17
    refine ⟨_, fun _ h => h, y16, ?_⟩
    conv => whnf
    refine ⟨_, ⟨rfl, trivial⟩, ?_, y16⟩
    cases s3.off <;> rfl
  rintro β w14 ⟨rfl, y14⟩
  have k14 := k13.ext y14
  have x014 := x013.trans y14
  have ho14 := ho13b.ext y14
  clear k13 hx13 hy13 x013 ho13b x012 x011 ho11 ho12b k10 k11 ho10 x010
  conv => whnf
  refine vcCond_false lok (rfl) ?_
  conv => whnf
  refine ⟨_, ho14.cell (i := 13) rfl, ?_⟩
  conv => whnf
  refine ⟨by decide, ?_⟩
  intro z hz
  have hz79 : z = ((x.cut.toNat % 2 : Nat) : Int) := by rw [hz]; exact rem_nat x.cut.toNat 2
  clear hz
  subst hz79
  conv => whnf
  refine vcCond_meet (fun _ : Unit => [(10, .int .i64 i), (3, .pointer (some ⟨g, 0, none⟩)), (4, .pointer (some ⟨hh, 0, none⟩)), (6, .pointer (some ⟨sb, 0, none⟩)), (8, .pointer (some ⟨rb, 0, none⟩)), (0, .slice a xs.length c)])
    (fun _ w' => ∃ s', Both22 w.heap.size w' g gw fc hh hw hd sb rb 0 s' ∧ Num s' 1536 (40 * i + 40) ∧ Ext w w') ?_ ?_
  · refine vcCond_split lok rfl (fun h2 => ?_) (fun h2 => ?_)
    · conv => whnf
      refine Calls.ret (start_calls k14.S.f) ?_
      rintro _ w15 ⟨rfl, f15, m15⟩
      conv => whnf
      have S15 := k14.S.next f15 m15 rfl
      have R15 := k14.keepR m15
      refine Calls.ret (rstart_calls R15.f) ?_
      rintro _ w16 ⟨rfl, f16, m16⟩
      conv => whnf
      have k16 := k14.both S15 (R15.next f16 m16 rfl) m16
      exact ⟨(), ⟨rfl, rfl, rfl, rfl, rfl, rfl, trivial⟩, _, k16, n12.start.up (by omega), ((s1 m15).trans (s2 m16)).above x014 hS⟩
    · conv => whnf
      exact ⟨(), ⟨rfl, rfl, rfl, rfl, rfl, rfl, trivial⟩, s3, k14, n12.up (by omega), x014⟩
  rintro ⟨⟩ w15 ⟨s4, k15, n15, x15⟩
  conv => whnf
  refine ⟨by omega, ?_⟩
  conv => whnf
  exact ⟨(i + 1, s4), ⟨rfl, rfl, rfl, rfl, rfl, rfl, trivial⟩, ⟨by omega, by omega, k15, n15.up (by omega), x15⟩, by show 40 - (i + 1) < 40 - i; omega⟩
end Go.Proofs.Ytgipackjnncabaa

/- The closed facts of the whole program that each row asks, the head word read as a list of characters once. Printed by a program. -/
set_option linter.unusedVariables false
set_option maxRecDepth 100000
namespace Go.Proofs.Ytgipackjnncabaa.hd
open Go Go.RowKit
def codes : List Nat := [104, 97, 114, 110, 101, 115, 115, 32, 99, 102, 55, 97, 102, 50, 51, 49, 57, 56, 98, 49, 57, 51, 102, 100, 98, 52, 99, 55, 55, 51, 54, 53, 98, 100, 52, 54, 57, 57, 48, 97, 50, 50, 97, 50, 102, 56, 54, 56, 52, 56, 98, 55, 55, 56, 51, 48, 97, 102, 99, 99, 99, 48, 100, 48, 54, 98, 52, 55, 52, 56, 102, 50, 32, 99, 117, 116, 32, 97, 116, 32, 109, 105, 100, 115, 116, 114, 101, 97, 109, 47, 109, 105, 100, 115, 116, 114, 101, 97, 109, 108, 97, 119, 48, 50, 46, 79, 99, 116, 101, 116, 80, 117, 116, 115, 32, 109, 105, 100, 115, 116, 114, 101, 97, 109, 47, 109, 105, 100, 115, 116, 114, 101, 97, 109, 108, 97, 119, 48, 50, 46, 79, 99, 116, 101, 116, 71, 101, 116, 115, 32, 109, 105, 100, 115, 116, 114, 101, 97, 109, 47, 109, 105, 100, 115, 116, 114, 101, 97, 109, 108, 97, 119, 48, 50, 46, 79, 99, 116, 101, 116, 66, 97, 99, 107, 32, 109, 105, 100, 115, 116, 114, 101, 97, 109, 47, 109, 105, 100, 115, 116, 114, 101, 97, 109, 108, 97, 119, 48, 50, 46, 79, 99, 116, 101, 116, 87, 104, 111, 108, 101, 32, 109, 105, 100, 115, 116, 114, 101, 97, 109, 47, 109, 105, 100, 115, 116, 114, 101, 97, 109, 108, 97, 119, 48, 50, 46, 79, 99, 116, 101, 116, 87, 111, 114, 100, 115, 32, 109, 105, 100, 115, 116, 114, 101, 97, 109, 47, 109, 105, 100, 115, 116, 114, 101, 97, 109, 108, 97, 119, 48, 50, 46, 79, 99, 116, 101, 116, 82, 117, 110, 115, 32, 109, 105, 100, 115, 116, 114, 101, 97, 109, 47, 109, 105, 100, 115, 116, 114, 101, 97, 109, 108, 97, 119, 48, 50, 46, 79, 99, 116, 101, 116, 82, 111, 119, 32, 109, 105, 100, 115, 116, 114, 101, 97, 109, 47, 109, 105, 100, 115, 116, 114, 101, 97, 109, 108, 97, 119, 48, 51, 46, 67, 114, 99, 83, 117, 109, 115, 32, 109, 105, 100, 115, 116, 114, 101, 97, 109, 47, 109, 105, 100, 115, 116, 114, 101, 97, 109, 108, 97, 119, 48, 51, 46, 67, 114, 99, 83, 101, 97, 108, 115, 32, 109, 105, 100, 115, 116, 114, 101, 97, 109, 47, 109, 105, 100, 115, 116, 114, 101, 97, 109, 108, 97, 119, 50, 51, 46, 88, 102, 101, 114, 82, 101, 99, 101, 105, 118, 101, 115, 32, 109, 105, 100, 115, 116, 114, 101, 97, 109, 47, 109, 105, 100, 115, 116, 114, 101, 97, 109, 108, 97, 119, 48, 51, 46, 67, 114, 99, 66, 97, 99, 107, 32, 109, 105, 100, 115, 116, 114, 101, 97, 109, 47, 109, 105, 100, 115, 116, 114, 101, 97, 109, 108, 97, 119, 48, 51, 46, 67, 114, 99, 84, 117, 114, 110, 101, 100, 32, 109, 105, 100, 115, 116, 114, 101, 97, 109, 47, 109, 105, 100, 115, 116, 114, 101, 97, 109, 108, 97, 119, 48, 51, 46, 67, 114, 99, 76, 105, 110, 101, 97, 114, 32, 109, 105, 100, 115, 116, 114, 101, 97, 109, 47, 109, 105, 100, 115, 116, 114, 101, 97, 109, 108, 97, 119, 50, 51, 46, 88, 102, 101, 114, 65, 114, 114, 105, 118, 101, 115, 32, 109, 105, 100, 115, 116, 114, 101, 97, 109, 47, 109, 105, 100, 115, 116, 114, 101, 97, 109, 108, 97, 119, 48, 51, 46, 67, 114, 99, 83, 116, 97, 114, 116, 115, 32, 109, 105, 100, 115, 116, 114, 101, 97, 109, 47, 109, 105, 100, 115, 116, 114, 101, 97, 109, 108, 97, 119, 48, 54, 46, 70, 108, 97, 115, 104, 79, 102, 32, 109, 105, 100, 115, 116, 114, 101, 97, 109, 47, 109, 105, 100, 115, 116, 114, 101, 97, 109, 108, 97, 119, 48, 54, 46, 70, 108, 97, 115, 104, 67, 108, 101, 97, 114, 115, 32, 109, 105, 100, 115, 116, 114, 101, 97, 109, 47, 109, 105, 100, 115, 116, 114, 101, 97, 109, 108, 97, 119, 48, 54, 46, 70, 108, 97, 115, 104, 84, 111, 114, 110, 32, 109, 105, 100, 115, 116, 114, 101, 97, 109, 47, 109, 105, 100, 115, 116, 114, 101, 97, 109, 108, 97, 119, 48, 54, 46, 70, 108, 97, 115, 104, 80, 108, 97, 121, 115, 32, 109, 105, 100, 115, 116, 114, 101, 97, 109, 47, 109, 105, 100, 115, 116, 114, 101, 97, 109, 108, 97, 119, 48, 54, 46, 70, 108, 97, 115, 104, 78, 105, 108, 32, 109, 105, 100, 115, 116, 114, 101, 97, 109, 47, 109, 105, 100, 115, 116, 114, 101, 97, 109, 108, 97, 119, 48, 54, 46, 70, 108, 97, 115, 104, 65, 112, 97, 114, 116, 32, 109, 105, 100, 115, 116, 114, 101, 97, 109, 47, 109, 105, 100, 115, 116, 114, 101, 97, 109, 108, 97, 119, 50, 51, 46, 88, 102, 101, 114, 80, 97, 99, 107, 115, 32, 109, 105, 100, 115, 116, 114, 101, 97, 109, 47, 109, 105, 100, 115, 116, 114, 101, 97, 109, 108, 97, 119, 50, 51, 46, 88, 102, 101, 114, 66, 97, 99, 107, 32, 109, 105, 100, 115, 116, 114, 101, 97, 109, 47, 109, 105, 100, 115, 116, 114, 101, 97, 109, 108, 97, 119, 48, 55, 46, 74, 111, 117, 114, 110, 97, 108, 78, 105, 108, 32, 109, 105, 100, 115, 116, 114, 101, 97, 109, 47, 109, 105, 100, 115, 116, 114, 101, 97, 109, 108, 97, 119, 50, 51, 46, 88, 102, 101, 114, 83, 101, 110, 100, 101, 114, 115, 32, 109, 105, 100, 115, 116, 114, 101, 97, 109, 47, 109, 105, 100, 115, 116, 114, 101, 97, 109, 108, 97, 119, 48, 55, 46, 74, 111, 117, 114, 110, 97, 108, 82, 111, 111, 109, 32, 109, 105, 100, 115, 116, 114, 101, 97, 109, 47, 109, 105, 100, 115, 116, 114, 101, 97, 109, 108, 97, 119, 48, 55, 46, 74, 111, 117, 114, 110, 97, 108, 65, 110, 121, 32, 109, 105, 100, 115, 116, 114, 101, 97, 109, 47, 109, 105, 100, 115, 116, 114, 101, 97, 109, 108, 97, 119, 48, 55, 46, 74, 111, 117, 114, 110, 97, 108, 80, 108, 97, 121, 115, 32, 109, 105, 100, 115, 116, 114, 101, 97, 109, 47, 109, 105, 100, 115, 116, 114, 101, 97, 109, 108, 97, 119, 48, 55, 46, 74, 111, 117, 114, 110, 97, 108, 67, 114, 97, 115, 104, 101, 115, 32, 109, 105, 100, 115, 116, 114, 101, 97, 109, 47, 109, 105, 100, 115, 116, 114, 101, 97, 109, 108, 97, 119, 48, 55, 46, 74, 111, 117, 114, 110, 97, 108, 65, 112, 97, 114, 116, 32, 109, 105, 100, 115, 116, 114, 101, 97, 109, 47, 109, 105, 100, 115, 116, 114, 101, 97, 109, 108, 97, 119, 50, 50, 46, 83, 108, 111, 116, 115, 66, 97, 99, 107, 32, 109, 105, 100, 115, 116, 114, 101, 97, 109, 47, 109, 105, 100, 115, 116, 114, 101, 97, 109, 108, 97, 119, 50, 50, 46, 83, 108, 111, 116, 115, 78, 105, 108, 32, 109, 105, 100, 115, 116, 114, 101, 97, 109, 47, 109, 105, 100, 115, 116, 114, 101, 97, 109, 108, 97, 119, 50, 50, 46, 83, 108, 111, 116, 115, 67, 114, 97, 115, 104, 101, 115, 32, 109, 105, 100, 115, 116, 114, 101, 97, 109, 47, 109, 105, 100, 115, 116, 114, 101, 97, 109, 108, 97, 119, 50, 50, 46, 83, 108, 111, 116, 115, 66, 101, 103, 117, 110, 32, 109, 105, 100, 115, 116, 114, 101, 97, 109, 47, 109, 105, 100, 115, 116, 114, 101, 97, 109, 108, 97, 119, 50, 50, 46, 83, 108, 111, 116, 115, 80, 108, 97, 121, 115, 32, 109, 105, 100, 115, 116, 114, 101, 97, 109, 47, 109, 105, 100, 115, 116, 114, 101, 97, 109, 108, 97, 119, 50, 50, 46, 83, 108, 111, 116, 115, 65, 112, 97, 114, 116, 32, 109, 105, 100, 115, 116, 114, 101, 97, 109, 47, 109, 105, 100, 115, 116, 114, 101, 97, 109, 108, 97, 119, 50, 51, 46, 88, 102, 101, 114, 82, 101, 102, 117, 115, 101, 115]
theorem io : Try.prog.initOrder = String.ofList (codes.map Char.ofNat) := by kernel_rfl
theorem il : Try.prog.initOrder.toList = codes.map Char.ofNat := by rw [io]; exact String.toList_ofList
def restCodes : List (List Nat) := [[97, 116], [109, 105, 100, 115, 116, 114, 101, 97, 109, 47, 109, 105, 100, 115, 116, 114, 101, 97, 109, 108, 97, 119, 48, 50, 46, 79, 99, 116, 101, 116, 80, 117, 116, 115], [109, 105, 100, 115, 116, 114, 101, 97, 109, 47, 109, 105, 100, 115, 116, 114, 101, 97, 109, 108, 97, 119, 48, 50, 46, 79, 99, 116, 101, 116, 71, 101, 116, 115], [109, 105, 100, 115, 116, 114, 101, 97, 109, 47, 109, 105, 100, 115, 116, 114, 101, 97, 109, 108, 97, 119, 48, 50, 46, 79, 99, 116, 101, 116, 66, 97, 99, 107], [109, 105, 100, 115, 116, 114, 101, 97, 109, 47, 109, 105, 100, 115, 116, 114, 101, 97, 109, 108, 97, 119, 48, 50, 46, 79, 99, 116, 101, 116, 87, 104, 111, 108, 101], [109, 105, 100, 115, 116, 114, 101, 97, 109, 47, 109, 105, 100, 115, 116, 114, 101, 97, 109, 108, 97, 119, 48, 50, 46, 79, 99, 116, 101, 116, 87, 111, 114, 100, 115], [109, 105, 100, 115, 116, 114, 101, 97, 109, 47, 109, 105, 100, 115, 116, 114, 101, 97, 109, 108, 97, 119, 48, 50, 46, 79, 99, 116, 101, 116, 82, 117, 110, 115], [109, 105, 100, 115, 116, 114, 101, 97, 109, 47, 109, 105, 100, 115, 116, 114, 101, 97, 109, 108, 97, 119, 48, 50, 46, 79, 99, 116, 101, 116, 82, 111, 119], [109, 105, 100, 115, 116, 114, 101, 97, 109, 47, 109, 105, 100, 115, 116, 114, 101, 97, 109, 108, 97, 119, 48, 51, 46, 67, 114, 99, 83, 117, 109, 115], [109, 105, 100, 115, 116, 114, 101, 97, 109, 47, 109, 105, 100, 115, 116, 114, 101, 97, 109, 108, 97, 119, 48, 51, 46, 67, 114, 99, 83, 101, 97, 108, 115], [109, 105, 100, 115, 116, 114, 101, 97, 109, 47, 109, 105, 100, 115, 116, 114, 101, 97, 109, 108, 97, 119, 50, 51, 46, 88, 102, 101, 114, 82, 101, 99, 101, 105, 118, 101, 115], [109, 105, 100, 115, 116, 114, 101, 97, 109, 47, 109, 105, 100, 115, 116, 114, 101, 97, 109, 108, 97, 119, 48, 51, 46, 67, 114, 99, 66, 97, 99, 107], [109, 105, 100, 115, 116, 114, 101, 97, 109, 47, 109, 105, 100, 115, 116, 114, 101, 97, 109, 108, 97, 119, 48, 51, 46, 67, 114, 99, 84, 117, 114, 110, 101, 100], [109, 105, 100, 115, 116, 114, 101, 97, 109, 47, 109, 105, 100, 115, 116, 114, 101, 97, 109, 108, 97, 119, 48, 51, 46, 67, 114, 99, 76, 105, 110, 101, 97, 114], [109, 105, 100, 115, 116, 114, 101, 97, 109, 47, 109, 105, 100, 115, 116, 114, 101, 97, 109, 108, 97, 119, 50, 51, 46, 88, 102, 101, 114, 65, 114, 114, 105, 118, 101, 115], [109, 105, 100, 115, 116, 114, 101, 97, 109, 47, 109, 105, 100, 115, 116, 114, 101, 97, 109, 108, 97, 119, 48, 51, 46, 67, 114, 99, 83, 116, 97, 114, 116, 115], [109, 105, 100, 115, 116, 114, 101, 97, 109, 47, 109, 105, 100, 115, 116, 114, 101, 97, 109, 108, 97, 119, 48, 54, 46, 70, 108, 97, 115, 104, 79, 102], [109, 105, 100, 115, 116, 114, 101, 97, 109, 47, 109, 105, 100, 115, 116, 114, 101, 97, 109, 108, 97, 119, 48, 54, 46, 70, 108, 97, 115, 104, 67, 108, 101, 97, 114, 115], [109, 105, 100, 115, 116, 114, 101, 97, 109, 47, 109, 105, 100, 115, 116, 114, 101, 97, 109, 108, 97, 119, 48, 54, 46, 70, 108, 97, 115, 104, 84, 111, 114, 110], [109, 105, 100, 115, 116, 114, 101, 97, 109, 47, 109, 105, 100, 115, 116, 114, 101, 97, 109, 108, 97, 119, 48, 54, 46, 70, 108, 97, 115, 104, 80, 108, 97, 121, 115], [109, 105, 100, 115, 116, 114, 101, 97, 109, 47, 109, 105, 100, 115, 116, 114, 101, 97, 109, 108, 97, 119, 48, 54, 46, 70, 108, 97, 115, 104, 78, 105, 108], [109, 105, 100, 115, 116, 114, 101, 97, 109, 47, 109, 105, 100, 115, 116, 114, 101, 97, 109, 108, 97, 119, 48, 54, 46, 70, 108, 97, 115, 104, 65, 112, 97, 114, 116], [109, 105, 100, 115, 116, 114, 101, 97, 109, 47, 109, 105, 100, 115, 116, 114, 101, 97, 109, 108, 97, 119, 50, 51, 46, 88, 102, 101, 114, 80, 97, 99, 107, 115], [109, 105, 100, 115, 116, 114, 101, 97, 109, 47, 109, 105, 100, 115, 116, 114, 101, 97, 109, 108, 97, 119, 50, 51, 46, 88, 102, 101, 114, 66, 97, 99, 107], [109, 105, 100, 115, 116, 114, 101, 97, 109, 47, 109, 105, 100, 115, 116, 114, 101, 97, 109, 108, 97, 119, 48, 55, 46, 74, 111, 117, 114, 110, 97, 108, 78, 105, 108], [109, 105, 100, 115, 116, 114, 101, 97, 109, 47, 109, 105, 100, 115, 116, 114, 101, 97, 109, 108, 97, 119, 50, 51, 46, 88, 102, 101, 114, 83, 101, 110, 100, 101, 114, 115], [109, 105, 100, 115, 116, 114, 101, 97, 109, 47, 109, 105, 100, 115, 116, 114, 101, 97, 109, 108, 97, 119, 48, 55, 46, 74, 111, 117, 114, 110, 97, 108, 82, 111, 111, 109], [109, 105, 100, 115, 116, 114, 101, 97, 109, 47, 109, 105, 100, 115, 116, 114, 101, 97, 109, 108, 97, 119, 48, 55, 46, 74, 111, 117, 114, 110, 97, 108, 65, 110, 121], [109, 105, 100, 115, 116, 114, 101, 97, 109, 47, 109, 105, 100, 115, 116, 114, 101, 97, 109, 108, 97, 119, 48, 55, 46, 74, 111, 117, 114, 110, 97, 108, 80, 108, 97, 121, 115], [109, 105, 100, 115, 116, 114, 101, 97, 109, 47, 109, 105, 100, 115, 116, 114, 101, 97, 109, 108, 97, 119, 48, 55, 46, 74, 111, 117, 114, 110, 97, 108, 67, 114, 97, 115, 104, 101, 115], [109, 105, 100, 115, 116, 114, 101, 97, 109, 47, 109, 105, 100, 115, 116, 114, 101, 97, 109, 108, 97, 119, 48, 55, 46, 74, 111, 117, 114, 110, 97, 108, 65, 112, 97, 114, 116], [109, 105, 100, 115, 116, 114, 101, 97, 109, 47, 109, 105, 100, 115, 116, 114, 101, 97, 109, 108, 97, 119, 50, 50, 46, 83, 108, 111, 116, 115, 66, 97, 99, 107], [109, 105, 100, 115, 116, 114, 101, 97, 109, 47, 109, 105, 100, 115, 116, 114, 101, 97, 109, 108, 97, 119, 50, 50, 46, 83, 108, 111, 116, 115, 78, 105, 108], [109, 105, 100, 115, 116, 114, 101, 97, 109, 47, 109, 105, 100, 115, 116, 114, 101, 97, 109, 108, 97, 119, 50, 50, 46, 83, 108, 111, 116, 115, 67, 114, 97, 115, 104, 101, 115], [109, 105, 100, 115, 116, 114, 101, 97, 109, 47, 109, 105, 100, 115, 116, 114, 101, 97, 109, 108, 97, 119, 50, 50, 46, 83, 108, 111, 116, 115, 66, 101, 103, 117, 110], [109, 105, 100, 115, 116, 114, 101, 97, 109, 47, 109, 105, 100, 115, 116, 114, 101, 97, 109, 108, 97, 119, 50, 50, 46, 83, 108, 111, 116, 115, 80, 108, 97, 121, 115], [109, 105, 100, 115, 116, 114, 101, 97, 109, 47, 109, 105, 100, 115, 116, 114, 101, 97, 109, 108, 97, 119, 50, 50, 46, 83, 108, 111, 116, 115, 65, 112, 97, 114, 116], [109, 105, 100, 115, 116, 114, 101, 97, 109, 47, 109, 105, 100, 115, 116, 114, 101, 97, 109, 108, 97, 119, 50, 51, 46, 88, 102, 101, 114, 82, 101, 102, 117, 115, 101, 115]]
def restW : List (List Char) := restCodes.map (·.map Char.ofNat)
theorem words0 : behindMainWord (wordsSigns (codes.map Char.ofNat)) = [Char.ofNat 99, Char.ofNat 117, Char.ofNat 116] :: restW := by kernel_rfl
theorem words : behindMainWord (wordsSigns Try.prog.initOrder.toList) = [Char.ofNat 99, Char.ofNat 117, Char.ofNat 116] :: restW := by rw [il]; exact words0
def mkMake (l : List (List Char)) (hl : List String) : Option Make := match l with
  | c :: rest => if c == "gc".toList || c == "spec".toList then some .whole else if c == "cut".toList || (c == "finals".toList && rest.head? == some "cut".toList) then some .cut else if c == "carried".toList then some .carried else if hl.isEmpty then none else some (.lifted hl)
  | [] => none
theorem make_eq (P : Program) : P.make = mkMake (behindMainWord (wordsSigns P.initOrder.toList)) P.headLifts := rfl
def mkEnter (l : List (List Char)) (lays bears : Bool) (fits : List String → Bool) : Bool := match l with
  | c :: rest =>
    ((c == "gc".toList || c == "spec".toList) && (rest.isEmpty || rest.head? == some "stop".toList)) ||
    (c == "carried".toList && rest.take 2 == ["gc".toList, "cut".toList] && !lays && !bears) ||
    ((stripLifts liftWords (c :: rest)).2.head? == some "cut".toList &&
      ((stripLifts liftWords (c :: rest)).1.contains "finals" || !lays) && ((stripLifts liftWords (c :: rest)).1.contains "reflectrows" || !bears) &&
      ((stripLifts liftWords (c :: rest)).1.contains "reflectrows" || !(stripLifts liftWords (c :: rest)).1.contains "leanrows") &&
      fits (stripLifts liftWords (c :: rest)).1)
  | [] => false
theorem enter_eq (P : Program) : P.mayEnter = mkEnter (behindMainWord (wordsSigns P.initOrder.toList)) P.laysLater P.bearsReflect P.doorFits := rfl
theorem laysLater : Try.prog.laysLater = false := by kernel_rfl
theorem bearsReflect : Try.prog.bearsReflect = false := by kernel_rfl
theorem mayEnter : Try.prog.mayEnter = true := by
  rw [enter_eq, words, laysLater, bearsReflect]
  kernel_rfl
theorem headLifts : Try.prog.headLifts = [] := by
  unfold Program.headLifts
  rw [words]
  kernel_rfl
theorem liftsFinal : Try.prog.liftsFinal = false := by
  unfold Program.liftsFinal
  rw [words, headLifts]
  kernel_rfl
theorem make : Try.prog.make = some .cut := by
  rw [make_eq, words, headLifts]
  kernel_rfl
theorem laidOut : laidOutB Try.prog = true := by kernel_rfl
theorem mapsRowed : mapsRowed Try.prog = true := by kernel_rfl
theorem stopsHeard : Try.prog.stopsHeard = true := by kernel_rfl
theorem own : ownKnob Try.prog.godebug = none := by kernel_rfl
theorem plainKeys : Try.prog.plainKeys = true := by kernel_rfl

theorem stops0 : (Try.prog.stops == []) = true := by kernel_rfl
theorem stopKnobs0 : (Try.prog.stopKnobs == []) = true := by kernel_rfl
/-- the closed facts of a row, those of the program given -/
theorem joined {f : FuncId} {fn : Func} {s : ChangeSpec} {c : OpenClaim} (h : (  c.wf (OpenSpec.ofChange s) &&
  fn.params.all (Try.prog.readableRec ·) && namedTie Try.prog c.named s.vars &&
  (c.stops == []) && (c.knobs == []) &&
  (c.inPlace == Try.prog.inPlace f) && (c.unfollowed == Try.prog.unfollowed f) && (c.recurses == Try.prog.recurses f) && (c.named == Try.prog.varsNamed f) &&
  (c.maps == (fn.params.toList ++ s.plain.varTypes Try.prog).any (Try.prog.mapsRec ·)) && (c.ifaces == (fn.params.toList ++ s.plain.varTypes Try.prog).any (Try.prog.ifacesRec ·)) && (c.mapsOut == Try.prog.mapsAmong fn.resultTypes.toList) &&
  (c.loops == (fn.params.toList ++ s.plain.varTypes Try.prog).any (Try.prog.loopsFrom ·)) && (c.wideKeys == (fn.params.toList ++ s.plain.varTypes Try.prog ++ fn.resultTypes.toList).any (Try.prog.wideKeysFrom ·)) &&
  s.vars.all (Try.prog.varReadable ·) && fn.resultTypes.all (fun t => Try.prog.readableRec t && decide (t < Try.prog.types.size)) && (c.ifacesOut == fn.resultTypes.toList.any (Try.prog.ifacesRec ·)) && (c.loopsOut == fn.resultTypes.toList.any (Try.prog.loopsFrom ·)) && c.plainKeys && c.shortTexts.isNone && (c.lifted == false) && (some Make.cut == some c.make) && (c.kinds == (if c.domain.isEmpty then [] else fn.params.toList.map fun t => match Try.prog.underlying t with | some (.int k) => some k | _ => none)) && (c.pinned == c.pinnedBy) &&
  (c.veiled == (fn.params.toList ++ s.plain.varTypes Try.prog ++ fn.resultTypes.toList).any (Try.prog.veiledRec ·)) && c.veiledFits Try.prog fn.params.toList (fn.params.toList ++ s.plain.varTypes Try.prog ++ fn.resultTypes.toList)) = true) : joinedFacts Try.prog f fn s c = true := by
  unfold joinedFacts
  simp only [Bool.and_eq_true] at h ⊢
  obtain ⟨⟨⟨⟨⟨⟨⟨⟨⟨⟨⟨⟨⟨⟨⟨⟨⟨⟨⟨⟨⟨⟨⟨⟨⟨m0, m1⟩, m2⟩, m3⟩, m4⟩, m5⟩, m6⟩, m7⟩, m8⟩, m9⟩, m10⟩, m11⟩, m12⟩, m13⟩, m14⟩, m15⟩, m16⟩, m17⟩, m18⟩, m19⟩, m20⟩, m21⟩, m22⟩, m23⟩, m24⟩, m25⟩ := h
  exact ⟨⟨⟨⟨⟨⟨⟨⟨⟨⟨⟨⟨⟨⟨⟨⟨⟨⟨⟨⟨⟨⟨⟨⟨⟨⟨⟨⟨⟨⟨⟨m0, laidOut⟩, mapsRowed⟩, m1⟩, m2⟩, m3⟩, stops0⟩, m4⟩, stopKnobs0⟩, m5⟩, m6⟩, m7⟩, m8⟩, m9⟩, m10⟩, m11⟩, m12⟩, m13⟩, m14⟩, m15⟩, m16⟩, m17⟩, (by rw [plainKeys, m18]; rfl)⟩, m19⟩, stopsHeard⟩, mayEnter⟩, (by rw [liftsFinal]; exact m20)⟩, (by rw [make]; exact m21)⟩, m22⟩, m23⟩, m24⟩, m25⟩
end Go.Proofs.Ytgipackjnncabaa.hd
