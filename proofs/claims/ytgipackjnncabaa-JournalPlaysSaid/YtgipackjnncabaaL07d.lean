/- Scripts of the journal's laws; the law JournalCrashes, walked. -/
import Derived.Test.YtgipackjnncabaaL07c
import Derived.Test.YtgipackjnncabaaL03b
set_option linter.unusedVariables false
namespace Go.Proofs.Ytgipackjnncabaa
open Go.Vc Go.RowKit

/-- what is done to a journal: its cells, and what they read as -/
structure O7 where
  kind : Int
  n : Int
  m : BitVec 32
  words : List (BitVec 32)
  ra : Option Addr
  rc : Nat
def O7.cells (e : O7) : List Value := [.int .i64 e.kind, .slice e.ra e.words.length e.rc, .int .i64 e.n, u32v e.m]
structure O7Ok (w : World) (e : O7) : Prop where
  sl : Sl u32v w e.ra e.words
  cap : e.words.length ≤ 9223372036854775807
  kind : -9223372036854775808 ≤ e.kind ∧ e.kind ≤ 9223372036854775807
  n : -9223372036854775808 ≤ e.n ∧ e.n ≤ 9223372036854775807
theorem O7.one (e : O7) : ∀ u ∈ e.cells, u.oneCell' = true := by
  intro u hu
  simp only [O7.cells, List.mem_cons, List.not_mem_nil, or_false] at hu
  rcases hu with rfl | rfl | rfl | rfl <;> rfl

theorem fit_o7 {w : World} {es : List Value} (h : Fit w (.st (.pair 1 (.int .i64) (.pair 1 (.slice 1 (.int .u32)) (.pair 1 (.int .i64) (.pair 1 (.int .u32) .unit))))) es) : ∃ e : O7, es = e.cells ∧ O7Ok w e := by
  obtain ⟨c1, r1, e1, _, ⟨n1, h1, k1⟩, c2, r2, e2, _, h2, c3, r3, e3, _, ⟨n3, h3, k3⟩, c4, r4, e4, _, ⟨n4, h4, k4⟩, h5⟩ := h
  have h5 : r4 = [] := h5
  obtain ⟨a, len, cap, hs, hl1, hl2, hl3⟩ := h2
  have hcap := fit_cap (w := w) (m := 1) (s := .int .u32) (a := a) (len := len) (cap := cap) ⟨a, len, cap, rfl, hl1, hl2, hl3⟩
  have g := fit_u32 (w := w) (a := a) (len := len) (cap := cap) ⟨a, len, cap, rfl, hl1, hl2, hl3⟩
  obtain ⟨ws, eb, sb, cb⟩ := g
  obtain ⟨m, hm⟩ := wf_u32 k4
  refine ⟨⟨n1, n3, m, ws, a, cap⟩, ?_, sb, by show ws.length ≤ _; omega, wf_i64 k1, wf_i64 k3⟩
  rw [e1, e2, e3, e4, h1, hs, h3, h4, h5, hm, ← eb, List.append_nil]
  rfl

/-- light -/
theorem light_calls {w : World} {a : Option Addr} {c : Nat} {xs : List O7} (h : SlN 4 O7.cells w a xs) (hl : xs.length ≤ 9223372036854775807) :
    Calls Try.prog 120 #[.slice a xs.length c] w (Ret fun v w' => w' = w ∧ ∃ β, v = .bool β ∧ (β = true → ∀ i (hi : i < xs.length), i < 40 → xs[i].words.length ≤ 300)) := by
  refine calls_of_vc lok Try.func120 ?_ rfl
  conv => whnf
  refine vcLoop_inv lok (σ := Nat)
    (fun i => [(3, .int .i64 i), (0, .slice a xs.length c)])
    (fun i w1 => w1 = w ∧ i ≤ xs.length ∧ i ≤ 40 ∧ ∀ k (hk : k < xs.length), k < i → xs[k].words.length ≤ 300) (fun i => 40 - i)
    0 ⟨rfl, rfl, trivial⟩ ⟨rfl, Nat.zero_le _, Nat.zero_le _, fun k _ hk => absurd hk (Nat.not_lt_zero _)⟩ ?_
  rintro i w1 ⟨hw1, hi, hi40, hall⟩
  subst hw1
  conv => whnf
  refine vcReg_meet lok (fun β : Bool => [(11, .bool β)]) (fun β w' => w' = w1 ∧ β = decide (i < xs.length ∧ i < 40)) [11] (fun _ => rfl) rfl ?_ ?_
  · conv => whnf
    refine bcase (fun h1 => ?_) (fun h1 => ?_)
    · have h1 := dt h1
      conv => whnf
      refine ⟨_, ⟨rfl, trivial⟩, rfl, ?_⟩
      rw [decide_eq_decide]; omega
    · have h1 := df h1
      conv => whnf
      exact ⟨_, ⟨rfl, trivial⟩, rfl, by rw [eq_comm, decide_eq_false_iff_not]; omega⟩
  rintro β w2 ⟨hw2, hβ⟩
  subst hw2
  conv => whnf
  refine vcCond_split lok rfl (fun h1 => ?_) (fun h1 => ?_)
  · rw [h1] at hβ
    have hlt := dt hβ.symm
    have g5 := h.at i hlt.1
    obtain ⟨p, o, ha, hcell⟩ := g5
    conv => whnf
    refine ⟨p, o, ha, ⟨by omega, by omega⟩, ?_⟩
    conv => whnf
    refine ⟨_, hcell 1 _ rfl, ?_⟩
    conv => whnf
    refine vcCond_split lok rfl (fun h2 => ?_) (fun h2 => ?_)
    · conv => whnf
      exact ⟨rfl, false, rfl, fun e => by cases e⟩
    · have h2 := df h2
      conv => whnf
      refine ⟨by omega, ?_⟩
      conv => whnf
      refine ⟨i + 1, ⟨rfl, rfl, trivial⟩, ⟨rfl, by omega, by omega, fun k hk hki => ?_⟩, by omega⟩
      by_cases e : k = i
      · subst e; omega
      · exact hall k hk (by omega)
  · rw [h1] at hβ
    have hlt := df hβ.symm
    conv => whnf
    refine ⟨rfl, true, rfl, fun _ k hk hk40 => ?_⟩
    exact hall k hk (by omega)

set_option maxHeartbeats 8000000 in
theorem journalCrashes_walk {w : World} {a : Option Addr} {c : Nat} {xs : List O7} (h : SlN 4 O7.cells w a xs) (hl : xs.length ≤ 9223372036854775807) (hok : ∀ x ∈ xs, O7Ok w x) :
    Calls Try.prog 31 #[.slice a xs.length c] w (Law w) := by
  refine calls_of_vc lok Try.func31 ?_ rfl
  conv => whnf
  refine Calls.ret (light_calls h hl) ?_
  rintro _ w0 ⟨hw0, β, rfl, hlight⟩
  conv => whnf
  subst hw0
  refine vcCond_split lok rfl (fun h1 => ?_) (fun h1 => ?_)
  · conv => whnf
    refine Calls.ret (known07) ?_
    rintro _ w1 ⟨rfl, x1⟩
    conv => whnf
    exact ⟨rfl, x1⟩
  have hlight := hlight (by simpa using h1)
  clear h1
  conv => whnf
  refine Calls.ret (new_calls 2) ?_
  rintro _ w1 hp
  conv => whnf
  rcases hp with ⟨hno, _, _⟩ | ⟨_, g, gw, fc, rfl, hf1, x1⟩
  · exact absurd hno (by decide)
  have hf1 : FlAt 181 w0.heap.size w1 g gw fc j7S := hf1
  have l0 : j7S.ws.length = 512 := by decide +kernel
  have q0 : (jopF j7S.ws 0).num = 0#32 := by decide +kernel
  have qn : Num j7S 512 0 := ⟨l0, by decide +kernel, by decide +kernel⟩
  have qo : j7S.off = false := rfl
  generalize j7S = s0 at *
  have qw : (jopF s0.ws 0).words = [] := jop_zero _ _ q0
  conv => whnf
  refine Calls.ret (jopen_calls hf1 (by rw [l0]; decide) 0) ?_
  rintro _ w2 hp
  conv => whnf
  rcases hp with ⟨hno, _, _⟩ | ⟨_, hno, _, _⟩ | ⟨_, _, _, p0, rfl, hj, x2⟩
  · rw [qo] at hno; cases hno
  · exact absurd ⟨by decide, by rw [l0]; decide⟩ hno
  have hj : JAt (fun k => k < w1.heap.size ∨ k = p0) w1.heap.size w2 p0 g (jopF s0.ws 0) := hj
  have hlt := hf1.lt
  have hflo := hf1.lo
  have z1 := x1.size
  have hp0 := hj.lo
  conv => whnf
  refine vcReg_go lok ?_
  conv => whnf
  refine vcCond_false lok (rfl) ?_
  conv => whnf
  refine vcLoop_inv lok (σ := Nat × Nat × Option Addr × Nat × FS)
    (fun ⟨i, p, la, lc, s⟩ => [(8, .int .i64 i), (3, .pointer (some ⟨g, 0, none⟩)), (4, .pointer (some ⟨p, 0, none⟩)), (6, .slice la (jopF s.ws 0).words.length lc), (7, .int .u32 (jopF s.ws 0).num.toNat), (0, .slice a xs.length c)])
    (fun ⟨i, p, la, lc, s⟩ w' => i ≤ xs.length ∧ i ≤ 40 ∧ FlAt 181 w0.heap.size w' g gw fc s ∧ (∃ z, w1.heap.size ≤ z ∧ z ≤ p ∧ JAt (fun k => k < z ∨ k = p) w0.heap.size w' p g (jopF s.ws 0)) ∧ s.off = false ∧ Num s 512 (72 * i) ∧
      Own 42 u32v w0.heap.size w' la lc (jopF s.ws 0).words ∧ (∀ b, blockOf la = some b → ¬ (b = g ∨ b = gw ∨ b = p)) ∧ (jopF s.ws 0).num.toNat ≤ i ∧ Ext w0 w') (fun t => 40 - t.1)
    (0, p0, none, 0, s0) ⟨rfl, rfl, rfl, by rw [qw]; rfl, by rw [q0]; rfl, rfl, trivial⟩ ⟨Nat.zero_le _, Nat.zero_le _, hf1.ext x2, ⟨_, Nat.le_refl _, hp0, hj.base z1⟩, qo, qn, by rw [qw]; exact Own.nil _ _ _ _, (fun b hb => by cases hb), by rw [q0]; exact Nat.le_refl _, x1.trans x2⟩ ?_
  rintro ⟨i, p, la, lc, s⟩ w3 ⟨hi, hi40, f3, ⟨z, hz1, hz2, j3⟩, so, sn, hla, hlb, hnum, x3⟩
  conv => whnf
  refine vcReg_meet lok (fun β : Bool => [(41, .bool β)]) (fun β w' => w' = w3 ∧ β = decide (i < xs.length ∧ i < 40)) [41] (fun _ => rfl) rfl ?_ ?_
  · conv => whnf
    refine bcase (fun h1 => ?_) (fun h1 => ?_)
    · have h1 := dt h1
      conv => whnf
      refine ⟨_, ⟨rfl, trivial⟩, rfl, ?_⟩
      rw [decide_eq_decide]; omega
    · have h1 := df h1
      conv => whnf
      exact ⟨_, ⟨rfl, trivial⟩, rfl, by rw [eq_comm, decide_eq_false_iff_not]; omega⟩
  rintro β w4 ⟨hw4, hβ⟩
  subst hw4
  conv => whnf
  refine vcCond_split lok rfl (fun h1 => ?_) (fun h1 => ?_)
  rotate_left
  · rw [h1] at hβ
    conv => whnf
    refine Calls.ret (known07) ?_
    rintro _ w5 ⟨rfl, x5⟩
    conv => whnf
    exact ⟨rfl, x3.trans x5⟩
  rw [h1] at hβ
  have hlt2 := dt hβ.symm
  have hixs : i < xs.length := hlt2.1
  have hox := hok xs[i] (List.getElem_mem hixs)
  conv => whnf
  have g5 := (h.ext x3).at i hixs
  generalize xs[i] = x at *
  obtain ⟨pp, oo, hpa, hcell⟩ := g5
  refine ⟨pp, oo, hpa, ⟨by omega, by omega⟩, ?_⟩
  conv => whnf
  refine ⟨x.cells, rfl, hcell, ?_⟩
  conv => whnf
  intro w5 hw5
  have hb5 : Blk w5 w4.heap.size 151 [.int .i64 0, .slice none 0 0, .int .i64 0, .int .u32 0] := by rw [hw5]; exact Blk.new w4 151 _
  have x5 : Ext w4 w5 := by rw [hw5]; exact Ext.new _ _
  clear hw5
  conv => whnf
  have k6 := Blk.storeAgg lok hb5 (t := 151) (us := x.cells) rfl 0 (Nat.le_refl 4) (O7.one x)
  obtain ⟨w6, hr6, hb6, hg6⟩ := k6
  have x6 : Ext w4 w6 := hg6.extOf x5 (fun g hg => by cases hg; exact Nat.le_refl _)
  have hb6 : Blk w6 w4.heap.size 151 x.cells := hb6
  refine ⟨w6, hr6, ?_⟩
  have hb6lt := hb6.lt
  have hbo0 : w4.heap.size ≤ w4.heap.size := Nat.le_refl _
  have hpz := j3.nt p j3.self
  have hla3 := fun b hb => (hla.ge b hb).2
  have hgz : g < w4.heap.size := j3.nt g (.inl (by omega))
  have hgwz : gw < w4.heap.size := j3.nt gw (.inl (by omega))
  have x06 := x3.trans x6
  have f6 := f3.ext x6
  have j6 := j3.ext x6
  have la6 := hla.ext x6
  have slen := sn.len
  clear hr6 hg6 x5 hb5 hbo0
  generalize w4.heap.size = bo at *
  conv => whnf
  refine vcReg_meet lok (fun β : Bool => [(57, .bool β)]) (fun β w' => w' = w6 ∧ β = !decide (1 ≤ x.words.length ∧ x.words.length ≤ 64)) [57] (fun _ => rfl) rfl ?_ ?_
  · conv => whnf
    refine ⟨_, hb6.cell (i := 1) rfl, ?_⟩
    conv => whnf
    refine bcase (fun k1 => ?_) (fun k1 => ?_)
    · have k1 := dt k1
      conv => whnf
      exact ⟨_, ⟨rfl, trivial⟩, rfl, by rw [decide_eq_false (by omega)]; rfl⟩
    have k1 := df k1
    conv => whnf
    refine ⟨_, hb6.cell (i := 1) rfl, ?_⟩
    conv => whnf
    refine ⟨_, ⟨rfl, trivial⟩, rfl, ?_⟩
    by_cases k2 : x.words.length ≤ 64
    · rw [decide_eq_false (by omega), decide_eq_true ⟨by omega, k2⟩]; rfl
    · rw [decide_eq_true (by omega), decide_eq_false (fun q => k2 q.2)]; rfl
  rintro β w7 ⟨hw7, hβ⟩
  subst hw7
  conv => whnf
  refine vcCond_split lok rfl (fun h2 => ?_) (fun h2 => ?_)
  · conv => whnf
    refine ⟨by omega, ?_⟩
    conv => whnf
    exact ⟨(i + 1, p, la, lc, s), ⟨rfl, rfl, rfl, rfl, rfl, rfl, trivial⟩, ⟨by omega, by omega, f6, ⟨z, hz1, hz2, j6⟩, so, sn.up (by omega), la6, hlb, by omega, x06⟩, by show 40 - (i + 1) < 40 - i; omega⟩
  rw [h2] at hβ
  have hrl : 1 ≤ x.words.length ∧ x.words.length ≤ 64 := by
    by_cases q : 1 ≤ x.words.length ∧ x.words.length ≤ 64
    · exact q
    · rw [decide_eq_false q] at hβ; cases hβ
  clear hβ
  conv => whnf
  have g7 := cut_calls f6 1048576 0#32
  have ec1 : cutF s 1048576 0#32 = ({ s with left := 1048576, mask := 0#32 }, 0) := by unfold cutF; rw [if_neg (by decide)]
  rw [ec1] at g7
  have sn1 : Num { s with left := 1048576, mask := 0#32 } 512 (72 * i + 1) := by
    have g := sn.cut 1048576 (by decide) 0#32
    rw [ec1] at g
    exact g
  have sw1 : ({ s with left := 1048576, mask := 0#32 } : FS).ws = s.ws := rfl
  have so1 : ({ s with left := 1048576, mask := 0#32 } : FS).off = false := so
  generalize ({ s with left := 1048576, mask := 0#32 } : FS) = s1 at *
  refine Calls.ret (g7) ?_
  rintro _ w8 ⟨rfl, f8, m8⟩
  conv => whnf
  have f8 : FlAt 181 w0.heap.size w8 g gw fc s1 := f8
  have pF : ∀ {k}, (k = g ∨ k = gw) → (k < z ∨ k = p) := fun {k} e => .inl (by rcases e with rfl | rfl <;> omega)
  have npF : ¬ (p = g ∨ p = gw) := fun e => by rcases e with e | e <;> omega
  have nbF : ¬ (bo = g ∨ bo = gw) := fun e => by rcases e with e | e <;> omega
  have nlF : ∀ b, blockOf la = some b → ¬ (b = g ∨ b = gw) := fun b hb e => hlb b hb (by rcases e with e | e; exact .inl e; exact .inr (.inl e))
  have j8 := j6.keep m8 (fun _ => pF) npF
  have hb8 := m8.keepBlk hb6 nbF
  have la8 := m8.keepOwn la6 nlF
  have x08 := FlMod.above m8 x06 hflo hlt.2.2
  refine ⟨_, hb8.cell (i := 0) rfl, ?_⟩
  conv => whnf
  refine ⟨by decide, ?_⟩
  intro zk hzk
  clear hzk
  conv => whnf
  refine vcCond_meet (fun _ : Unit => [(8, .int .i64 i), (3, .pointer (some ⟨g, 0, none⟩)), (4, .pointer (some ⟨p, 0, none⟩)), (6, .slice la (jopF s.ws 0).words.length lc), (7, .int .u32 (jopF s.ws 0).num.toNat), (0, .slice a xs.length c), (9, .pointer (some ⟨bo, 0, none⟩))])
    (fun _ w' => ∃ s2, FlAt 181 w0.heap.size w' g gw fc s2 ∧ s2.ws = s.ws ∧ s2.off = false ∧ Num s2 512 (72 * i + 2) ∧ FlMod g gw w8 w') ?_ ?_
  · refine vcCond_split lok rfl (fun h3 => ?_) (fun h3 => ?_)
    · conv => whnf
      refine vcDraw_go lok mixed (Ext w8) [3] [0, 1, 2, 4, 5, 3, 6] (by kernel_rfl) (fun w9 hw9 => ⟨hw9 ▸ Ext.drew w8, ?_⟩)
      have x9 : Ext w8 w9 := hw9 ▸ Ext.drew w8
      clear hw9
      conv => whnf
      refine ⟨_, fun w' hw' => (hb8.ext hw').cell (i := 2) rfl, ?_⟩
      conv => whnf
      refine ⟨_, fun w' hw' => (hb8.ext hw').cell (i := 3) rfl, ?_⟩
      conv => whnf
      refine Calls.ret (count_calls x.n 80 hox.n (by decide) (by decide)) ?_
      rintro _ w10 ⟨rfl, hw10⟩
      subst hw10
      refine ⟨_, fun _ h => h, x9, ?_⟩
      conv => whnf
      have hc0 := Int.emod_nonneg x.n (show (80 : Int) ≠ 0 by decide)
      have hc1 := Int.emod_lt_of_pos x.n (show (0 : Int) < 80 by decide)
      have g11 := cut_calls (f8.ext x9) (x.n % 80) x.m
      have ec2 : cutF s1 (x.n % 80) x.m = ({ s1 with left := x.n % 80, mask := x.m }, 0) := by unfold cutF; rw [if_neg (by omega)]
      have sn2 := sn1.cut (x.n % 80) (by omega) x.m
      rw [ec2] at g11 sn2
      refine Calls.ret (g11) ?_
      rintro _ w11 ⟨rfl, f11, m11⟩
      conv => whnf
      exact ⟨(), ⟨rfl, rfl, rfl, rfl, rfl, rfl, rfl, trivial⟩, _, f11, sw1, so1, sn2, (Mod.ofExt _ x9).trans m11⟩
    · conv => whnf
      exact ⟨(), ⟨rfl, rfl, rfl, rfl, rfl, rfl, rfl, trivial⟩, s1, f8, sw1, so1, sn1.up (by omega), Mod.refl _ _⟩
  rintro ⟨⟩ w9 ⟨s2, f9, sw2, so2, sn2, m9⟩
  have j9 := j8.keep m9 (fun _ => pF) npF
  have hb9 := m9.keepBlk hb8 nbF
  have la9 := m9.keepOwn la8 nlF
  have x09 := FlMod.above m9 x08 hflo hlt.2.2
  clear f8 j8 hb8 la8 x08 f6 j6 la6 hb6 g7 m8 m9 sn1 so1 sw1 ec1
  rw [← sw2] at j9 la9 hnum ⊢
  clear sw2
  conv => whnf
  refine ⟨_, hb9.cell (i := 1) rfl, ?_⟩
  conv => whnf
  have hS : ∀ k, (k = g ∨ k = gw ∨ k = p) → w0.heap.size ≤ k := fun k hk => by have := j9.lo; rcases hk with e | e | e <;> omega
  have jok := jop_ok (s := s2) (n := 0) (by rw [sn2.len]; decide)
  have slen2 := sn2.len
  have gap := jappend_calls (rc := x.rc) (rec := x.words) (ra := x.ra) f9 j9 (.inl (by omega)) (.inl (by omega)) (by omega) (by omega) jok (by omega) (by rw [slen2]; exact sn2) (by omega) (fun w' m => hox.sl.ext (m.above x09 hS)) hox.cap
  have hap := append_tie (s := s2) (n := 0) (rec := x.words) (by omega) so2 hrl (by omega)
  have num9 := append_num (j := jopF s2.ws 0) (rec := x.words) sn2
  -- what comes of the Append
  have hres : ∃ t e, appendF (jopF s2.ws 0) s2 x.words = ((appendF (jopF s2.ws 0) s2 x.words).1, t, e) ∧ t.ws.length = 512 ∧ Num t 512 (72 * i + 71) ∧
      ((e = 0 ∧ t.off = false ∧ saysF t.ws 0 = ((jopF s2.ws 0).num + 1#32, x.words)) ∨ (e = 7 ∧ t.off = true ∧ (saysF t.ws 0 = ((jopF s2.ws 0).num + 1#32, x.words) ∨ saysF t.ws 0 = saysF s2.ws 0))) := by
    rcases hap with ⟨t, e1, e2, e3, e4, e5, e6⟩ | ⟨t, e1, e2, e3, e4, e5⟩
    · rw [e1] at num9
      exact ⟨t, 0, by rw [e1], e6.1.trans slen2, num9, .inl ⟨rfl, e3, e2⟩⟩
    · rw [e1] at num9
      exact ⟨t, 7, by rw [e1], e5.1.trans slen2, num9, .inr ⟨rfl, e2, e4⟩⟩
  obtain ⟨t, e, ea, tl, tn, hcase⟩ := hres
  clear hap num9
  rw [ea] at gap
  dsimp only at gap
  refine Calls.ret (gap) ?_
  rintro _ w10 ⟨rfl, f10, _, m10⟩
  conv => whnf
  have hb10 : Blk w10 bo 151 x.cells := m10.keepBlk hb9 (fun q => by rcases q with q | q | q <;> omega)
  have la10 := m10.keepOwn la9 hlb
  have x010 := m10.above x09 hS
  have hw10 : ∀ k, k < bo → k < w10.heap.size := fun k hk => by have := hb10.lt; omega
  refine vcReg_meet lok (fun β : Bool => [(84, .bool β)]) (fun β w' => w' = w10 ∧ β = false) [84] (fun _ => rfl) rfl ?_ ?_
  · conv => whnf
    rcases hcase with ⟨h4, h5, _⟩ | ⟨h4, h5, _⟩
    · subst h4
      conv => whnf
      exact ⟨_, ⟨rfl, trivial⟩, rfl, rfl⟩
    · subst h4
      conv => whnf
      refine Calls.ret (fon_calls f10) ?_
      rintro _ w11 ⟨rfl, rfl⟩
      conv => whnf
      exact ⟨_, ⟨rfl, trivial⟩, rfl, by rw [h5]; rfl⟩
  rintro β w11 ⟨hw11, rfl⟩
  subst hw11
  conv => whnf
  refine vcCond_false lok (rfl) ?_
  conv => whnf
  refine Calls.ret (start_calls f10) ?_
  rintro _ w12 ⟨rfl, f12, m12⟩
  conv => whnf
  have so12 : (startF t).off = false := rfl
  have sw12 : (startF t).ws = t.ws := rfl
  have sn12 := tn.start
  generalize startF t = t2 at *
  have hb12 := m12.keepBlk hb10 nbF
  have la12 := m12.keepOwn la10 nlF
  have x012 := FlMod.above m12 x010 hflo hlt.2.2
  have hl12 := sn12.len
  refine Calls.ret (jopen_calls f12 (by omega) 0) ?_
  rintro _ w13 hp
  conv => whnf
  rcases hp with ⟨hno, _⟩ | ⟨_, hno, _⟩ | ⟨_, _, _, p2, rfl, hj13, x13⟩
  · rw [so12] at hno; cases hno
  · exact absurd ⟨by decide, by omega⟩ hno
  have hj13 : JAt (fun k => k < w12.heap.size ∨ k = p2) w12.heap.size w13 p2 g (jopF t2.ws 0) := hj13
  have hp2 := hj13.lo
  have hz12 : w1.heap.size ≤ w12.heap.size := by
    have := hb12.lt
    omega
  conv => whnf
  refine vcReg_go lok ?_
  conv => whnf
  refine vcCond_false lok (rfl) ?_
  conv => whnf
  have jok2 := jop_ok (s := t2) (n := 0) (by omega)
  refine Calls.ret (last2_calls hj13 jok2.words (jop_zero _ _)) ?_
  rintro _ w14 ⟨x14, ya, yc, rfl, hoy⟩
  conv => whnf
  have hb14 := (hb12.ext x13).ext x14
  have la14 := (la12.ext x13).ext x14
  have x014 := x012.trans (x13.trans x14)
  have hsay : (e = 0 → (jopF t2.ws 0).num = (jopF s2.ws 0).num + 1#32 ∧ (jopF t2.ws 0).words = x.words) ∧
      (((jopF t2.ws 0).num = (jopF s2.ws 0).num + 1#32 ∧ (jopF t2.ws 0).words = x.words) ∨ ((jopF t2.ws 0).num = (jopF s2.ws 0).num ∧ (jopF t2.ws 0).words = (jopF s2.ws 0).words)) := by
    rw [sw12]
    rcases hcase with ⟨_, _, q⟩ | ⟨q0, _, q | q⟩
    · exact ⟨fun _ => ⟨congrArg Prod.fst q, congrArg Prod.snd q⟩, .inl ⟨congrArg Prod.fst q, congrArg Prod.snd q⟩⟩
    · exact ⟨(fun e0 => by rw [q0] at e0; cases e0), .inl ⟨congrArg Prod.fst q, congrArg Prod.snd q⟩⟩
    · exact ⟨(fun e0 => by rw [q0] at e0; cases e0), .inr ⟨congrArg Prod.fst q, congrArg Prod.snd q⟩⟩
  have hz2' := jop_zero t2.ws 0
  have ead := add1 (jopF s2.ws 0).num (by omega)
  have jw2 := jok.words
  have jw3 := jok2.words
  clear hcase gap f10 hb12 la12 hb10 la10 ea
  generalize hJ2 : jopF t2.ws 0 = J2 at *
  generalize jopF s2.ws 0 = J at *
  conv => whnf
  refine vcReg_meet lok (fun β : Bool => [(16, .bool β)]) (fun β w' => Ext w14 w' ∧ (J2.num = J.num ∧ J2.words = J.words → β = true)) [16] (fun _ => rfl) rfl ?_ ?_
  · conv => whnf
    refine Calls.ret (same_calls hoy.sl la14.sl (by omega)) ?_
    rintro _ w15 ⟨rfl, x15⟩
    conv => whnf
    refine bcase (fun k1 => ?_) (fun k1 => ?_)
    · conv => whnf
      refine bcase (fun k2 => ?_) (fun k2 => ?_)
      · conv => whnf
        refine ⟨_, ⟨rfl, trivial⟩, x15, fun q => ?_⟩
        rw [q.1]
        exact beq_self_bool _
      · conv => whnf
        exact ⟨_, ⟨rfl, trivial⟩, x15, fun q => absurd (by rw [q.1]) (df k2)⟩
    · conv => whnf
      exact ⟨_, ⟨rfl, trivial⟩, x15, fun q => absurd q.2 (df k1)⟩
  rintro β1 w15 ⟨x15, hβ1⟩
  have hb15 := hb14.ext x15
  conv => whnf
  refine vcReg_meet lok (fun β : Bool => [(17, .bool β)]) (fun β w' => Ext w15 w' ∧ (J2.num = J.num + 1#32 ∧ J2.words = x.words → β = true)) [17] (fun _ => rfl) rfl ?_ ?_
  · conv => whnf
    refine ⟨_, hb15.cell (i := 1) rfl, ?_⟩
    conv => whnf
    refine Calls.ret (same_calls (hoy.ext x15).sl (hox.sl.ext (x014.trans x15)) (by omega)) ?_
    rintro _ w16 ⟨rfl, x16⟩
    conv => whnf
    refine bcase (fun k1 => ?_) (fun k1 => ?_)
    · conv => whnf
      intro y hz
      have hz89 : y = ((J.num + 1#32).toNat : Int) := by rw [hz, wu32]; omega
      clear hz
      subst hz89
      conv => whnf
      refine bcase (fun k2 => ?_) (fun k2 => ?_)
      · conv => whnf
        refine ⟨_, ⟨rfl, trivial⟩, x16, fun q => ?_⟩
        rw [q.1, decide_eq_true_iff]
        omega
      · conv => whnf
        exact ⟨_, ⟨rfl, trivial⟩, x16, fun q => absurd (by rw [q.1]) (df k2)⟩
    · conv => whnf
      exact ⟨_, ⟨rfl, trivial⟩, x16, fun q => absurd q.2 (df k1)⟩
  rintro β2 w16 ⟨x16, hβ2⟩
  have hbb : β2 = true ∨ (β1 = true ∧ e ≠ 0) := by
    rcases hsay.2 with q | q
    · exact .inl (hβ2 q)
    · by_cases e0 : e = 0
      · exact .inl (hβ2 (hsay.1 e0))
      · exact .inr ⟨hβ1 q, e0⟩
  conv => whnf
  refine vcReg_meet lok (fun β : Bool => [(144, .bool β)]) (fun β w' => w' = w16 ∧ β = false) [144] (fun _ => rfl) rfl ?_ ?_
  · rcases hbb with q | ⟨q, e0⟩
    · subst q
      conv => whnf
      refine bcase (fun k => ?_) (fun k => ?_)
      · conv => whnf
        refine bcase (fun k2 => ?_) (fun k2 => ?_)
        · conv => whnf
          exact ⟨_, ⟨rfl, trivial⟩, rfl, rfl⟩
        · conv => whnf
          exact ⟨_, ⟨rfl, trivial⟩, rfl, rfl⟩
      · conv => whnf
        refine bcase (fun k2 => ?_) (fun k2 => ?_)
        · conv => whnf
          exact ⟨_, ⟨rfl, trivial⟩, rfl, rfl⟩
        · conv => whnf
          exact ⟨_, ⟨rfl, trivial⟩, rfl, rfl⟩
    · subst q
      conv => whnf
      refine bcase (fun k => absurd (dt k) e0) (fun k => ?_)
      conv => whnf
      exact ⟨_, ⟨rfl, trivial⟩, rfl, rfl⟩
  rintro β w17 ⟨hw17, rfl⟩
  subst hw17
  conv => whnf
  refine vcCond_false lok (rfl) ?_
  conv => whnf
  refine ⟨by omega, ?_⟩
  conv => whnf
  have x117 := x15.trans x16
  have zz1 := x012.size
  have zz2 := x13.size
  have hoyb : Own 42 u32v w0.heap.size w17 ya yc J2.words := ((hoy.ext x117).base (by omega))
  refine ⟨(i + 1, p2, ya, yc, t2), ⟨rfl, rfl, rfl, by rw [hJ2]; rfl, by rw [hJ2]; rfl, rfl, trivial⟩, ⟨by omega, by omega, ((f12.ext x13).ext x14).ext x117, ⟨w12.heap.size, hz12, hp2, ?_⟩, so12, sn12.up (by omega), ?_, fun b hb q => ?_, ?_, x014.trans x117⟩, by show 40 - (i + 1) < 40 - i; omega⟩
  · rw [hJ2]; exact ((hj13.ext x14).ext x117).base (by omega)
  · rw [hJ2]; exact hoyb
  · have h1 := (hoy.ge b hb).1
    have h2 := hj13.nt p2 hj13.self
    rcases q with q | q | q <;> omega
  · rw [hJ2]
    rcases hsay.2 with q | q
    · rw [q.1]; omega
    · rw [q.1]; omega
end Go.Proofs.Ytgipackjnncabaa
