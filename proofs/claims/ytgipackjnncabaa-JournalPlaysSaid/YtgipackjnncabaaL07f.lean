/- The law JournalPlays: both journals, opened and told. -/
import Derived.Test.YtgipackjnncabaaL07d
set_option linter.unusedVariables false
namespace Go.Proofs.Ytgipackjnncabaa
open Go.Vc Go.RowKit

/-- a pair's cells -/
def pC (g h : Nat) (jv rv : Value) : List Value := [.pointer (some ⟨g, 0, none⟩), .pointer (some ⟨h, 0, none⟩), jv, rv]
abbrev PN (g gw h hw pb p q : Nat) : Nat → Prop := fun k => k = g ∨ k = gw ∨ k = h ∨ k = hw ∨ k = pb ∨ k = p ∨ k = q
/-- what is kept of a journal -/
structure JK (j : JS) (s : FS) (n : Nat) : Prop where
  sec : j.sec = n
  ok : JSok j s
  tie : j.dead = true ∨ j = jopF s.ws n
  zero : j.num = 0#32 → j.words = []
theorem JK.opened {s : FS} {n : Nat} (h : 256 * (n + 2) ≤ s.ws.length) : JK (jopF s.ws n) s n := ⟨jop_sec _ _, jop_ok h, .inr rfl, jop_zero _ _⟩
theorem JK.other {j : JS} {s t : FS} {n : Nat} (h : JK j s n) (e : t.ws = s.ws) : JK j t n :=
  ⟨h.sec, ⟨by rw [e]; exact h.ok.sec, h.ok.cur, h.ok.end_, h.ok.num, h.ok.words⟩, by rw [e]; exact h.tie, h.zero⟩
theorem JK.kill {j : JS} {s t : FS} {n : Nat} (h : JK j s n) (e : t.ws.length = s.ws.length) : JK j.kill t n :=
  ⟨h.sec, ⟨by rw [e]; exact h.ok.sec, h.ok.cur, h.ok.end_, h.ok.num, h.ok.words⟩, .inl rfl, h.zero⟩
theorem JK.append {j : JS} {s : FS} {n : Nat} (h : JK j s n) (hn : 256 * (n + 2) ≤ s.ws.length) (rec : List (BitVec 32)) : JK (appendF j s rec).1 (appendF j s rec).2.1 n := by
  by_cases hd : j.dead = true ∨ s.off = true
  · have e : appendF j s rec = (j.kill, s, 7) := by unfold appendF; rw [if_pos hd]
    rw [e]
    exact h.kill rfl
  · have hd1 : j.dead = false := by
      cases e : j.dead with
      | false => rfl
      | true => exact absurd (.inl e) hd
    have hd2 : s.off = false := by
      cases e : s.off with
      | false => rfl
      | true => exact absurd (.inr e) hd
    have ej : j = jopF s.ws n := by
      rcases h.tie with q | q
      · rw [hd1] at q; cases q
      · exact q
    by_cases hbig : rec.length < 1 ∨ 64 < rec.length ∨ 2147483647 ≤ j.num.toNat
    · rw [append_big hd1 hd2 hbig]; exact h
    · rw [ej] at hbig ⊢
      have g := append_tie (s := s) (n := n) (rec := rec) hn hd2 (by omega) (by omega)
      rcases g with ⟨t, e1, _, _, _, _, e6⟩ | ⟨t, e1, _, _, _, e5⟩
      · rw [e1]
        exact JK.opened (by rw [e6.1]; exact hn)
      · rw [e1]
        exact (JK.opened hn).kill e5.1

/-- both journals, apart from one another and from the flashes -/
structure Both (B : Nat) (w : World) (Z g gw h hw pb p q : Nat) (j : JS) : Prop where
  jj : JAt (PN g gw h hw pb p q) B w p g j
  rr : RAt (PN g gw h hw pb p q) B w q h j
  ord : Z ≤ p ∧ p < q
section
variable {B Z : Nat} {w w' : World} {g gw c h hw d pb p q : Nat} {s : FS} {j : JS}
theorem Both.ext (k : Both B w Z g gw h hw pb p q j) (x : Ext w w') : Both B w' Z g gw h hw pb p q j := ⟨k.jj.ext x, k.rr.ext x, k.ord⟩

set_option maxHeartbeats 2000000 in
/-- open -/
theorem popen_calls {jv rv : Value} (t : Two B w g gw c h hw d s) (hb : Blk w pb 148 (pC g h jv rv)) (hne : pb ≠ g ∧ pb ≠ gw ∧ pb ≠ h ∧ pb ≠ hw) (hB : B ≤ w.heap.size) (hZ : Z ≤ w.heap.size) (hl : s.ws.length ≤ 65536) (n : Int) :
    Calls Try.prog 121 #[.pointer (some ⟨pb, 0, none⟩), .int .i64 n] w (Ret fun v w' => v = .bool true ∧ Mod (fun k => k = pb) w w' ∧ ∃ q,
      (Blk w' pb 148 (pC g h (.pointer none) (.pointer (some ⟨q, 0, none⟩))) ∨
       ∃ p m : Nat, n = m ∧ 256 * (m + 2) ≤ s.ws.length ∧ Blk w' pb 148 (pC g h (.pointer (some ⟨p, 0, none⟩)) (.pointer (some ⟨q, 0, none⟩))) ∧ Both B w' Z g gw h hw pb p q (jopF s.ws m))) := by
  have l1 := t.f.lt
  have l2 := t.r.lt
  have l3 := hb.lt
  have S1 : ∀ k, some pb = some k → k = pb := fun k hk => (Option.some.inj hk).symm
  refine calls_of_vc lok Try.func121 ?_ rfl
  conv => whnf
  refine ⟨_, hb.cell (i := 0) rfl, ?_⟩
  conv => whnf
  refine Calls.ret (jopen_calls t.f hl n) ?_
  rintro _ w1 hp
  conv => whnf
  have hend : ∀ (jo : Option Addr) (q' : Nat) w2, Ext w w2 → ∀ w3, w3 = w2.setCell ⟨pb, 0 + 2, none⟩ (.pointer jo) → ∀ w4, w4 = w3.setCell ⟨pb, 0 + 3, none⟩ (.pointer (some ⟨q', 0, none⟩)) →
      Blk w4 pb 148 (pC g h (.pointer jo) (.pointer (some ⟨q', 0, none⟩))) ∧ Mod (fun k => k = pb) w2 w4 := by
    intro jo q' w2 x2 w3 hw3 w4 hw4
    have h2 := hb.ext x2
    have h3 : Blk w3 pb 148 (pC g h (.pointer jo) rv) := by rw [hw3]; exact h2.set 2 _
    have h4 : Blk w4 pb 148 (pC g h (.pointer jo) (.pointer (some ⟨q', 0, none⟩))) := by rw [hw4]; exact h3.set 3 _
    exact ⟨h4, (Mod.ofGr (gr_of_set hw3) S1).trans (Mod.ofGr (gr_of_set hw4) S1)⟩
  rcases hp with ⟨hoff, rfl, x1⟩ | ⟨hoff, hbad, rfl, x1⟩ | ⟨hoff, hn0, hn1, p, rfl, hj, x1⟩
  · have hb1 := hb.ext x1
    conv => whnf
    refine ⟨_, hb1.cell (i := 1) rfl, ?_⟩
    conv => whnf
    refine Calls.ret (rjopen_calls (t.r.ext x1) hl n) ?_
    rintro _ w2 hq
    conv => whnf
    rcases hq with ⟨_, ⟨q, rfl⟩, x2⟩ | ⟨hno, _⟩ | ⟨hno, _⟩
    rotate_left
    · rw [hoff] at hno; cases hno
    · rw [hoff] at hno; cases hno
    have x02 := x1.trans x2
    have hb2 := hb.ext x02
    conv => whnf
    refine ⟨hb2.can 2 (by simp [pC]) _ rfl, fun w3 hw3 => ?_⟩
    have hb3 : Blk w3 pb 148 (pC g h (.pointer none) rv) := by rw [hw3]; exact hb2.set 2 _
    conv => whnf
    refine ⟨hb3.can 3 (by simp [pC]) _ rfl, fun w4 hw4 => ?_⟩
    have k := hend none q w2 x02 w3 hw3 w4 hw4
    conv => whnf
    refine vcReg_go lok ?_
    conv => whnf
    exact ⟨rfl, (Mod.ofExt _ x02).trans k.2, q, .inl k.1⟩
  · have hb1 := hb.ext x1
    conv => whnf
    refine ⟨_, hb1.cell (i := 1) rfl, ?_⟩
    conv => whnf
    refine Calls.ret (rjopen_calls (t.r.ext x1) hl n) ?_
    rintro _ w2 hq
    conv => whnf
    rcases hq with ⟨hno, _⟩ | ⟨_, _, ⟨q, rfl⟩, x2⟩ | ⟨_, k1, k2, _⟩
    · rw [hoff] at hno; cases hno
    rotate_left
    · exact absurd ⟨k1, k2⟩ hbad
    have x02 := x1.trans x2
    have hb2 := hb.ext x02
    conv => whnf
    refine ⟨hb2.can 2 (by simp [pC]) _ rfl, fun w3 hw3 => ?_⟩
    have hb3 : Blk w3 pb 148 (pC g h (.pointer none) rv) := by rw [hw3]; exact hb2.set 2 _
    conv => whnf
    refine ⟨hb3.can 3 (by simp [pC]) _ rfl, fun w4 hw4 => ?_⟩
    have k := hend none q w2 x02 w3 hw3 w4 hw4
    conv => whnf
    refine vcReg_go lok ?_
    conv => whnf
    exact ⟨rfl, (Mod.ofExt _ x02).trans k.2, q, .inl k.1⟩
  · have hb1 := hb.ext x1
    conv => whnf
    refine ⟨_, hb1.cell (i := 1) rfl, ?_⟩
    conv => whnf
    refine Calls.ret (rjopen_calls (t.r.ext x1) hl n) ?_
    rintro _ w2 hq
    conv => whnf
    rcases hq with ⟨hno, _⟩ | ⟨_, hno, _⟩ | ⟨_, _, _, q, rfl, hr, x2⟩
    · rw [hoff] at hno; cases hno
    · exact absurd ⟨hn0, hn1⟩ hno
    have x02 := x1.trans x2
    have hb2 := hb.ext x02
    obtain ⟨m, rfl⟩ := Int.eq_ofNat_of_zero_le hn0
    have hj : JAt (fun k => k < w.heap.size ∨ k = p) w.heap.size w1 p g (jopF s.ws m) := hj
    have hr : RAt (fun k => k < w1.heap.size ∨ k = q) w1.heap.size w2 q h (jopF s.ws m) := hr
    conv => whnf
    refine ⟨hb2.can 2 (by simp [pC]) _ rfl, fun w3 hw3 => ?_⟩
    have hb3 : Blk w3 pb 148 (pC g h (.pointer (some ⟨p, 0, none⟩)) rv) := by rw [hw3]; exact hb2.set 2 _
    conv => whnf
    refine ⟨hb3.can 3 (by simp [pC]) _ rfl, fun w4 hw4 => ?_⟩
    have k := hend (some ⟨p, 0, none⟩) q w2 x02 w3 hw3 w4 hw4
    conv => whnf
    refine vcReg_go lok ?_
    conv => whnf
    have p0 := hj.lo
    have p1 := hj.nt p hj.self
    have q0 := hr.lo
    have q1 := hr.nt q hr.self
    have z1 := x1.size
    have z2 := x2.size
    have jw : JAt (PN g gw h hw pb p q) B w2 p g (jopF s.ws m) := (hj.base hB).widen x2 (fun k hk => by
      rcases hk with e | e | e | e | e | e | e
      · exact .inl (.inl (by omega))
      · exact .inl (.inl (by omega))
      · exact .inl (.inl (by omega))
      · exact .inl (.inl (by omega))
      · exact .inl (.inl (by omega))
      · exact .inl (.inr e)
      · exact .inr (by omega)) (fun k hk => by rcases hk with e | e | e | e | e | e | e <;> omega) (.inr (.inr (.inr (.inr (.inr (.inl rfl))))))
    have rw' : RAt (PN g gw h hw pb p q) B w2 q h (jopF s.ws m) := (hr.base (Nat.le_trans hB z1)).widen (Ext.refl _) (fun k hk => by
      rcases hk with e | e | e | e | e | e | e
      · exact .inl (.inl (by omega))
      · exact .inl (.inl (by omega))
      · exact .inl (.inl (by omega))
      · exact .inl (.inl (by omega))
      · exact .inl (.inl (by omega))
      · exact .inl (.inl (by omega))
      · exact .inl (.inr e)) (fun k hk => by rcases hk with e | e | e | e | e | e | e <;> omega) (.inr (.inr (.inr (.inr (.inr (.inr rfl))))))
    refine ⟨rfl, (Mod.ofExt _ x02).trans k.2, q, .inr ⟨p, m, rfl, by omega, k.1, ?_⟩⟩
    exact ⟨jw.keep k.2 (fun k hk => .inr (.inr (.inr (.inr (.inl hk))))) (by omega), rw'.keep k.2 (fun k hk => .inr (.inr (.inr (.inr (.inl hk))))) (by omega), by omega⟩

set_option maxHeartbeats 4000000 in
/-- alike -/
theorem palike_calls (t : Two B w g gw c h hw d s) (hb : Blk w pb 148 (pC g h (.pointer (some ⟨p, 0, none⟩)) (.pointer (some ⟨q, 0, none⟩)))) (k : Both B w Z g gw h hw pb p q j) (hwl : j.words.length ≤ 64) (hz : j.num = 0#32 → j.words = []) (hl : s.ws.length ≤ 65536) :
    Calls Try.prog 122 #[.pointer (some ⟨pb, 0, none⟩)] w (Ret fun v w' => v = .bool true ∧ Ext w w') := by
  obtain ⟨⟨ra, rc, hr, hro, _⟩, _, _, _⟩ := k.rr
  refine calls_of_vc lok Try.func122 ?_ rfl
  conv => whnf
  refine ⟨_, hb.cell (i := 2) rfl, ?_⟩
  conv => whnf
  refine Calls.ret (last2_calls k.jj hwl hz) ?_
  rintro _ w1 ⟨x1, la, lc, rfl, hol⟩
  conv => whnf
  have hb1 := hb.ext x1
  have hr1 := hr.ext x1
  have hf1 := t.r.blk.ext x1
  refine vcDraw_meet lok mixed (Ext w1) [8, 38, 46, 54] [0, 1, 2, 3, 4, 5, 6, 7, 8, 9, 10, 11, 12, 13, 14, 15, 16, 17, 18, 19, 20, 21, 22, 23, 24, 25, 26, 27, 28, 29, 30, 31, 32, 33, 34, 35, 36, 37, 39, 40, 41, 42, 43, 44, 45, 38, 46, 47, 48, 49, 50, 51, 52, 53, 55, 56, 57, 58, 59, 60, 61, 54, 62, 63]
    (fun β : Bool => [(79, .bool β)]) (fun β w' => β = false ∧ Ext w1 w') [79] (fun _ => rfl) rfl (by kernel_rfl) (fun w2 hw2 => ⟨hw2 ▸ Ext.drew w1, ?_⟩) ?_
  · have x2 : Ext w1 w2 := hw2 ▸ Ext.drew w1
    clear hw2
    conv => whnf
    refine ⟨_, fun w' hw' => (hb1.ext hw').cell (i := 3) rfl, ?_⟩
    conv => whnf
    refine ⟨_, fun w' hw' => (hr1.ext hw').cell (i := 3) rfl, ?_⟩
    conv => whnf
    have x02 := x1.trans x2
    refine Calls.ret (same_calls (hol.ext x2).sl (hro.ext x02).sl (by omega)) ?_
    rintro _ w3 ⟨rfl, x3⟩
    have x13 := x2.trans x3
    refine ⟨_, fun _ h => h, x13, ?_⟩
    conv => whnf
    refine bcase (fun k4 => absurd k4 (by rw [decide_eq_true rfl]; decide)) (fun _ => ?_)
    conv => whnf
    refine ⟨_, fun w' hw' => (hb1.ext hw').cell (i := 3) rfl, ?_⟩
    conv => whnf
    refine ⟨_, fun w' hw' => (hr1.ext hw').cell (i := 4) rfl, ?_⟩
    conv => whnf
    refine bcase (fun k4 => absurd rfl (ne_true k4)) (fun _ => ?_)
    conv => whnf
    refine ⟨_, fun w' hw' => (hb1.ext hw').cell (i := 3) rfl, ?_⟩
    conv => whnf
    refine ⟨_, fun w' hw' => (hr1.ext hw').cell (i := 4) rfl, ?_⟩
    conv => whnf
    refine bcase (fun k4 => absurd k4 (by rw [beq_self_bool]; decide)) (fun _ => ?_)
    conv => whnf
    refine ⟨_, fun w' hw' => (hb1.ext hw').cell (i := 0) rfl, ?_⟩
    conv => whnf
    refine ⟨_, fun w' hw' => (hb1.ext hw').cell (i := 1) rfl, ?_⟩
    conv => whnf
    refine ⟨_, fun w' hw' => (hf1.ext hw').cell (i := 0) rfl, ?_⟩
    conv => whnf
    have x03 := x1.trans x13
    refine Calls.ret (fwords_calls (t.f.ext x03) (by omega)) ?_
    rintro _ w4 ⟨a4, c4, rfl, ho4, x4⟩
    have x14 := x13.trans x4
    refine ⟨_, fun _ h => h, x14, ?_⟩
    conv => whnf
    have x04 := x1.trans x14
    refine Calls.ret (same_calls ho4.sl (t.r.ext x04).own.sl (by omega)) ?_
    rintro _ w5 ⟨rfl, x5⟩
    have x15 := x14.trans x5
    refine ⟨_, fun _ h => h, x15, ?_⟩
    conv => whnf
    refine bcase (fun k4 => absurd k4 (by rw [decide_eq_true rfl]; decide)) (fun _ => ?_)
    conv => whnf
    refine ⟨_, fun w' hw' => (hb1.ext hw').cell (i := 0) rfl, ?_⟩
    conv => whnf
    refine ⟨_, fun w' hw' => (hb1.ext hw').cell (i := 1) rfl, ?_⟩
    conv => whnf
    refine ⟨_, fun w' hw' => (hf1.ext hw').cell (i := 1) rfl, ?_⟩
    conv => whnf
    refine Calls.ret (fon_calls (t.f.ext (x1.trans x15))) ?_
    rintro _ w6 ⟨rfl, hw6⟩
    subst hw6
    refine ⟨_, fun _ h => h, x15, ?_⟩
    conv => whnf
    refine ⟨_, ⟨rfl, trivial⟩, ?_, x15⟩
    cases s.off <;> rfl
  rintro β w2 ⟨rfl, x2⟩
  have x02 := x1.trans x2
  conv => whnf
  refine vcCond_false lok (rfl) ?_
  conv => whnf
  refine vcLoop_inv lok (σ := Nat × List (BitVec 32))
    (fun ⟨i, xs⟩ => [(6, .int .i64 i), (3, .slice la j.words.length lc), (0, .pointer (some ⟨pb, 0, none⟩))])
    (fun ⟨i, xs⟩ w' => i ≤ j.words.length ∧ xs.length = j.words.length ∧ Own 42 u32v w.heap.size w' la lc xs ∧ Ext w w') (fun t => j.words.length - t.1)
    (0, j.words) ⟨rfl, rfl, rfl, trivial⟩ ⟨Nat.zero_le _, rfl, hol.ext x2, x02⟩ ?_
  rintro ⟨i, xs⟩ w3 ⟨hi, hxl, ho3, x3⟩
  conv => whnf
  refine vcCond_split lok rfl (fun h5 => ?_) (fun h5 => ?_)
  · have h5 := dt h5
    conv => whnf
    have g6 := ho3.store (i : Int) (by omega) (by omega)
    obtain ⟨gb, hag, hc1, hfz, hBg, hgl, hst⟩ := g6
    refine ⟨gb, 0, hag, ⟨by omega, by omega⟩, ?_⟩
    conv => whnf
    refine ⟨⟨rfl, hc1, hfz⟩, fun w4 hw4 => ?_⟩
    have g7 := hst 7#32
    obtain ⟨ho4, hg4⟩ := g7
    have hw4 : w4 = w3.setCell ⟨gb, 0 + (i : Int).toNat, none⟩ (u32v 7#32) := hw4
    rw [← hw4] at ho4 hg4
    clear hw4
    have x4 : Ext w w4 := hg4.extOf x3 (fun k hk => by cases hk; exact hBg)
    have el : (xs.set (i : Int).toNat 7#32).length = j.words.length := by rw [List.length_set]; exact hxl
    conv => whnf
    refine ⟨by omega, ?_⟩
    conv => whnf
    exact ⟨(i + 1, xs.set (i : Int).toNat 7#32), ⟨rfl, rfl, rfl, trivial⟩, ⟨by omega, el, ho4, x4⟩, by show j.words.length - (i + 1) < j.words.length - i; omega⟩
  · have h5 := df h5
    conv => whnf
    have hb3 := hb.ext x3
    refine ⟨_, hb3.cell (i := 2) rfl, ?_⟩
    conv => whnf
    refine Calls.ret (last2_calls (k.jj.ext x3) hwl hz) ?_
    rintro _ w4 ⟨x4, ma, mc, rfl, hom⟩
    conv => whnf
    refine ⟨_, (hb3.ext x4).cell (i := 3) rfl, ?_⟩
    conv => whnf
    refine ⟨_, ((hr.ext x3).ext x4).cell (i := 3) rfl, ?_⟩
    conv => whnf
    refine Calls.ret (same_calls hom.sl (hro.ext (x3.trans x4)).sl (by omega)) ?_
    rintro _ w5 ⟨rfl, x5⟩
    conv => whnf
    exact ⟨by rw [decide_eq_true rfl], x3.trans (x4.trans x5)⟩
end

def j7F : FS := newFS (List.replicate (256 * (4 : Int).toNat) ones)
/-- what holds at a round's beginning -/
def PInv (w0 : World) (Z g gw c h hw d pb : Nat) (n : Int) (cnt : Nat) (w : World) : Prop :=
  Ext w0 w ∧ ∃ s q, Two w0.heap.size w g gw c h hw d s ∧ Num s 1024 cnt ∧
      (Blk w pb 148 (pC g h (.pointer none) (.pointer (some ⟨q, 0, none⟩))) ∨
       ∃ p m j, n = ((m : Nat) : Int) ∧ 256 * (m + 2) ≤ 1024 ∧ Blk w pb 148 (pC g h (.pointer (some ⟨p, 0, none⟩)) (.pointer (some ⟨q, 0, none⟩))) ∧ Both w0.heap.size w Z g gw h hw pb p q j ∧ JK j s m)
theorem PInv.ext {w0 w w' : World} {Z g gw c h hw d pb cnt : Nat} {n : Int} (k : PInv w0 Z g gw c h hw d pb n cnt w) (x : Ext w w') : PInv w0 Z g gw c h hw d pb n cnt w' := by
  obtain ⟨x0, s, q, t, sn, k⟩ := k
  refine ⟨x0.trans x, s, q, t.ext x, sn, ?_⟩
  rcases k with k | ⟨p, m, j, e1, e2, k1, k2, k3⟩
  · exact .inl (k.ext x)
  · exact .inr ⟨p, m, j, e1, e2, k1.ext x, k2.ext x, k3⟩
/-- opened -/
theorem PInv.open {w0 w w' : World} {Z g gw c h hw d pb cnt : Nat} {n : Int} {s : FS} (x0 : Ext w0 w) (hpb : w0.heap.size ≤ pb) (t : Two w0.heap.size w g gw c h hw d s) (sn : Num s 1024 cnt) (hne : pb ≠ g ∧ pb ≠ gw ∧ pb ≠ h ∧ pb ≠ hw) (m : Mod (fun k => k = pb) w w') {q : Nat}
    (k : Blk w' pb 148 (pC g h (.pointer none) (.pointer (some ⟨q, 0, none⟩))) ∨
       ∃ p m : Nat, n = m ∧ 256 * (m + 2) ≤ s.ws.length ∧ Blk w' pb 148 (pC g h (.pointer (some ⟨p, 0, none⟩)) (.pointer (some ⟨q, 0, none⟩))) ∧ Both w0.heap.size w' Z g gw h hw pb p q (jopF s.ws m)) : PInv w0 Z g gw c h hw d pb n cnt w' := by
  have hl := sn.len
  refine ⟨m.above x0 (fun k hk => by omega), s, q, ⟨t.f.keep m (by omega) (by omega), t.r.keep m (by omega) (by omega), t.a1, t.a2, t.a3, t.a4⟩, sn, ?_⟩
  rcases k with k | ⟨p, m, e1, e2, e3, e4⟩
  · exact .inl k
  · exact .inr ⟨p, m, _, e1, by omega, e3, e4, JK.opened e2⟩
theorem cut_ws (s : FS) (a : Int) (m : BitVec 32) : (cutF s a m).1.ws = s.ws := by unfold cutF; split <;> rfl

set_option maxRecDepth 100000 in
set_option maxHeartbeats 8000000 in
theorem journalPlays_walk {w : World} (n : Int) {a : Option Addr} {c : Nat} {xs : List O7} (h : SlN 4 O7.cells w a xs) (hl : xs.length ≤ 9223372036854775807) (hok : ∀ x ∈ xs, O7Ok w x) :
    Calls Try.prog 30 #[.int .i64 n, .slice a xs.length c] w (Law w) := by
  refine calls_of_vc lok Try.func30 ?_ rfl
  conv => whnf
  refine Calls.ret (light_calls h hl) ?_
  rintro _ w0 ⟨hw0, β, rfl, hlight⟩
  conv => whnf
  subst hw0
  refine vcCond_split lok rfl (fun h1 => ?_) (fun h1 => ?_)
  · conv => whnf
    refine Calls.ret (known07) ?_
    rintro _ w1 ⟨rfl, x1⟩
    conv => whnf
    exact ⟨rfl, x1⟩
  have hlight := hlight (by simpa using h1)
  clear h1
  conv => whnf
  refine Calls.ret (new_calls 4) ?_
  rintro _ w1 hp
  conv => whnf
  rcases hp with ⟨hno, _, _⟩ | ⟨_, g, gw, fc, rfl, hf1, x1⟩
  · exact absurd hno (by decide)
  replace hf1 : FlAt 181 w0.heap.size w1 g gw fc j7F := hf1
  conv => whnf
  refine ⟨_, fun w => run_build w 148 _ _ (show Try.prog.built 148 [(0, .pointer (some ⟨g, 0, none⟩))] = some #[.pointer (some ⟨g, 0, none⟩), .pointer none, .pointer none, .pointer none] by kernel_rfl), ?_⟩
  conv => whnf
  intro w2 hw2
  have hb2 : Blk w2 w1.heap.size 148 [.pointer (some ⟨g, 0, none⟩), .pointer none, .pointer none, .pointer none] := by rw [hw2]; exact Blk.new w1 148 _
  have x2 : Ext w1 w2 := by rw [hw2]; exact Ext.new _ _
  clear hw2
  conv => whnf
  refine Calls.ret (made_calls 4) ?_
  rintro _ w3 hq
  conv => whnf
  rcases hq with ⟨hno, _⟩ | ⟨_, hh, hw, hd, rfl, hr3, x3⟩
  · exact absurd hno (by decide)
  have l0 : j7F.ws.length = 1024 := by decide +kernel
  have qn : Num j7F 1024 0 := ⟨l0, by decide +kernel, by decide +kernel⟩
  replace hr3 : FlAt 81 w2.heap.size w3 hh hw hd j7F := hr3
  generalize j7F = s0 at *
  have l1 := hf1.lt
  have l2 := hr3.lt
  have l3 := hr3.lo
  have l4 := hf1.lo
  have l5 := hb2.lt
  have z1 := x1.size
  have z2 := x2.size
  have z3 := x3.size
  have hpb0 : w1.heap.size ≤ w1.heap.size := Nat.le_refl _
  generalize hpb : w1.heap.size = pb at *
  have t3 : Two w0.heap.size w3 g gw fc hh hw hd s0 := ⟨(hf1.ext x2).ext x3, hr3.base (by omega), by omega, by omega, by omega, by omega⟩
  have hb3 := hb2.ext x3
  have x03 := x1.trans (x2.trans x3)
  conv => whnf
  refine ⟨hb3.can 1 (by simp) _ rfl, fun w4 hw4 => ?_⟩
  have hb4 : Blk w4 pb 148 (pC g hh (.pointer none) (.pointer none)) := by rw [hw4]; exact hb3.set 1 _
  have m4 : Mod (fun k => k = pb) w3 w4 := Mod.ofGr (gr_of_set hw4) fun k hk => (Option.some.inj hk).symm
  clear hw4
  have t4 : Two w0.heap.size w4 g gw fc hh hw hd s0 := ⟨t3.f.keep m4 (by omega) (by omega), t3.r.keep m4 (by omega) (by omega), t3.a1, t3.a2, t3.a3, t3.a4⟩
  have x04 := m4.above x03 (fun k hk => by omega)
  have hne : pb ≠ g ∧ pb ≠ gw ∧ pb ≠ hh ∧ pb ≠ hw := by omega
  have z4 := x04.size
  clear hf1 hr3 hb2 hb3 t3 x03
  conv => whnf
  refine vcReg_meet lok (fun β : Bool => [(41, .bool β)]) (fun β w' => β = false ∧ Mod (fun k => k = pb) w4 w' ∧ ∃ q,
      (Blk w' pb 148 (pC g hh (.pointer none) (.pointer (some ⟨q, 0, none⟩))) ∨
       ∃ p m : Nat, n = m ∧ 256 * (m + 2) ≤ s0.ws.length ∧ Blk w' pb 148 (pC g hh (.pointer (some ⟨p, 0, none⟩)) (.pointer (some ⟨q, 0, none⟩))) ∧ Both w0.heap.size w' w3.heap.size g gw hh hw pb p q (jopF s0.ws m))) [41] (fun _ => rfl) rfl ?_ ?_
  · conv => whnf
    refine ⟨_, hb4.cell (i := 0) rfl, ?_⟩
    conv => whnf
    refine Calls.ret (popen_calls (Z := w3.heap.size) t4 hb4 hne z4 m4.size (by omega) n) ?_
    rintro _ w5 ⟨rfl, m5, k5⟩
    conv => whnf
    exact ⟨_, ⟨rfl, trivial⟩, rfl, m5, k5⟩
  rintro β w5 ⟨rfl, m5, q, k5⟩
  have hpbB : w0.heap.size ≤ pb := by omega
  have P5 : PInv w0 w3.heap.size g gw fc hh hw hd pb n (80 * 0) w5 := PInv.open x04 hpbB t4 qn hne m5 k5
  have o1 : g < pb ∧ gw < pb ∧ pb < hh ∧ pb < hw ∧ hh < w3.heap.size ∧ hw < w3.heap.size := by omega
  have z30 : w0.heap.size ≤ w3.heap.size := by omega
  clear m5 k5 t4 x04 hb4 m4 z4 l1 l2 l3 l4 l5 z1 z2 z3 x1 x2 x3 hpb hpb0 hne qn l0
  obtain ⟨o1, o2, o3, o4, o5, o6⟩ := o1
  conv => whnf
  refine vcCond_false lok (rfl) ?_
  conv => whnf
  refine vcLoop_inv lok (σ := Nat)
    (fun i => [(8, .int .i64 i), (5, .pointer (some ⟨pb, 0, none⟩)), (0, .int .i64 n), (1, .slice a xs.length c)])
    (fun i w' => i ≤ xs.length ∧ i ≤ 40 ∧ PInv w0 w3.heap.size g gw fc hh hw hd pb n (80 * i) w') (fun i => 40 - i)
    0 ⟨rfl, rfl, rfl, rfl, trivial⟩ ⟨Nat.zero_le _, Nat.zero_le _, P5⟩ ?_
  rintro i w6 ⟨hi, hi40, x6, s, q', t6, sn, k6⟩
  conv => whnf
  rcases k6 with k6 | ⟨p, m, j, en, hm, hb6, B6, K6⟩
  · refine vcReg_meet lok (fun β : Bool => [(56, .bool β)]) (fun β w' => w' = w6 ∧ β = false) [56] (fun _ => rfl) rfl ?_ ?_
    · conv => whnf
      refine bcase (fun h1 => ?_) (fun h1 => ?_)
      · conv => whnf
        refine bcase (fun h2 => ?_) (fun h2 => ?_)
        · conv => whnf
          refine ⟨_, k6.cell (i := 2) rfl, ?_⟩
          conv => whnf
          exact ⟨_, ⟨rfl, trivial⟩, rfl, rfl⟩
        · conv => whnf
          exact ⟨_, ⟨rfl, trivial⟩, rfl, rfl⟩
      · conv => whnf
        exact ⟨_, ⟨rfl, trivial⟩, rfl, rfl⟩
    rintro β w7 ⟨hw7, rfl⟩
    subst hw7
    conv => whnf
    refine vcCond_false lok (rfl) ?_
    conv => whnf
    refine Calls.ret (known07) ?_
    rintro _ w8 ⟨rfl, x8⟩
    conv => whnf
    exact ⟨rfl, x6.trans x8⟩
  refine vcReg_meet lok (fun β : Bool => [(56, .bool β)]) (fun β w' => w' = w6 ∧ β = decide (i < xs.length ∧ i < 40)) [56] (fun _ => rfl) rfl ?_ ?_
  · conv => whnf
    refine bcase (fun h1 => ?_) (fun h1 => ?_)
    · have h1 := dt h1
      conv => whnf
      refine bcase (fun h2 => ?_) (fun h2 => ?_)
      · have h2 := dt h2
        conv => whnf
        refine ⟨_, hb6.cell (i := 2) rfl, ?_⟩
        conv => whnf
        exact ⟨_, ⟨rfl, trivial⟩, rfl, by rw [decide_eq_true (by omega)]⟩
      · have h2 := df h2
        conv => whnf
        exact ⟨_, ⟨rfl, trivial⟩, rfl, by rw [decide_eq_false (by omega)]⟩
    · have h1 := df h1
      conv => whnf
      exact ⟨_, ⟨rfl, trivial⟩, rfl, by rw [decide_eq_false (by omega)]⟩
  rintro β w7 ⟨hw7, hβ⟩
  subst hw7
  conv => whnf
  refine vcCond_split lok rfl (fun h1 => ?_) (fun h1 => ?_)
  rotate_left
  · conv => whnf
    refine Calls.ret (known07) ?_
    rintro _ w8 ⟨rfl, x8⟩
    conv => whnf
    exact ⟨rfl, x6.trans x8⟩
  rw [h1] at hβ
  have hlt2 := dt hβ.symm
  clear hβ
  have hixs : i < xs.length := hlt2.1
  have hox := hok xs[i] (List.getElem_mem hixs)
  have h300 := hlight i hixs hlt2.2
  conv => whnf
  have g5 := (h.ext x6).at i hixs
  generalize xs[i] = x at *
  obtain ⟨pp, oo, hpa, hcell⟩ := g5
  refine ⟨pp, oo, hpa, ⟨by omega, by omega⟩, ?_⟩
  conv => whnf
  refine ⟨x.cells, rfl, hcell, ?_⟩
  conv => whnf
  intro w8 hw8
  have hb8 : Blk w8 w7.heap.size 151 [.int .i64 0, .slice none 0 0, .int .i64 0, .int .u32 0] := by rw [hw8]; exact Blk.new w7 151 _
  have y8 : Ext w7 w8 := by rw [hw8]; exact Ext.new _ _
  clear hw8
  conv => whnf
  have k9 := Blk.storeAgg lok hb8 (t := 151) (us := x.cells) rfl 0 (Nat.le_refl 4) (O7.one x)
  obtain ⟨w9, hr9, ho9, hg9⟩ := k9
  have y9 : Ext w7 w9 := hg9.extOf y8 (fun g hg => by cases hg; exact Nat.le_refl _)
  have ho9 : Blk w9 w7.heap.size 151 x.cells := ho9
  refine ⟨w9, hr9, ?_⟩
  have t9 := t6.ext y9
  have hb9 := hb6.ext y9
  have B9 := B6.ext y9
  have x09 := x6.trans y9
  have r1 := t6.f.lt
  have r2 := t6.r.lt
  have r3 := t6.f.lo
  have r4 := t6.r.lo
  have r5 := hb6.lt
  have r6 := B6.jj.nt p B6.jj.self
  have r7 := B6.rr.nt q' B6.rr.self
  have r8 := ho9.lt
  have r9 := B6.jj.lo
  have r10 := B6.rr.lo
  have slen := sn.len
  have ford := B6.ord
  clear hr9 hg9 y8 hb8 t6 hb6 B6 x6 hcell
  generalize hbo : w7.heap.size = bo at *
  conv => whnf
  refine ⟨_, ho9.cell (i := 0) rfl, ?_⟩
  conv => whnf
  refine vcCond_meet (fun _ : Unit => [(8, .int .i64 i), (5, .pointer (some ⟨pb, 0, none⟩)), (0, .int .i64 n), (1, .slice a xs.length c)])
    (fun _ w' => PInv w0 w3.heap.size g gw fc hh hw hd pb n (80 * i + 79) w') ?_ ?_
  · refine vcCond_split lok rfl (fun h2 => ?_) (fun h2 => ?_)
    · -- Append
      conv => whnf
      refine ⟨_, ho9.cell (i := 1) rfl, ?_⟩
      conv => whnf
      have g10 := (Own.nil 42 u32v w9.heap.size w9).append (ty := 37) (d := x.rc) e32.toElem (fun _ => rfl) (hox.sl.ext x09) (by simp; omega) (Nat.le_refl _)
      obtain ⟨a10, c10, w10, hr10, ho10, hg10, _⟩ := g10
      rw [List.nil_append] at hr10 ho10
      refine ⟨_, _, hr10, ?_⟩
      have y10 : Ext w9 w10 := Gr.ext hg10
      have x010 := x09.trans y10
      have hb10 := hb9.ext y10
      have hoo10 := ho9.ext y10
      have t10 := t9.ext y10
      have z10 := y10.size
      have oge := fun k hk => ho10.ge k hk
      -- the row that is handed over is none of the journals'
      have N1 : ∀ k, (PN g gw hh hw pb p q' k ∨ blockOf a10 = some k) → k < w10.heap.size := fun k hk => by
        rcases hk with hk | hk
        · rcases hk with e | e | e | e | e | e | e <;> omega
        · exact (oge k hk).2
      have j10 := B9.jj.widen (N' := fun k => PN g gw hh hw pb p q' k ∨ blockOf a10 = some k) y10 (fun k hk => by rcases hk with hk | hk; exact .inl hk; exact .inr (oge k hk).1) N1 (.inl B9.jj.self)
      have q10 := B9.rr.widen (N' := fun k => PN g gw hh hw pb p q' k ∨ blockOf a10 = some k) y10 (fun k hk => by rcases hk with hk | hk; exact .inl hk; exact .inr (oge k hk).1) N1 (.inl B9.rr.self)
      have nS : ∀ k, blockOf a10 = some k → ¬ (k = g ∨ k = gw ∨ k = hh ∨ k = hw ∨ k = p ∨ k = q') := fun k hk e => by have := (oge k hk).1; rcases e with e | e | e | e | e | e <;> omega
      have hS : ∀ k, (k = g ∨ k = gw ∨ k = hh ∨ k = hw ∨ k = p ∨ k = q') → w0.heap.size ≤ k := fun k hk => by rcases hk with e | e | e | e | e | e <;> omega
      have nb : ¬ (pb = g ∨ pb = gw ∨ pb = hh ∨ pb = hw ∨ pb = p ∨ pb = q') := by omega
      have no : ¬ (bo = g ∨ bo = gw ∨ bo = hh ∨ bo = hw ∨ bo = p ∨ bo = q') := by omega
      conv => whnf
      refine vcDraw_meet lok mixed (Mod (fun k => k = g ∨ k = gw ∨ k = hh ∨ k = hw ∨ k = p ∨ k = q') w10) [5, 12] [0, 1, 2, 3, 4, 6, 7, 8, 9, 10, 11, 5, 12, 13, 14, 15, 16, 17, 18, 19, 20]
        (fun β : Bool => [(95, .bool β)]) (fun β w' => β = false ∧ Mod (fun k => k = g ∨ k = gw ∨ k = hh ∨ k = hw ∨ k = p ∨ k = q') w10 w' ∧ Two w0.heap.size w' g gw fc hh hw hd (appendF j s x.words).2.1 ∧
          JAt (fun k => PN g gw hh hw pb p q' k ∨ blockOf a10 = some k) w0.heap.size w' p g (appendF j s x.words).1 ∧ RAt (fun k => PN g gw hh hw pb p q' k ∨ blockOf a10 = some k) w0.heap.size w' q' hh (appendF j s x.words).1) [95] (fun _ => rfl) rfl (by kernel_rfl)
        (fun w11 hw11 => ⟨Mod.ofExt _ (hw11 ▸ Ext.drew w10), ?_⟩) ?_
      · have y11 : Ext w10 w11 := hw11 ▸ Ext.drew w10
        clear hw11
        have m11 : Mod (fun k => k = g ∨ k = gw ∨ k = hh ∨ k = hw ∨ k = p ∨ k = q') w10 w11 := Mod.ofExt _ y11
        have t11 := t10.ext y11
        conv => whnf
        refine ⟨_, fun w' hw' => (hw'.keepBlk hb10 nb).cell (i := 2) rfl, ?_⟩
        conv => whnf
        refine ⟨_, fun w' hw' => (hw'.keepBlk hb10 nb).cell (i := 3) rfl, ?_⟩
        conv => whnf
        refine ⟨_, fun w' hw' => (hw'.keepBlk hoo10 no).cell (i := 1) rfl, ?_⟩
        conv => whnf
        have gap := jappend_calls (rc := c10) (rec := x.words) (ra := a10) t11.f (j10.ext y11) (.inl (.inl rfl)) (.inl (.inr (.inl rfl))) (by omega) (by omega) K6.ok (by omega) (by rw [slen]; exact sn) (by omega)
          (fun w' m' => ((m'.sub (S' := fun k => k = g ∨ k = gw ∨ k = hh ∨ k = hw ∨ k = p ∨ k = q') fun k _ hk => by rcases hk with e | e | e; exact .inl e; exact .inr (.inl e); exact .inr (.inr (.inr (.inr (.inl e))))).keepOwn (ho10.ext y11) nS).sl) (by omega)
        refine Calls.ret gap ?_
        rintro _ w12 ⟨rfl, f12, j12, m12⟩
        have mm12 := m11.trans (m12.sub (S' := fun k => k = g ∨ k = gw ∨ k = hh ∨ k = hw ∨ k = p ∨ k = q') fun k _ hk => by rcases hk with e | e | e; exact .inl e; exact .inr (.inl e); exact .inr (.inr (.inr (.inr (.inl e)))))
        refine ⟨_, fun _ h => h, mm12, ?_⟩
        conv => whnf
        have hr12 : FlAt 81 w0.heap.size w12 hh hw hd s := t11.r.keep m12 (by omega) (by omega)
        have q12 := (q10.ext y11).keep m12 (fun k hk => .inl (by rcases hk with e | e | e; exact .inl e; exact .inr (.inl e); exact .inr (.inr (.inr (.inr (.inr (.inl e))))))) (by omega)
        have gar := rjappend_calls (rc := x.rc) (rec := x.words) (ra := x.ra) hr12 q12 (.inl (.inr (.inr (.inl rfl)))) (.inl (.inr (.inr (.inr (.inl rfl))))) (by omega) (by omega) (by rw [K6.sec]; exact K6.tie) K6.ok (by omega) (by rw [slen]; exact sn) (by omega)
          (fun w' m' => hox.sl.ext ((m'.sub (S' := fun k => k = g ∨ k = gw ∨ k = hh ∨ k = hw ∨ k = p ∨ k = q') fun k _ hk => by rcases hk with e | e | e; exact .inr (.inr (.inl e)); exact .inr (.inr (.inr (.inl e))); exact .inr (.inr (.inr (.inr (.inr e))))).above (mm12.above x010 hS) hS)) hox.cap
        refine Calls.ret gar ?_
        rintro _ w13 ⟨rfl, f13, q13, m13⟩
        have mm13 := mm12.trans (m13.sub (S' := fun k => k = g ∨ k = gw ∨ k = hh ∨ k = hw ∨ k = p ∨ k = q') fun k _ hk => by rcases hk with e | e | e; exact .inr (.inr (.inl e)); exact .inr (.inr (.inr (.inl e))); exact .inr (.inr (.inr (.inr (.inr e)))))
        refine ⟨_, fun _ h => h, mm13, ?_⟩
        conv => whnf
        have f13' := f12.keep m13 (by omega) (by omega)
        have j13 := j12.keep m13 (fun k hk => .inl (by rcases hk with e | e | e; exact .inr (.inr (.inl e)); exact .inr (.inr (.inr (.inl e))); exact .inr (.inr (.inr (.inr (.inr (.inr e))))))) (by omega)
        refine bcase (fun k4 => absurd rfl (ne_true k4)) (fun _ => ?_)
        conv => whnf
        refine ⟨_, fun w' hw' => (hw'.keepBlk hoo10 no).cell (i := 1) rfl, ?_⟩
        conv => whnf
        refine Calls.ret (same_calls (mm13.keepOwn ho10 nS).sl (hox.sl.ext (mm13.above x010 hS)) (by omega)) ?_
        rintro _ w14 ⟨rfl, x14⟩
        conv => whnf
        refine ⟨_, ⟨rfl, trivial⟩, by rw [decide_eq_true rfl]; rfl, mm13.trans (Mod.ofExt _ x14), ⟨f13'.ext x14, f13.ext x14, t11.a1, t11.a2, t11.a3, t11.a4⟩, j13.ext x14, q13.ext x14⟩
      rintro β w11 ⟨rfl, m11, t11, j11, q11⟩
      have K11 := K6.append (by omega) x.words
      have sn11 := append_num (j := j) (rec := x.words) sn
      have ho11 := m11.keepOwn ho10 nS
      have hb11 := m11.keepBlk hb10 nb
      have x011 := m11.above x010 hS
      have z11 := m11.size
      have oge11 := fun k hk => ho11.ge k hk
      have gA : ∃ A, A = appendF j s x.words := ⟨_, rfl⟩
      obtain ⟨A, hA⟩ := gA
      rw [← hA] at t11 j11 q11 K11 sn11
      clear hA
      obtain ⟨j', s', e'⟩ := A
      have t11 : Two w0.heap.size w11 g gw fc hh hw hd s' := t11
      have j11 : JAt (fun k => PN g gw hh hw pb p q' k ∨ blockOf a10 = some k) w0.heap.size w11 p g j' := j11
      have q11 : RAt (fun k => PN g gw hh hw pb p q' k ∨ blockOf a10 = some k) w0.heap.size w11 q' hh j' := q11
      have K11 : JK j' s' m := K11
      have sn11 : Num s' 1024 (80 * i + 69) := sn11
      conv => whnf
      refine vcCond_false lok (rfl) ?_
      conv => whnf
      refine vcLoop_inv lok (σ := Nat × List (BitVec 32))
        (fun ⟨k, ys⟩ => [(11, .int .i64 k), (10, .slice a10 x.words.length c10), (8, .int .i64 i), (5, .pointer (some ⟨pb, 0, none⟩)), (0, .int .i64 n), (1, .slice a xs.length c)])
        (fun ⟨k, ys⟩ w' => k ≤ x.words.length ∧ ys.length = x.words.length ∧ Own 42 u32v w9.heap.size w' a10 c10 ys ∧ Mod (fun b => blockOf a10 = some b) w11 w') (fun t => x.words.length - t.1)
        (0, x.words) ⟨rfl, rfl, rfl, rfl, rfl, rfl, trivial⟩ ⟨Nat.zero_le _, rfl, ho11, Mod.refl _ _⟩ ?_
      rintro ⟨k, ys⟩ w12 ⟨hk, hyl, ho12, m12⟩
      conv => whnf
      refine vcCond_split lok rfl (fun h5 => ?_) (fun h5 => ?_)
      · have h5 := dt h5
        conv => whnf
        have g6 := ho12.store (k : Int) (by omega) (by omega)
        obtain ⟨gb, hag, hc1, hfz, hBg, hgl, hst⟩ := g6
        refine ⟨gb, 0, hag, ⟨by omega, by omega⟩, ?_⟩
        conv => whnf
        refine ⟨⟨rfl, hc1, hfz⟩, fun w13 hw13 => ?_⟩
        have g7 := hst 9#32
        obtain ⟨ho13, hg13⟩ := g7
        have hw13 : w13 = w12.setCell ⟨gb, 0 + (k : Int).toNat, none⟩ (u32v 9#32) := hw13
        rw [← hw13] at ho13 hg13
        clear hw13
        have m13 : Mod (fun b => blockOf a10 = some b) w11 w13 := m12.trans (Mod.ofGr hg13 fun b hb => by rw [hag]; exact hb)
        have el : (ys.set (k : Int).toNat 9#32).length = x.words.length := by rw [List.length_set]; exact hyl
        conv => whnf
        refine ⟨by omega, ?_⟩
        conv => whnf
        exact ⟨(k + 1, ys.set (k : Int).toNat 9#32), ⟨rfl, rfl, rfl, rfl, rfl, rfl, trivial⟩, ⟨by omega, el, ho13, m13⟩, by show x.words.length - (k + 1) < x.words.length - k; omega⟩
      · conv => whnf
        have nown : ∀ b, b < w9.heap.size → ¬ blockOf a10 = some b := fun b hb e => by have := (oge b e).1; omega
        have x012 := m12.above x011 (fun b hb => by have := (oge b hb).1; have := x09.size; omega)
        have jw := (j11.keep m12 (fun b hb => .inr hb) (nown p (by omega))).widen (N' := PN g gw hh hw pb p q') (Ext.refl _) (fun k hk => .inl (.inl hk)) (fun k hk => by have := m12.size; rcases hk with e | e | e | e | e | e | e <;> omega) B9.jj.self
        have rw2 := (q11.keep m12 (fun b hb => .inr hb) (nown q' (by omega))).widen (N' := PN g gw hh hw pb p q') (Ext.refl _) (fun k hk => .inl (.inl hk)) (fun k hk => by have := m12.size; rcases hk with e | e | e | e | e | e | e <;> omega) B9.rr.self
        exact ⟨(), ⟨rfl, rfl, rfl, rfl, trivial⟩, x012, s', q', ⟨t11.f.keep m12 (nown g (by omega)) (nown gw (by omega)), t11.r.keep m12 (nown hh (by omega)) (nown hw (by omega)), t11.a1, t11.a2, t11.a3, t11.a4⟩, sn11.up (by omega),
          .inr ⟨p, m, j', en, hm, m12.keepBlk hb11 (nown pb (by omega)), ⟨jw, rw2, ford⟩, K11⟩⟩
    · conv => whnf
      refine vcCond_split lok rfl (fun h3 => ?_) (fun h3 => ?_)
      · -- Cut
        conv => whnf
        have hS : ∀ k, (k = g ∨ k = gw ∨ k = hh ∨ k = hw) → w0.heap.size ≤ k := fun k hk => by rcases hk with e | e | e | e <;> omega
        have nb : ¬ (pb = g ∨ pb = gw ∨ pb = hh ∨ pb = hw) := by omega
        have no : ¬ (bo = g ∨ bo = gw ∨ bo = hh ∨ bo = hw) := by omega
        refine vcDraw_meet lok mixed (Mod (fun k => k = g ∨ k = gw ∨ k = hh ∨ k = hw) w9) [8] [0, 1, 2, 3, 4, 5, 6, 7, 9, 10, 11, 12, 13, 14, 15, 16, 8, 17, 18]
          (fun β : Bool => [(125, .bool β)]) (fun β w' => β = false ∧ Mod (fun k => k = g ∨ k = gw ∨ k = hh ∨ k = hw) w9 w' ∧ Two w0.heap.size w' g gw fc hh hw hd (cutF s x.n x.m).1) [125] (fun _ => rfl) rfl (by kernel_rfl)
          (fun w11 hw11 => ⟨Mod.ofExt _ (hw11 ▸ Ext.drew w9), ?_⟩) ?_
        · have y11 : Ext w9 w11 := hw11 ▸ Ext.drew w9
          clear hw11
          have m11 : Mod (fun k => k = g ∨ k = gw ∨ k = hh ∨ k = hw) w9 w11 := Mod.ofExt _ y11
          have t11 := t9.ext y11
          conv => whnf
          refine ⟨_, fun w' hw' => (hw'.keepBlk hb9 nb).cell (i := 0) rfl, ?_⟩
          conv => whnf
          refine ⟨_, fun w' hw' => (hw'.keepBlk ho9 no).cell (i := 2) rfl, ?_⟩
          conv => whnf
          refine ⟨_, fun w' hw' => (hw'.keepBlk ho9 no).cell (i := 3) rfl, ?_⟩
          conv => whnf
          refine ⟨_, fun w' hw' => (hw'.keepBlk hb9 nb).cell (i := 1) rfl, ?_⟩
          conv => whnf
          refine ⟨_, fun w' hw' => (hw'.keepBlk ho9 no).cell (i := 2) rfl, ?_⟩
          conv => whnf
          refine ⟨_, fun w' hw' => (hw'.keepBlk ho9 no).cell (i := 3) rfl, ?_⟩
          conv => whnf
          refine Calls.ret (cut_calls t11.f x.n x.m) ?_
          rintro _ w12 ⟨rfl, f12, m12⟩
          have mm12 := m11.trans (m12.sub (S' := fun k => k = g ∨ k = gw ∨ k = hh ∨ k = hw) fun k _ hk => by rcases hk with e | e; exact .inl e; exact .inr (.inl e))
          refine ⟨_, fun _ h => h, mm12, ?_⟩
          conv => whnf
          have r12 := t11.keepR m12
          refine Calls.ret (rcut_calls r12 x.n x.m) ?_
          rintro _ w13 ⟨rfl, f13, m13⟩
          have mm13 := mm12.trans (m13.sub (S' := fun k => k = g ∨ k = gw ∨ k = hh ∨ k = hw) fun k _ hk => by rcases hk with e | e; exact .inr (.inr (.inl e)); exact .inr (.inr (.inr e)))
          conv => whnf
          exact ⟨_, ⟨rfl, trivial⟩, by rw [decide_eq_true rfl]; rfl, mm13, t11.both f12 m12 f13 m13⟩
        rintro β w11 ⟨rfl, m11, t11⟩
        conv => whnf
        refine vcCond_false lok (rfl) ?_
        conv => whnf
        have x011 := m11.above x09 hS
        have b11 := m11.keepBlk hb9 nb
        have jw := B9.jj.keep m11 (fun k hk => by rcases hk with e | e | e | e; exact .inl e; exact .inr (.inl e); exact .inr (.inr (.inl e)); exact .inr (.inr (.inr (.inl e)))) (by omega)
        have rw2 := B9.rr.keep m11 (fun k hk => by rcases hk with e | e | e | e; exact .inl e; exact .inr (.inl e); exact .inr (.inr (.inl e)); exact .inr (.inr (.inr (.inl e)))) (by omega)
        exact ⟨(), ⟨rfl, rfl, rfl, rfl, trivial⟩, x011, _, q', t11, (sn.cut x.n hox.n.2 x.m).up (by omega), .inr ⟨p, m, j, en, hm, b11, ⟨jw, rw2, ford⟩, K6.other (cut_ws _ _ _)⟩⟩
      · conv => whnf
        have hne : pb ≠ g ∧ pb ≠ gw ∧ pb ≠ hh ∧ pb ≠ hw := by omega
        refine vcCond_split lok rfl (fun h4 => ?_) (fun h4 => ?_)
        · -- Start, Open
          conv => whnf
          refine ⟨_, hb9.cell (i := 0) rfl, ?_⟩
          conv => whnf
          refine Calls.ret (start_calls t9.f) ?_
          rintro _ w10 ⟨rfl, f10, m10⟩
          conv => whnf
          have hb10 : Blk w10 pb 148 (pC g hh (.pointer (some ⟨p, 0, none⟩)) (.pointer (some ⟨q', 0, none⟩))) := m10.keepBlk hb9 (by omega)
          refine ⟨_, hb10.cell (i := 1) rfl, ?_⟩
          conv => whnf
          refine Calls.ret (rstart_calls (t9.keepR m10)) ?_
          rintro _ w11 ⟨rfl, f11, m11⟩
          conv => whnf
          have hb11 : Blk w11 pb 148 (pC g hh (.pointer (some ⟨p, 0, none⟩)) (.pointer (some ⟨q', 0, none⟩))) := m11.keepBlk hb10 (by omega)
          have t11 := t9.both f10 m10 f11 m11
          have x011 := t9.above x09 (Nat.le_refl _) m10 m11
          have zz1 := m10.size
          have zz2 := m11.size
          refine Calls.ret (popen_calls (Z := w3.heap.size) t11 hb11 hne (by omega) (by omega) (by show s.ws.length ≤ _; omega) n) ?_
          rintro _ w12 ⟨rfl, m12, q2, k12⟩
          conv => whnf
          refine vcCond_false lok (rfl) ?_
          conv => whnf
          exact ⟨(), ⟨rfl, rfl, rfl, rfl, trivial⟩, PInv.open x011 hpbB t11 (sn.start.up (by omega)) hne m12 k12⟩
        · -- Open
          conv => whnf
          refine Calls.ret (popen_calls (Z := w3.heap.size) t9 hb9 hne (by omega) (by omega) (by omega) n) ?_
          rintro _ w12 ⟨rfl, m12, q2, k12⟩
          conv => whnf
          refine vcCond_false lok (rfl) ?_
          conv => whnf
          exact ⟨(), ⟨rfl, rfl, rfl, rfl, trivial⟩, PInv.open x09 hpbB t9 (sn.up (by omega)) hne m12 k12⟩
  rintro ⟨⟩ w10 P10
  clear r1 r2 r3 r4 r5 r6 r7 r8 r9 r10 ford B9 hb9 ho9 t9 x09 y9
  conv => whnf
  refine vcReg_meet lok (fun β : Bool => [(151, .bool β)]) (fun β w' => β = false ∧ Ext w10 w') [151] (fun _ => rfl) rfl ?_ ?_
  · obtain ⟨_, s2, q2, t10, sn10, k10⟩ := P10
    have sl10 := sn10.len
    rcases k10 with k10 | ⟨p2, m2, j2, _, _, k10, B10, K10⟩
    · conv => whnf
      refine ⟨_, k10.cell (i := 2) rfl, ?_⟩
      conv => whnf
      exact ⟨_, ⟨rfl, trivial⟩, rfl, Ext.refl _⟩
    · conv => whnf
      refine ⟨_, k10.cell (i := 2) rfl, ?_⟩
      conv => whnf
      refine Calls.ret (palike_calls t10 k10 B10 K10.ok.words K10.zero (by omega)) ?_
      rintro _ w11 ⟨rfl, x11⟩
      conv => whnf
      exact ⟨_, ⟨rfl, trivial⟩, rfl, x11⟩
  rintro β w11 ⟨rfl, x11⟩
  conv => whnf
  refine vcCond_false lok (rfl) ?_
  conv => whnf
  refine ⟨by omega, ?_⟩
  conv => whnf
  have P11 := P10.ext x11
  obtain ⟨y0, s2, q2, t11, sn11, k11⟩ := P11
  exact ⟨i + 1, ⟨rfl, rfl, rfl, rfl, trivial⟩, ⟨by omega, by omega, y0, s2, q2, t11, sn11.up (by omega), k11⟩, by omega⟩
end Go.Proofs.Ytgipackjnncabaa
