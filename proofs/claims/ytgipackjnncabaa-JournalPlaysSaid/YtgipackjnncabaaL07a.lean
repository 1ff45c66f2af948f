/- Layer 7: the fixed calls; the law JournalNil, walked. -/
import Derived.Test.YtgipackjnncabaaW07d
import Derived.Test.YtgipackjnncabaaSh
set_option linter.unusedVariables false
namespace Go.Proofs.Ytgipackjnncabaa
open Go.Vc Go.RowKit

theorem run_one (w : World) (x : BitVec 32) : ∃ w', (Instr.buildSlice 37 1 #[(0, u32v x)]).run Try.prog w = .ok (.slice (some ⟨w.heap.size, 0, none⟩) 1 1) w' ∧ Own 42 u32v w.heap.size w' (some ⟨w.heap.size, 0, none⟩) 1 [x] ∧ Ext w w' := by
  have g := run_buildN (P := Try.prog) (t := 37) (e := 42) e32.toElem [u32v x] (by simp [u32v, Value.oneCell']) (by simp) w
  exact ⟨_, g, own_lit (w := w) [x] (by simp), Ext.new _ _⟩

theorem rem_u8 (n : Nat) (m : Nat) (hm : 0 < m) : ((n : Int)).tmod (m : Int) = ((n % m : Nat) : Int) := by
  rw [Int.ofNat_tmod]

theorem fit_cap {w : World} {m : Nat} {s : Sh} {a : Option Addr} {len cap : Nat} (h : Fit w (.slice m s) [.slice a len cap]) : len ≤ 9223372036854775807 := by
  obtain ⟨a', l', c', h1, h2, h3, _⟩ := h
  simp only [List.cons.injEq, Value.slice.injEq, and_true] at h1
  obtain ⟨_, rfl, rfl⟩ := h1
  exact Nat.le_trans h2 (Nat.le_trans h3 (by decide))
def j7S : FS := newFS (List.replicate (256 * (2 : Int).toNat) ones)
def j7J : JS := jopF j7S.ws (0 : Int).toNat
def j7A : JS × FS × Int := appendF j7J j7S [5#32, 6#32]

set_option maxHeartbeats 2000000 in
/-- the fixed calls -/
theorem known07 {w : World} : Calls Try.prog 114 #[] w (Ret fun v w' => v = .bool true ∧ Ext w w') := by
  have v1 : j7A.2.2 = 0 := by decide +kernel
  have v2 : j7A.1.num = 1#32 := by decide +kernel
  have v3 : j7A.1.words = [5#32, 6#32] := by decide +kernel
  have v4 : j7A.2.1.ws.length = 512 := by decide +kernel
  have v5 : j7A.2.1.ws.getD 1 0#32 = 2#32 := by decide +kernel
  have v6 : j7A.2.1.ws.getD 5 0#32 = 0#32 := by decide +kernel
  have l0 : j7S.ws.length = 512 := by decide +kernel
  have q0 : j7J.num = 0#32 := by decide +kernel
  have qw : j7J.words = [] := by decide +kernel
  have qk : JSok j7J j7S := jop_ok (by rw [l0]; decide)
  have qn : Num j7S 512 0 := ⟨l0, by decide +kernel, by decide +kernel⟩
  have qo : j7S.off = false := rfl
  have ej : jopF j7S.ws (0 : Int).toNat = j7J := rfl
  have ea : appendF j7J j7S [5#32, 6#32] = j7A := rfl
  refine calls_of_vc (args := []) lok Try.func114 ?_ rfl
  conv => whnf
  refine Calls.ret (new_calls 2) ?_
  rintro _ w1 hp
  conv => whnf
  rcases hp with ⟨hno, _, _⟩ | ⟨_, g, gw, c, rfl, h1, x1⟩
  · exact absurd hno (by decide)
  have h1 : FlAt 181 w.heap.size w1 g gw c j7S := h1
  generalize j7S = s0 at *
  conv => whnf
  refine Calls.ret (jopen_calls h1 (by rw [l0]; decide) 0) ?_
  rintro _ w2 hp
  conv => whnf
  rcases hp with ⟨hno, _, _⟩ | ⟨_, hno, _, _⟩ | ⟨_, _, _, p, rfl, hj, x2⟩
  · rw [qo] at hno; cases hno
  · exact absurd ⟨by decide, by rw [l0]; decide⟩ hno
  rw [ej] at hj
  clear ej
  generalize j7J = j0 at *
  conv => whnf
  refine vcReg_go lok ?_
  conv => whnf
  refine vcCond_false lok (rfl) ?_
  conv => whnf
  refine Calls.ret (last_calls hj (by rw [qw]; decide)) ?_
  rintro _ w3 ⟨x3, hp⟩
  conv => whnf
  rcases hp with ⟨_, rfl⟩ | ⟨hno, _⟩
  rotate_left
  · exact absurd q0 hno
  conv => whnf
  have g4 := run_two w3 5#32 6#32
  obtain ⟨w4, hr4, ho4, x4⟩ := g4
  refine ⟨_, _, hr4, ?_⟩
  have x24 := x3.trans x4
  have hlt := h1.lt
  have z1 := x1.size
  have z2 := x2.size
  have h4 := (h1.ext x2).ext x24
  have hj4 := (hj.ext x3).ext x4
  have hp1 := hj.nt p hj.self
  have hp0 := hj.lo
  have n1 : p ≠ g := by omega
  have n2 : p ≠ gw := by omega
  have z3 := x3.size
  conv => whnf
  have g5 := jappend_calls (i := 0) (rc := 2) h4 (hj4.base (B' := w.heap.size) (by omega)) (.inl hlt.1) (.inl hlt.2.1) n1 n2 qk (by rw [l0]; decide) (by rw [l0]; exact qn) (by decide) (ra := some ⟨w3.heap.size, 0, none⟩) (rec := [5#32, 6#32])
    (fun w' m => (m.keepOwn ho4 (fun k hk q => by have := (ho4.ge k hk).1; rcases q with q | q | q <;> omega)).sl) (by decide)
  rw [ea] at g5
  generalize j7A = A at *
  obtain ⟨j1, s1, e1⟩ := A
  simp only at v1 v2 v3 v4 v5 v6
  subst v1
  refine Calls.ret (g5) ?_
  rintro _ w5 ⟨rfl, h5, hj5, m5⟩
  conv => whnf
  have h5 : FlAt 181 w.heap.size w5 g gw c s1 := h5
  refine Calls.ret (last_calls hj5 (by rw [v3]; decide)) ?_
  rintro _ w6 ⟨x6, hp⟩
  conv => whnf
  rcases hp with ⟨hno, _⟩ | ⟨_, a6, c6, rfl, ho6⟩
  · rw [v2] at hno; cases hno
  rw [v2]
  rw [v3] at ho6 ⊢
  conv => whnf
  refine Calls.ret (fwordsN_calls (h5.ext x6) v4 (by decide)) ?_
  rintro _ w7 ⟨a7, c7, rfl, ho7, x7⟩
  conv => whnf
  refine vcReg_go lok ?_
  conv => whnf
  have g8 := run_two w7 5#32 6#32
  obtain ⟨w8, hr8, ho8, x8⟩ := g8
  refine ⟨_, _, hr8, ?_⟩
  conv => whnf
  refine Calls.ret (same_calls (xs := [5#32, 6#32]) (ys := [5#32, 6#32]) ((ho6.ext x7).ext x8).sl ho8.sl (by decide)) ?_
  rintro _ w9 ⟨rfl, x9⟩
  conv => whnf
  have hs9 : Sl u32v w9 a7 s1.ws := ((ho7.ext x8).ext x9).sl
  have ga := sl_get hs9 1 1 rfl (by rw [v4]; decide)
  have gb := sl_get hs9 5 5 rfl (by rw [v4]; decide)
  rw [v4, v5] at ga
  rw [v4, v6] at gb
  obtain ⟨pa, oa, ha1, ha2, ha3⟩ := ga
  obtain ⟨pb, ob, hb1, hb2, hb3⟩ := gb
  refine ⟨pa, oa, ha1, ha2, ?_⟩
  conv => whnf
  refine ⟨_, ha3, ?_⟩
  conv => whnf
  refine ⟨pb, ob, hb1, hb2, ?_⟩
  conv => whnf
  refine ⟨_, hb3, ?_⟩
  refine ⟨rfl, ?_⟩
  have y5 : Ext w w5 := m5.above (x1.trans (x2.trans x24)) fun k hk => by
    have := h1.lo
    rcases hk with q | q | q <;> omega
  exact y5.trans (x6.trans (x7.trans (x8.trans x9)))

set_option maxHeartbeats 1000000 in
theorem journalNil_walk {w : World} (n : Int) {a : Option Addr} {k c : Nat} : Calls Try.prog 26 #[.int .i64 n, .slice a k c] w (Law w) := by
  refine calls_of_vc lok Try.func26 ?_ rfl
  conv => whnf
  refine Calls.ret (nopen_calls n) ?_
  rintro _ w1 ⟨rfl, rfl⟩
  conv => whnf
  refine Calls.ret (nlast_calls) ?_
  rintro _ w2 ⟨rfl, rfl⟩
  conv => whnf
  refine ⟨_, fun w => run_build w 128 _ _ (show Try.prog.built 128 [] = some #[.pointer none, .int .i64 0, .int .i64 0, .int .i64 0, .bool false, .int .u32 0, .slice none 0 0, .bool false] by kernel_rfl), ?_⟩
  conv => whnf
  intro w3 hw3
  have hb : Blk w3 w2.heap.size 128 [.pointer none, .int .i64 0, .int .i64 0, .int .i64 0, .bool false, .int .u32 0, .slice none 0 0, .bool false] := by rw [hw3]; exact Blk.new w2 128 _
  have x3 : Ext w2 w3 := by rw [hw3]; exact Ext.new _ _
  clear hw3
  conv => whnf
  refine Calls.ret (zlast_calls hb rfl) ?_
  rintro _ w4 ⟨rfl, rfl⟩
  conv => whnf
  refine vcReg_go lok ?_
  conv => whnf
  refine Calls.ret (nappend_calls) ?_
  rintro _ w5 ⟨rfl, rfl⟩
  conv => whnf
  refine Calls.ret (zappend_calls hb rfl) ?_
  rintro _ w6 ⟨rfl, rfl⟩
  conv => whnf
  refine ⟨by omega, ?_⟩
  conv => whnf
  intro z hz
  have hz31 : z = ((0 : Nat) : Int) := by rw [hz]; rfl
  clear hz
  subst hz31
  conv => whnf
  refine Calls.ret (known07) ?_
  rintro _ w7 ⟨rfl, x7⟩
  conv => whnf
  exact ⟨rfl, x3.trans x7⟩
end Go.Proofs.Ytgipackjnncabaa
