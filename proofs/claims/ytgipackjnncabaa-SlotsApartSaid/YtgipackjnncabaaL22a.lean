/- Layer 22: the fixed calls; the law SlotsNil, walked. -/
import Derived.Test.YtgipackjnncabaaW22f
import Derived.Test.YtgipackjnncabaaSh
set_option linter.unusedVariables false
namespace Go.Proofs.Ytgipackjnncabaa
open Go.Vc Go.RowKit

theorem fit_cap {w : World} {m : Nat} {s : Sh} {a : Option Addr} {len cap : Nat} (h : Fit w (.slice m s) [.slice a len cap]) : len ≤ 9223372036854775807 := by
  obtain ⟨a', l', c', h1, h2, h3, _⟩ := h
  simp only [List.cons.injEq, Value.slice.injEq, and_true] at h1
  obtain ⟨_, rfl, rfl⟩ := h1
  exact Nat.le_trans h2 (Nat.le_trans h3 (by decide))
/-! ### slots that are not there -/
section
variable {w : World} {P : Option Addr}
/-- there are none -/
def NoSl (P : Option Addr) (w : World) : Prop := ∀ slot, Calls Try.prog 171 #[.pointer P, .int .i64 slot] w (Ret fun v w' => v = .int .i64 26 ∧ w' = w)
theorem noSl_nil (w : World) : NoSl none w := by
  intro slot
  refine calls_of_vc lok Try.func171 ?_ rfl
  conv => whnf
  refine vcReg_go lok ?_
  conv => whnf
  refine vcCond_true lok (rfl) ?_
  conv => whnf
  exact ⟨rfl, rfl⟩
theorem noSl_zero {sb : Nat} {cs : List Value} (hb : Blk w sb 162 cs) (h0 : cs[0]? = some (.pointer none)) : NoSl (some ⟨sb, 0, none⟩) w := by
  intro slot
  refine calls_of_vc lok Try.func171 ?_ rfl
  conv => whnf
  refine vcReg_go lok ?_
  conv => whnf
  refine ⟨_, hb.cell (i := 0) h0, ?_⟩
  conv => whnf
  refine vcCond_true lok (rfl) ?_
  conv => whnf
  exact ⟨rfl, rfl⟩
theorem nhead_calls (h : NoSl P w) (slot : Int) : Calls Try.prog 128 #[.pointer P, .int .i64 slot] w (Ret fun v w' => v = .tuple #[.int .u32 0, .int .i64 0, .bool false] ∧ w' = w) := by
  refine calls_of_vc lok Try.func128 ?_ rfl
  conv => whnf
  refine vcReg_go lok ?_
  conv => whnf
  refine Calls.ret (h slot) ?_
  rintro _ w1 ⟨rfl, rfl⟩
  conv => whnf
  refine vcCond_true lok (rfl) ?_
  conv => whnf
  exact ⟨rfl, rfl⟩
theorem nhave_calls (h : NoSl P w) (slot : Int) : Calls Try.prog 127 #[.pointer P, .int .i64 slot] w (Ret fun v w' => v = .tuple #[.int .u32 0, .bool false] ∧ w' = w) := by
  refine calls_of_vc lok Try.func127 ?_ rfl
  conv => whnf
  refine Calls.ret (nhead_calls h slot) ?_
  rintro _ w1 ⟨rfl, rfl⟩
  conv => whnf
  refine vcCond_true lok (rfl) ?_
  conv => whnf
  exact ⟨rfl, rfl⟩
theorem nsealed_calls (h : NoSl P w) (slot : Int) : Calls Try.prog 130 #[.pointer P, .int .i64 slot] w (Ret fun v w' => v = .bool false ∧ w' = w) := by
  refine calls_of_vc lok Try.func130 ?_ rfl
  conv => whnf
  refine Calls.ret (nhave_calls h slot) ?_
  rintro _ w1 ⟨rfl, rfl⟩
  conv => whnf
  refine vcReg_go lok ?_
  conv => whnf
  exact ⟨rfl, rfl⟩
theorem nwhole_calls (h : NoSl P w) (slot : Int) : Calls Try.prog 150 #[.pointer P, .int .i64 slot] w (Ret fun v w' => v = .tuple #[.int .i64 0, .int .i64 26] ∧ w' = w) := by
  refine calls_of_vc lok Try.func150 ?_ rfl
  conv => whnf
  refine Calls.ret (h slot) ?_
  rintro _ w1 ⟨rfl, rfl⟩
  conv => whnf
  refine vcCond_true lok (rfl) ?_
  conv => whnf
  exact ⟨rfl, rfl⟩
theorem nbytes_calls (h : NoSl P w) (slot : Int) : Calls Try.prog 89 #[.pointer P, .int .i64 slot] w (Ret fun v w' => v = .tuple #[.slice none 0 0, .int .i64 26] ∧ w' = w) := by
  refine calls_of_vc lok Try.func89 ?_ rfl
  conv => whnf
  refine Calls.ret (nwhole_calls h slot) ?_
  rintro _ w1 ⟨rfl, rfl⟩
  conv => whnf
  refine vcCond_true lok (rfl) ?_
  conv => whnf
  exact ⟨rfl, rfl⟩
theorem nseal_calls (h : NoSl P w) (slot : Int) : Calls Try.prog 129 #[.pointer P, .int .i64 slot] w (Ret fun v w' => v = .int .i64 26 ∧ w' = w) := by
  refine calls_of_vc lok Try.func129 ?_ rfl
  conv => whnf
  refine Calls.ret (nwhole_calls h slot) ?_
  rintro _ w1 ⟨rfl, rfl⟩
  conv => whnf
  refine vcCond_true lok (rfl) ?_
  conv => whnf
  exact ⟨rfl, rfl⟩
theorem ndrop_calls (h : NoSl P w) (slot : Int) : Calls Try.prog 132 #[.pointer P, .int .i64 slot] w (Ret fun v w' => v = .int .i64 26 ∧ w' = w) := by
  refine calls_of_vc lok Try.func132 ?_ rfl
  conv => whnf
  refine Calls.ret (h slot) ?_
  rintro _ w1 ⟨rfl, rfl⟩
  conv => whnf
  refine vcCond_true lok (rfl) ?_
  conv => whnf
  exact ⟨rfl, rfl⟩
theorem nbegin_calls (h : NoSl P w) (slot : Int) (v n : Int) : Calls Try.prog 124 #[.pointer P, .int .i64 slot, .int .u32 v, .int .i64 n] w (Ret fun v w' => v = .int .i64 26 ∧ w' = w) := by
  refine calls_of_vc lok Try.func124 ?_ rfl
  conv => whnf
  refine Calls.ret (h slot) ?_
  rintro _ w1 ⟨rfl, rfl⟩
  conv => whnf
  refine vcCond_true lok (rfl) ?_
  conv => whnf
  exact ⟨rfl, rfl⟩
theorem nwrite_calls (h : NoSl P w) (slot n : Int) {a : Option Addr} {k c : Nat} : Calls Try.prog 125 #[.pointer P, .int .i64 slot, .int .i64 n, .slice a k c] w (Ret fun v w' => v = .int .i64 26 ∧ w' = w) := by
  refine calls_of_vc lok Try.func125 ?_ rfl
  conv => whnf
  refine Calls.ret (h slot) ?_
  rintro _ w1 ⟨rfl, rfl⟩
  conv => whnf
  refine vcCond_true lok (rfl) ?_
  conv => whnf
  exact ⟨rfl, rfl⟩
theorem nsopen_calls (n : Int) : Calls Try.prog 72 #[.pointer none, .int .i64 n] w (Ret fun v w' => v = .tuple #[.pointer none, .int .i64 26] ∧ w' = w) := by
  refine calls_of_vc lok Try.func72 ?_ rfl
  conv => whnf
  refine vcCond_true lok (rfl) ?_
  conv => whnf
  exact ⟨rfl, rfl⟩
end

/-! ### the fixed calls -/
def k22S : FS := newFS (List.replicate (256 * (6 : Int).toNat) ones)

set_option maxHeartbeats 4000000 in
theorem known22 {w : World} : Calls Try.prog 131 #[] w (Ret fun v w' => v = .bool true ∧ Ext w w') := by
  have l0 : k22S.ws.length = 1536 := List.length_replicate
  have n0 : Num k22S 1536 0 := ⟨l0, ⟨Int.le_refl _, Int.le_refl _⟩, by show (-1 : Int) ≤ _; decide⟩
  have hpl := k22_plain (s := k22S) rfl (by show (-1 : Int) < 0; decide) l0
  refine calls_of_vc (args := []) lok Try.func131 ?_ rfl
  conv => whnf
  refine Calls.ret (new_calls 6) ?_
  rintro _ w1 hp
  conv => whnf
  rcases hp with ⟨hno, _, _⟩ | ⟨_, g, gw, c, rfl, h1, x1⟩
  · exact absurd hno (by decide)
  replace h1 : FlAt 181 w.heap.size w1 g gw c k22S := h1
  generalize k22S = s0 at *
  obtain ⟨s1, s2, e1, e2, e3, e4, e5⟩ := hpl
  have n1 := begin_num (at_ := 0) (slot := 0) (v := 7#32) (m := 70) n0
  rw [e1] at n1
  have n1 : Num s1 1536 17 := n1
  have n2 := write_num (at_ := 0) (slot := 0) (chunk := 1) (b := [97#8, 98#8, 99#8, 100#8, 101#8, 102#8]) n1
  rw [e2] at n2
  have n2 : Num s2 1536 34 := n2
  have l1 := n1.len
  have l2 := n2.len
  conv => whnf
  refine Calls.ret (sopen_calls h1 (by omega) 0) ?_
  rintro _ w2 hp
  conv => whnf
  rcases hp with ⟨hno, _, _⟩ | ⟨m, hm, _, sb, rfl, hsb, S2, x2⟩
  · exact absurd ⟨by decide, by rw [l0]; decide⟩ hno
  have hm0 : m = 0 := by omega
  subst hm0
  clear hm
  have h1lo := h1.lo
  have h1lt := h1.lt
  have z1 := x1.size
  conv => whnf
  refine vcReg_go lok ?_
  conv => whnf
  refine vcCond_false lok (rfl) ?_
  conv => whnf
  have g3 := sbegin_calls S2 0 7#32 70 (by rw [l0]; exact n0) (by decide)
  rw [e1] at g3
  refine Calls.ret (g3) ?_
  rintro _ w3 ⟨rfl, S3, m3⟩
  conv => whnf
  replace S3 : SlAt w.heap.size w3 sb g gw c 0 s1 := S3
  have x3 := FlMod.above m3 (x1.trans x2) h1lo h1lt.2.2
  have g4 := run_buildN (P := Try.prog) (t := 22) (e := 5) e8.toElem [u8v 97#8, u8v 98#8, u8v 99#8, u8v 100#8, u8v 101#8, u8v 102#8] (by simp [u8v, Value.oneCell']) (by simp) w3
  refine ⟨_, _, g4, ?_⟩
  conv => whnf
  have g5 := run_convLit und22 und5 [97#8, 98#8, 99#8, 100#8, 101#8, 102#8] w3 6 6
  obtain ⟨w5, hr5, hs5, x5⟩ := g5
  refine ⟨_, _, hr5, ?_⟩
  conv => whnf
  have g6 := swrite_calls (bc := 6) (S3.ext x5) 0 1 hs5 (by decide) (by rw [l1]; exact n1) (by decide)
  rw [e2] at g6
  refine Calls.ret (g6) ?_
  rintro _ w6 ⟨rfl, S6, m6⟩
  conv => whnf
  replace S6 : SlAt w.heap.size w6 sb g gw c 0 s2 := S6
  have x6 := FlMod.above m6 (x3.trans x5) h1lo h1lt.2.2
  have g7 := shave_calls S6 0
  rw [e3] at g7
  refine Calls.ret (g7) ?_
  rintro _ w7 ⟨rfl, x7⟩
  conv => whnf
  have g8 := sbytes_calls (S6.ext x7) 0
  rw [e4] at g8
  refine Calls.ret (g8) ?_
  rintro _ w8 ⟨a8, c8, rfl, _, x8⟩
  conv => whnf
  have x78 := x7.trans x8
  have g9 := swrite_calls (bc := 0) (ba := none) (b := []) (S6.ext x78) 0 2 (Sl.nil _ _ _) (by decide) (by rw [l2]; exact n2) (by decide)
  rw [e5] at g9
  refine vcReg_go lok ?_
  conv => whnf
  refine Calls.ret (g9) ?_
  rintro _ w9 ⟨rfl, S9, m9⟩
  conv => whnf
  exact ⟨rfl, FlMod.above m9 (x6.trans x78) h1lo h1lt.2.2⟩

set_option maxHeartbeats 4000000 in
theorem slotsNil_walk {w : World} (slot n : Int) {a : Option Addr} {k c : Nat} : Calls Try.prog 34 #[.int .i64 slot, .int .i64 n, .slice a k c] w (Law w) := by
  refine calls_of_vc lok Try.func34 ?_ rfl
  conv => whnf
  refine vcCond_split lok rfl (fun h1 => ?_) (fun h1 => ?_)
  · conv => whnf
    refine Calls.ret (known22) ?_
    rintro _ w1 ⟨rfl, x1⟩
    conv => whnf
    exact ⟨rfl, x1⟩
  clear h1
  conv => whnf
  refine Calls.ret (nsopen_calls n) ?_
  rintro _ w1 ⟨rfl, rfl⟩
  conv => whnf
  have hn := noSl_nil w1
  refine Calls.ret (nhead_calls hn slot) ?_
  rintro _ w2 ⟨rfl, hw2⟩
  conv => whnf
  subst hw2
  refine Calls.ret (nhave_calls hn slot) ?_
  rintro _ w3 ⟨rfl, hw3⟩
  conv => whnf
  subst hw3
  refine Calls.ret (nbytes_calls hn slot) ?_
  rintro _ w4 ⟨rfl, hw4⟩
  conv => whnf
  subst hw4
  refine ⟨_, fun w => run_build w 162 _ _ (show Try.prog.built 162 [] = some #[.pointer none, .int .i64 0] by kernel_rfl), ?_⟩
  conv => whnf
  intro w5 hw5
  have hb : Blk w5 w4.heap.size 162 [.pointer none, .int .i64 0] := by rw [hw5]; exact Blk.new w4 162 _
  have x5 : Ext w4 w5 := by rw [hw5]; exact Ext.new _ _
  clear hw5
  have hz := noSl_zero hb rfl
  have hn := noSl_nil w5
  conv => whnf
  refine vcReg_go lok ?_
  conv => whnf
  refine Calls.ret (nbegin_calls hn slot 1 n) ?_
  rintro _ w6 ⟨rfl, hw6⟩
  conv => whnf
  subst hw6
  refine Calls.ret (nwrite_calls hn slot n) ?_
  rintro _ w7 ⟨rfl, hw7⟩
  conv => whnf
  subst hw7
  refine Calls.ret (nseal_calls hn slot) ?_
  rintro _ w8 ⟨rfl, hw8⟩
  conv => whnf
  subst hw8
  refine Calls.ret (ndrop_calls hn slot) ?_
  rintro _ w9 ⟨rfl, hw9⟩
  conv => whnf
  subst hw9
  refine Calls.ret (nsealed_calls hn slot) ?_
  rintro _ w10 ⟨rfl, hw10⟩
  conv => whnf
  subst hw10
  refine Calls.ret (ndrop_calls hz slot) ?_
  rintro _ w11 ⟨rfl, hw11⟩
  conv => whnf
  subst hw11
  refine Calls.ret (nsealed_calls hz slot) ?_
  rintro _ w12 ⟨rfl, hw12⟩
  conv => whnf
  subst hw12
  refine Calls.ret (known22) ?_
  rintro _ w13 ⟨rfl, x13⟩
  conv => whnf
  exact ⟨rfl, x5.trans x13⟩
end Go.Proofs.Ytgipackjnncabaa
