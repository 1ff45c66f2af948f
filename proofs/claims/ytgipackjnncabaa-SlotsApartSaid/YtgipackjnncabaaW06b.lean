/- Walks of layer 6, second part: the flash's operations, whole. -/
import Derived.Test.YtgipackjnncabaaW06a
import Derived.Laws.Tables
set_option linter.unusedVariables false
namespace Go.Proofs.Ytgipackjnncabaa
open Go.Vc Go.RowKit

/-- an operation done whole, or torn: a word programmed -/
theorem doProg_calls {B : Nat} {w : World} {g gw c : Nat} {s : FS} (h : FlAt 181 B w g gw c s) (i : Nat) (hi : i < s.ws.length) (hl : s.ws.length ≤ 1048576) (hop : FSok s) (x : BitVec 32) :
    Calls Try.prog 153 #[.pointer (some ⟨g, 0, none⟩), .int .i64 i, .func (.func 154) #[.agg #[.pointer (some ⟨g, 0, none⟩), .int .u32 x.toNat]] #[], .func (.func 155) #[.agg #[.pointer (some ⟨g, 0, none⟩), .int .u32 x.toNat]] #[]] w (Ret fun v w' => v = .int .i64 (if s.left = 0 then 7 else 0) ∧
      FlAt 181 B w' g gw c (if s.left = 0 then s.tore (s.ws.set i (s.ws.getD i 0#32 &&& (x ||| ~~~s.mask))) else s.did (s.ws.set i (s.ws.getD i 0#32 &&& x))) ∧ FlMod g gw w w') := by
  refine calls_of_vc lok Try.func153 ?_ rfl
  conv => whnf
  refine ⟨_, h.blk.cell (i := 2) rfl, ?_⟩
  conv => whnf
  refine vcCond_split lok rfl (fun h1 => ?_) (fun h1 => ?_)
  · have h1 := dt h1
    conv => whnf
    rw [if_pos h1, if_pos h1]
    refine Calls.ret (some_calls h i hi x) ?_
    rintro _ w1 ⟨rfl, g1, m1⟩
    conv => whnf
    refine ⟨g1.blk.can 2 (by simp [FS.cells]) _ rfl, fun w2 hw2 => ?_⟩
    have k2 := g1.setField 2 (.int .i64 (-1)) { s with ws := s.ws.set i (s.ws.getD i 0#32 &&& (x ||| ~~~s.mask)), left := -1 } rfl rfl hw2
    obtain ⟨g2, m2⟩ := k2
    clear hw2
    conv => whnf
    refine ⟨g2.blk.can 1 (by simp [FS.cells]) _ rfl, fun w3 hw3 => ?_⟩
    have k3 := g2.setField 1 (.bool true) (s.tore (s.ws.set i (s.ws.getD i 0#32 &&& (x ||| ~~~s.mask)))) rfl rfl hw3
    exact ⟨rfl, k3.1, (m1.trans m2).trans k3.2⟩
  · have h1 := df h1
    conv => whnf
    rw [if_neg h1, if_neg h1]
    refine ⟨_, h.blk.cell (i := 2) rfl, ?_⟩
    conv => whnf
    refine vcCond_meet (fun _ : Unit => [(0, .pointer (some ⟨g, 0, none⟩)), (1, .int .i64 i), (2, .func (.func 154) #[.agg #[.pointer (some ⟨g, 0, none⟩), .int .u32 x.toNat]] #[])])
      (fun _ w1 => FlAt 181 B w1 g gw c { s with left := if 0 < s.left then s.left - 1 else s.left } ∧ FlMod g gw w w1) ?_ ?_
    · refine vcCond_split lok rfl (fun h2 => ?_) (fun h2 => ?_)
      · have h2 := dt h2
        conv => whnf
        refine ⟨_, h.blk.cell (i := 2) rfl, ?_⟩
        conv => whnf
        refine ⟨by have := hop.left; omega, ?_⟩
        conv => whnf
        refine ⟨h.blk.can 2 (by simp [FS.cells]) _ rfl, fun w2 hw2 => ?_⟩
        have k2 := h.setField 2 (.int .i64 (s.left - 1)) { s with left := s.left - 1 } rfl rfl hw2
        exact ⟨(), ⟨rfl, rfl, rfl, trivial⟩, by rw [if_pos h2]; exact k2.1, k2.2⟩
      · have h2 := df h2
        conv => whnf
        exact ⟨(), ⟨rfl, rfl, rfl, trivial⟩, by rw [if_neg h2]; exact h, Mod.refl _ _⟩
    rintro _ w1 ⟨g1, m1⟩
    conv => whnf
    refine ⟨_, g1.blk.cell (i := 4) rfl, ?_⟩
    conv => whnf
    refine ⟨by show -9223372036854775808 ≤ s.ops + 1 ∧ s.ops + 1 ≤ 9223372036854775807; have := hop.ops; omega, ?_⟩
    conv => whnf
    refine ⟨g1.blk.can 4 (by simp [FS.cells]) _ rfl, fun w2 hw2 => ?_⟩
    have k2 := g1.setField 4 (.int .i64 (s.ops + 1)) { s with left := if 0 < s.left then s.left - 1 else s.left, ops := s.ops + 1 } rfl rfl hw2
    obtain ⟨g2, m2⟩ := k2
    clear hw2
    conv => whnf
    refine Calls.ret (all_calls g2 i hi x) ?_
    rintro _ w3 ⟨rfl, g3, m3⟩
    conv => whnf
    exact ⟨rfl, g3, (m1.trans m2).trans m3⟩

/-- an operation done whole, or torn: a sector erased -/
theorem doErase_calls {B : Nat} {w : World} {g gw c : Nat} {s : FS} (h : FlAt 181 B w g gw c s) (i : Nat) (hi : i < s.ws.length / 256) (hl : s.ws.length ≤ 1048576) (hop : FSok s) :
    Calls Try.prog 153 #[.pointer (some ⟨g, 0, none⟩), .int .i64 i, .func (.func 156) #[.pointer (some ⟨g, 0, none⟩)] #[], .func (.func 157) #[.pointer (some ⟨g, 0, none⟩)] #[]] w (Ret fun v w' => v = .int .i64 (if s.left = 0 then 7 else 0) ∧
      FlAt 181 B w' g gw c (if s.left = 0 then s.tore (fillF s.ws (256 * i) (s.mask.toNat % 257)) else s.did (fillF s.ws (256 * i) 256)) ∧ FlMod g gw w w') := by
  refine calls_of_vc lok Try.func153 ?_ rfl
  conv => whnf
  refine ⟨_, h.blk.cell (i := 2) rfl, ?_⟩
  conv => whnf
  refine vcCond_split lok rfl (fun h1 => ?_) (fun h1 => ?_)
  · have h1 := dt h1
    conv => whnf
    rw [if_pos h1, if_pos h1]
    refine Calls.ret (begin_calls h i hi hl) ?_
    rintro _ w1 ⟨rfl, g1, m1⟩
    conv => whnf
    refine ⟨g1.blk.can 2 (by simp [FS.cells]) _ rfl, fun w2 hw2 => ?_⟩
    have k2 := g1.setField 2 (.int .i64 (-1)) { s with ws := fillF s.ws (256 * i) (s.mask.toNat % 257), left := -1 } rfl rfl hw2
    obtain ⟨g2, m2⟩ := k2
    clear hw2
    conv => whnf
    refine ⟨g2.blk.can 1 (by simp [FS.cells]) _ rfl, fun w3 hw3 => ?_⟩
    have k3 := g2.setField 1 (.bool true) (s.tore (fillF s.ws (256 * i) (s.mask.toNat % 257))) rfl rfl hw3
    exact ⟨rfl, k3.1, (m1.trans m2).trans k3.2⟩
  · have h1 := df h1
    conv => whnf
    rw [if_neg h1, if_neg h1]
    refine ⟨_, h.blk.cell (i := 2) rfl, ?_⟩
    conv => whnf
    refine vcCond_meet (fun _ : Unit => [(0, .pointer (some ⟨g, 0, none⟩)), (1, .int .i64 i), (2, .func (.func 156) #[.pointer (some ⟨g, 0, none⟩)] #[])])
      (fun _ w1 => FlAt 181 B w1 g gw c { s with left := if 0 < s.left then s.left - 1 else s.left } ∧ FlMod g gw w w1) ?_ ?_
    · refine vcCond_split lok rfl (fun h2 => ?_) (fun h2 => ?_)
      · have h2 := dt h2
        conv => whnf
        refine ⟨_, h.blk.cell (i := 2) rfl, ?_⟩
        conv => whnf
        refine ⟨by have := hop.left; omega, ?_⟩
        conv => whnf
        refine ⟨h.blk.can 2 (by simp [FS.cells]) _ rfl, fun w2 hw2 => ?_⟩
        have k2 := h.setField 2 (.int .i64 (s.left - 1)) { s with left := s.left - 1 } rfl rfl hw2
        exact ⟨(), ⟨rfl, rfl, rfl, trivial⟩, by rw [if_pos h2]; exact k2.1, k2.2⟩
      · have h2 := df h2
        conv => whnf
        exact ⟨(), ⟨rfl, rfl, rfl, trivial⟩, by rw [if_neg h2]; exact h, Mod.refl _ _⟩
    rintro _ w1 ⟨g1, m1⟩
    conv => whnf
    refine ⟨_, g1.blk.cell (i := 4) rfl, ?_⟩
    conv => whnf
    refine ⟨by show -9223372036854775808 ≤ s.ops + 1 ∧ s.ops + 1 ≤ 9223372036854775807; have := hop.ops; omega, ?_⟩
    conv => whnf
    refine ⟨g1.blk.can 4 (by simp [FS.cells]) _ rfl, fun w2 hw2 => ?_⟩
    have k2 := g1.setField 4 (.int .i64 (s.ops + 1)) { s with left := if 0 < s.left then s.left - 1 else s.left, ops := s.ops + 1 } rfl rfl hw2
    obtain ⟨g2, m2⟩ := k2
    clear hw2
    conv => whnf
    refine Calls.ret (ferase_calls g2 i hi hl) ?_
    rintro _ w3 ⟨rfl, g3, m3⟩
    conv => whnf
    exact ⟨rfl, g3, (m1.trans m2).trans m3⟩

theorem built196 (p : Value) (n : Int) (a : Option Addr) : Try.prog.built 196 [(0, .pointer a), (1, .int .u32 n)] = some #[.pointer a, .int .u32 n] := by kernel_rfl

/-- Program -/
theorem prog_calls {B : Nat} {w : World} {g gw c : Nat} {s : FS} (h : FlAt 181 B w g gw c s) (at_ : Int) (x : BitVec 32) (hl : s.ws.length ≤ 1048576) (hop : FSok s) :
    Calls Try.prog 95 #[.pointer (some ⟨g, 0, none⟩), .int .i64 at_, .int .u32 x.toNat] w (Ret fun v w' => v = .int .i64 (progF s at_ x).2 ∧ FlAt 181 B w' g gw c (progF s at_ x).1 ∧ FlMod g gw w w') := by
  refine calls_of_vc lok Try.func95 ?_ rfl
  conv => whnf
  refine vcCond_false lok (rfl) ?_
  conv => whnf
  refine ⟨_, h.blk.cell0 rfl, ?_⟩
  conv => whnf
  refine Calls.ret (check_calls h at_ s.ws.length) ?_
  rintro _ w1 ⟨rfl, hw1⟩
  conv => whnf
  subst hw1
  cases ho : s.off with
  | true =>
    have e : progF s at_ x = (s, 7) := if_pos ho
    rw [e, if_pos rfl]
    conv => whnf
    refine vcCond_true lok (rfl) ?_
    conv => whnf
    exact ⟨rfl, h, Mod.refl _ _⟩
  | false =>
    rw [if_neg (by decide)]
    by_cases hr : at_ < 0 ∨ (s.ws.length : Int) ≤ at_
    · have e : progF s at_ x = (s, 10) := by unfold progF; rw [if_neg (by rw [ho]; decide), if_pos hr]
      rw [e, if_pos hr]
      conv => whnf
      refine vcCond_true lok (rfl) ?_
      conv => whnf
      exact ⟨rfl, h, Mod.refl _ _⟩
    · rw [if_neg hr]
      conv => whnf
      refine vcCond_false lok (rfl) ?_
      conv => whnf
      have hi : ∃ i : Nat, at_ = (i : Int) := ⟨at_.toNat, by omega⟩
      obtain ⟨i, hi⟩ := hi
      subst hi
      have e : progF s (i : Int) x = (if s.left = 0 then s.tore (s.ws.set i (s.ws.getD i 0#32 &&& (x ||| ~~~s.mask))) else s.did (s.ws.set i (s.ws.getD i 0#32 &&& x)), if s.left = 0 then 7 else 0) := by
        unfold progF
        rw [if_neg (by rw [ho]; decide), if_neg hr]
        split <;> simp
      rw [e]
      refine ⟨_, fun w => run_build w 196 _ _ (built196 (.bool true) _ _), ?_⟩
      conv => whnf
      intro w2 hw2
      have hb2 : Blk w2 w1.heap.size 196 [.pointer none, .int .u32 0] := by rw [hw2]; exact Blk.new w1 196 _
      have x2 : Ext w1 w2 := by rw [hw2]; exact Ext.new _ _
      clear hw2
      conv => whnf
      have k3 := Blk.storeAgg lok hb2 (t := 196) (us := [.pointer (some ⟨g, 0, none⟩), u32v x]) rfl 0 (Nat.le_refl 2) (by simp [u32v, Value.oneCell'])
      obtain ⟨w3, hr3, hb3, hg3⟩ := k3
      have x3 : Ext w1 w3 := hg3.extOf x2 (fun g hg => by cases hg; exact Nat.le_refl _)
      have hb3 : Blk w3 w1.heap.size 196 [.pointer (some ⟨g, 0, none⟩), u32v x] := hb3
      refine ⟨w3, hr3, ?_⟩
      conv => whnf
      refine ⟨[.pointer (some ⟨g, 0, none⟩), u32v x], rfl, hb3.cells, ?_⟩
      conv => whnf
      refine ⟨[.pointer (some ⟨g, 0, none⟩), u32v x], rfl, hb3.cells, ?_⟩
      conv => whnf
      refine Calls.ret (doProg_calls (h.ext x3) i (by omega) hl hop x) ?_
      rintro _ w4 ⟨rfl, h4, m4⟩
      conv => whnf
      exact ⟨rfl, h4, (Mod.ofExt _ x3).trans m4⟩

/-- Erase -/
theorem erase_calls {B : Nat} {w : World} {g gw c : Nat} {s : FS} (h : FlAt 181 B w g gw c s) (n : Int) (hl : s.ws.length ≤ 1048576) (hop : FSok s) :
    Calls Try.prog 96 #[.pointer (some ⟨g, 0, none⟩), .int .i64 n] w (Ret fun v w' => v = .int .i64 (eraseF s n).2 ∧ FlAt 181 B w' g gw c (eraseF s n).1 ∧ FlMod g gw w w') := by
  refine calls_of_vc lok Try.func96 ?_ rfl
  conv => whnf
  refine vcCond_false lok (rfl) ?_
  conv => whnf
  refine ⟨_, h.blk.cell0 rfl, ?_⟩
  conv => whnf
  refine ⟨by decide, ?_⟩
  intro z hz
  have hz56 : z = ((s.ws.length / 256 : Nat) : Int) := by rw [hz, Int.tdiv_eq_ediv_of_nonneg (by omega), wi64 (by omega)]; omega
  clear hz
  subst hz56
  conv => whnf
  refine Calls.ret (check_calls h n (s.ws.length / 256 : Nat)) ?_
  rintro _ w1 ⟨rfl, hw1⟩
  conv => whnf
  subst hw1
  cases ho : s.off with
  | true =>
    have e : eraseF s n = (s, 7) := if_pos ho
    rw [e, if_pos rfl]
    conv => whnf
    refine vcCond_true lok (rfl) ?_
    conv => whnf
    exact ⟨rfl, h, Mod.refl _ _⟩
  | false =>
    rw [if_neg (by decide)]
    by_cases hr : n < 0 ∨ ((s.ws.length / 256 : Nat) : Int) ≤ n
    · have e : eraseF s n = (s, 10) := by unfold eraseF; rw [if_neg (by rw [ho]; decide), if_pos hr]
      rw [e, if_pos hr]
      conv => whnf
      refine vcCond_true lok (rfl) ?_
      conv => whnf
      exact ⟨rfl, h, Mod.refl _ _⟩
    · rw [if_neg hr]
      conv => whnf
      refine vcCond_false lok (rfl) ?_
      conv => whnf
      have hi : ∃ i : Nat, n = (i : Int) := ⟨n.toNat, by omega⟩
      obtain ⟨i, hi⟩ := hi
      subst hi
      have e : eraseF s (i : Int) = (if s.left = 0 then s.tore (fillF s.ws (256 * i) (s.mask.toNat % 257)) else s.did (fillF s.ws (256 * i) 256), if s.left = 0 then 7 else 0) := by
        unfold eraseF
        rw [if_neg (by rw [ho]; decide), if_neg hr]
        split <;> simp
      rw [e]
      refine Calls.ret (doErase_calls h i (by omega) hl hop) ?_
      rintro _ w4 ⟨rfl, h4, m4⟩
      conv => whnf
      exact ⟨rfl, h4, m4⟩

/-- Read -/
theorem read_calls {B : Nat} {w : World} {g gw c : Nat} {s : FS} (h : FlAt 181 B w g gw c s) (at_ : Int) :
    Calls Try.prog 97 #[.pointer (some ⟨g, 0, none⟩), .int .i64 at_] w (Ret fun v w' => v = .tuple #[.int .u32 (readF s at_).1.toNat, .int .i64 (readF s at_).2] ∧ w' = w) := by
  refine calls_of_vc lok Try.func97 ?_ rfl
  conv => whnf
  refine vcCond_false lok (rfl) ?_
  conv => whnf
  refine ⟨_, h.blk.cell0 rfl, ?_⟩
  conv => whnf
  refine Calls.ret (check_calls h at_ s.ws.length) ?_
  rintro _ w1 ⟨rfl, hw1⟩
  conv => whnf
  subst hw1
  cases ho : s.off with
  | true =>
    have e : readF s at_ = (0#32, 7) := if_pos ho
    rw [e, if_pos rfl]
    conv => whnf
    refine vcCond_true lok (rfl) ?_
    conv => whnf
    exact ⟨rfl, rfl⟩
  | false =>
    rw [if_neg (by decide)]
    by_cases hr : at_ < 0 ∨ (s.ws.length : Int) ≤ at_
    · have e : readF s at_ = (0#32, 10) := by unfold readF; rw [if_neg (by rw [ho]; decide), if_pos hr]
      rw [e, if_pos hr]
      conv => whnf
      refine vcCond_true lok (rfl) ?_
      conv => whnf
      exact ⟨rfl, rfl⟩
    · have e : readF s at_ = (s.ws.getD at_.toNat 0#32, 0) := by unfold readF; rw [if_neg (by rw [ho]; decide), if_neg hr]
      rw [if_neg hr, e]
      conv => whnf
      refine vcCond_false lok (rfl) ?_
      conv => whnf
      refine ⟨_, h.blk.cell0 rfl, ?_⟩
      conv => whnf
      refine ⟨gw, 0, rfl, ⟨by omega, by omega⟩, ?_⟩
      conv => whnf
      refine ⟨_, h.own.cellAt (i := at_.toNat) (x := s.ws.getD at_.toNat 0#32) (by simp [List.getD, List.getElem?_eq_getElem (show at_.toNat < s.ws.length by omega)]), ?_⟩
      conv => whnf
      exact ⟨rfl, rfl⟩

/-- Len -/
theorem len_calls {B : Nat} {w : World} {g gw c : Nat} {s : FS} (h : FlAt 181 B w g gw c s) :
    Calls Try.prog 102 #[.pointer (some ⟨g, 0, none⟩)] w (Ret fun v w' => v = .int .i64 s.ws.length ∧ w' = w) := by
  refine calls_of_vc lok Try.func102 ?_ rfl
  conv => whnf
  refine vcCond_false lok (rfl) ?_
  conv => whnf
  refine ⟨_, h.blk.cell0 rfl, ?_⟩
  conv => whnf
  exact ⟨rfl, rfl⟩
/-- Ops -/
theorem ops_calls {B : Nat} {w : World} {g gw c : Nat} {s : FS} (h : FlAt 181 B w g gw c s) :
    Calls Try.prog 103 #[.pointer (some ⟨g, 0, none⟩)] w (Ret fun v w' => v = .int .i64 s.ops ∧ w' = w) := by
  refine calls_of_vc lok Try.func103 ?_ rfl
  conv => whnf
  refine vcCond_false lok (rfl) ?_
  conv => whnf
  refine ⟨_, h.blk.cell (i := 4) rfl, ?_⟩
  conv => whnf
  exact ⟨rfl, rfl⟩
/-- On -/
theorem fon_calls {B : Nat} {w : World} {g gw c : Nat} {s : FS} (h : FlAt 181 B w g gw c s) :
    Calls Try.prog 80 #[.pointer (some ⟨g, 0, none⟩)] w (Ret fun v w' => v = .bool (!s.off) ∧ w' = w) := by
  refine calls_of_vc lok Try.func80 ?_ rfl
  conv => whnf
  refine vcReg_go lok ?_
  conv => whnf
  refine ⟨_, h.blk.cell (i := 1) rfl, ?_⟩
  conv => whnf
  exact ⟨rfl, rfl⟩
/-- Start -/
theorem start_calls {B : Nat} {w : World} {g gw c : Nat} {s : FS} (h : FlAt 181 B w g gw c s) :
    Calls Try.prog 81 #[.pointer (some ⟨g, 0, none⟩)] w (Ret fun v w' => v = .tuple #[] ∧ FlAt 181 B w' g gw c (startF s) ∧ FlMod g gw w w') := by
  refine calls_of_vc lok Try.func81 ?_ rfl
  conv => whnf
  refine vcCond_true lok (rfl) ?_
  conv => whnf
  refine ⟨h.blk.can 1 (by simp [FS.cells]) _ rfl, fun w2 hw2 => ?_⟩
  have k2 := h.setField 1 (.bool false) (startF s) rfl rfl hw2
  exact ⟨rfl, k2.1, k2.2⟩
/-- Cut -/
theorem cut_calls {B : Nat} {w : World} {g gw c : Nat} {s : FS} (h : FlAt 181 B w g gw c s) (n : Int) (m : BitVec 32) :
    Calls Try.prog 74 #[.pointer (some ⟨g, 0, none⟩), .int .i64 n, .int .u32 m.toNat] w (Ret fun v w' => v = .int .i64 (cutF s n m).2 ∧ FlAt 181 B w' g gw c (cutF s n m).1 ∧ FlMod g gw w w') := by
  refine calls_of_vc lok Try.func74 ?_ rfl
  conv => whnf
  refine vcCond_false lok (rfl) ?_
  conv => whnf
  refine vcCond_split lok rfl (fun h1 => ?_) (fun h1 => ?_)
  · have h1 := dt h1
    conv => whnf
    have e : cutF s n m = (s, 1) := if_pos h1
    rw [e]
    exact ⟨rfl, h, Mod.refl _ _⟩
  · have h1 := df h1
    conv => whnf
    have e : cutF s n m = ({ s with left := n, mask := m }, 0) := if_neg h1
    rw [e]
    refine ⟨h.blk.can 2 (by simp [FS.cells]) _ rfl, fun w2 hw2 => ?_⟩
    have k2 := h.setField 2 (.int .i64 n) { s with left := n } rfl rfl hw2
    obtain ⟨g2, m2⟩ := k2
    clear hw2
    conv => whnf
    refine ⟨g2.blk.can 3 (by simp [FS.cells]) _ rfl, fun w3 hw3 => ?_⟩
    have k3 := g2.setField 3 (u32v m) { s with left := n, mask := m } rfl rfl hw3
    exact ⟨rfl, k3.1, m2.trans k3.2⟩
/-- Words -/
theorem fwords_calls {B : Nat} {w : World} {g gw c : Nat} {s : FS} (h : FlAt 181 B w g gw c s) (hl : s.ws.length ≤ 1048576) :
    Calls Try.prog 79 #[.pointer (some ⟨g, 0, none⟩)] w (Ret fun v w' => ∃ a' c', v = .slice a' s.ws.length c' ∧ Own 42 u32v w.heap.size w' a' c' s.ws ∧ Ext w w') := by
  refine calls_of_vc lok Try.func79 ?_ rfl
  conv => whnf
  refine vcCond_false lok (rfl) ?_
  conv => whnf
  refine ⟨_, h.blk.cell0 rfl, ?_⟩
  conv => whnf
  have g3 := (Own.nil 42 u32v w.heap.size w).append (ty := 37) (d := c) e32.toElem (fun _ => rfl) h.sl (by simp; omega) (Nat.le_refl _)
  obtain ⟨a3, c3, w3, hr3, ho3, hg3, _⟩ := g3
  refine ⟨_, _, hr3, ?_⟩
  conv => whnf
  exact ⟨a3, c3, rfl, ho3, hg3.extOf (Ext.refl _) (fun g hg => by cases hg)⟩

theorem built181 (a : Option Addr) (n c : Nat) : Try.prog.built 181 [(0, .slice a n c), (2, .int .i64 (-1))] = some #[.slice a n c, .bool false, .int .i64 (-1), .int .u32 0, .int .i64 0] := by kernel_rfl
theorem built81 (a : Option Addr) (n c : Nat) : Try.prog.built 81 [(0, .slice a n c), (2, .int .i64 (-1))] = some #[.slice a n c, .bool false, .int .i64 (-1), .int .u32 0, .int .i64 0] := by kernel_rfl
theorem built81n : Try.prog.built 81 [(2, .int .i64 (-1))] = some #[.slice none 0 0, .bool false, .int .i64 (-1), .int .u32 0, .int .i64 0] := by kernel_rfl

/-- a new flash behind a slice of the call's own -/
theorem FlAt.new {T B : Nat} {w w' : World} {gw c : Nat} {ws : List (BitVec 32)} (ho : Own 42 u32v B w (some ⟨gw, 0, none⟩) c ws) (hB : B ≤ w.heap.size)
    (hw : w' = w.alloc (.cells #[.slice (some ⟨gw, 0, none⟩) ws.length c, .bool false, .int .i64 (-1), .int .u32 0, .int .i64 0] T)) : FlAt T B w' w.heap.size gw c (newFS ws) ∧ Ext w w' := by
  subst hw
  exact ⟨⟨Blk.new w T _, ho.ext (Ext.new _ _), hB, fun e => by have := ho.lt; omega⟩, Ext.new _ _⟩

theorem own_some {α : Type} {T : TypeId} {f : α → Value} {B : Nat} {w : World} {a : Option Addr} {c : Nat} {xs : List α} (h : Own T f B w a c xs) (hx : xs ≠ []) : ∃ g, a = some ⟨g, 0, none⟩ := by
  rcases h.form with ⟨_, _, h3⟩ | ⟨g, cur, ha, _⟩
  · exact absurd h3 hx
  · exact ⟨g, ha⟩

theorem fillF_all (n : Nat) (ws : List (BitVec 32)) (h : ws.length = n) : fillF ws 0 n = List.replicate n ones := by
  apply List.ext_getElem?
  intro i
  rw [fillF_get, List.getElem?_replicate]
  by_cases hi : i < n
  · rw [if_pos (by omega), if_pos hi]
  · rw [if_neg (by omega), if_neg hi, List.getElem?_eq_none (by omega)]

/-- New -/
theorem new_calls {w : World} (n : Int) :
    Calls Try.prog 70 #[.int .i64 n] w (Ret fun v w' => ((n < 1 ∨ 16 < n) ∧ v = .pointer none ∧ w' = w) ∨ (¬ (n < 1 ∨ 16 < n) ∧ ∃ g gw c, v = .pointer (some ⟨g, 0, none⟩) ∧ FlAt 181 w.heap.size w' g gw c (newFS (List.replicate (256 * n.toNat) ones)) ∧ Ext w w')) := by
  refine calls_of_vc lok Try.func70 ?_ rfl
  conv => whnf
  refine vcReg_meet lok (fun β : Bool => [(9, .bool β)]) (fun β w' => w' = w ∧ β = decide (n < 1 ∨ 16 < n)) [9] (fun _ => rfl) rfl ?_ ?_
  · conv => whnf
    refine bcase (fun h1 => ?_) (fun h1 => ?_)
    · conv => whnf
      exact ⟨_, ⟨rfl, trivial⟩, rfl, by have := dt h1; simp; omega⟩
    · conv => whnf
      exact ⟨_, ⟨rfl, trivial⟩, rfl, by have := df h1; rw [decide_eq_decide]; omega⟩
  rintro β w' ⟨hw', hβ⟩
  subst hw'
  conv => whnf
  refine vcCond_split lok rfl (fun h1 => ?_) (fun h1 => ?_)
  · rw [h1] at hβ
    conv => whnf
    exact .inl ⟨dt hβ.symm, rfl, rfl⟩
  rw [h1] at hβ
  have hn := df hβ.symm
  conv => whnf
  refine ⟨by omega, ?_⟩
  conv => whnf
  have e1 : n * 256 = ((256 * n.toNat : Nat) : Int) := by omega
  have hm : 256 * n.toNat ≤ 4096 ∧ 256 ≤ 256 * n.toNat := by omega
  rw [e1]
  generalize 256 * n.toNat = m at *
  have g1 := run_makeOwn e32 w'.heap.size w' (Nat.le_refl _) m m (Nat.le_refl _) (by omega)
  obtain ⟨w1, hr1, ho1, hx1⟩ := g1
  rw [List.length_replicate] at hr1
  refine ⟨_, _, hr1, ?_⟩
  conv => whnf
  refine ⟨_, fun w => run_build w 181 _ _ (built181 _ _ _), ?_⟩
  conv => whnf
  intro w2 hw2
  have k2 := FlAt.new (T := 181) (w' := w2) ho1 hx1.size (by rw [hw2, List.length_replicate])
  obtain ⟨h2, x2⟩ := k2
  clear hw2
  conv => whnf
  refine ⟨_, h2.blk.cell0 rfl, ?_⟩
  conv => whnf
  have g3 := fill_calls h2 0 m (Nat.zero_le _) (by show m ≤ (List.replicate m 0).length; rw [List.length_replicate]; exact Nat.le_refl _) (by show (List.replicate m 0).length ≤ _; rw [List.length_replicate]; omega)
  have el : ((List.replicate m (0 : BitVec 32)).length : Int) = (m : Int) := by rw [List.length_replicate]
  show Calls _ _ #[_, _, .int .i64 ((newFS (List.replicate m (0 : BitVec 32))).ws.length : Int)] _ _
  rw [show ((newFS (List.replicate m (0 : BitVec 32))).ws.length : Int) = (m : Int) from el]
  refine Calls.ret (g3) ?_
  rintro _ w3 ⟨rfl, h3, m3⟩
  conv => whnf
  have ef : fillF (newFS (List.replicate m 0)).ws 0 (m - 0) = List.replicate m ones := fillF_all m _ (by show (List.replicate m (0 : BitVec 32)).length = m; rw [List.length_replicate])
  rw [ef] at h3
  exact .inr ⟨hn, _, _, _, rfl, h3, m3.above (hx1.trans x2) hx1.size (Nat.le_refl _)⟩

/-- Of -/
theorem of_calls {w : World} {a : Option Addr} {c : Nat} {ws : List (BitVec 32)} (h : Sl u32v w a ws) (hl : ws.length ≤ 1048576) :
    Calls Try.prog 91 #[.slice a ws.length c] w (Ret fun v w' => (canF ws.length = true ∧ ∃ g gw c, v = .pointer (some ⟨g, 0, none⟩) ∧ FlAt 181 w.heap.size w' g gw c (newFS ws) ∧ Ext w w') ∨ (canF ws.length = false ∧ v = .pointer none ∧ w' = w)) := by
  refine calls_of_vc lok Try.func91 ?_ rfl
  conv => whnf
  refine ⟨by decide, ?_⟩
  intro z hz
  have hz114 : z = ((ws.length / 256 : Nat) : Int) := by rw [hz, Int.tdiv_eq_ediv_of_nonneg (by omega), wi64 (by omega)]; omega
  clear hz
  subst hz114
  conv => whnf
  refine vcReg_meet lok (fun β : Bool => [(19, .bool β)]) (fun β w' => w' = w ∧ β = !canF ws.length) [19] (fun _ => rfl) rfl ?_ ?_
  · conv => whnf
    refine bcase (fun h1 => ?_) (fun h1 => ?_)
    · have := dt h1
      conv => whnf
      exact ⟨_, ⟨rfl, trivial⟩, rfl, by unfold canF; rw [decide_eq_false (by omega)]; rfl⟩
    · have := df h1
      conv => whnf
      refine bcase (fun h2 => ?_) (fun h2 => ?_)
      · have := dt h2
        conv => whnf
        exact ⟨_, ⟨rfl, trivial⟩, rfl, by unfold canF; rw [decide_eq_false (by omega)]; rfl⟩
      · have := df h2
        conv => whnf
        refine ⟨by omega, ?_⟩
        conv => whnf
        refine ⟨_, ⟨rfl, trivial⟩, rfl, ?_⟩
        unfold canF
        congr 1
        rw [decide_eq_decide]
        omega
  rintro β w' ⟨hw', hβ⟩
  subst hw'
  conv => whnf
  refine vcCond_split lok rfl (fun h1 => ?_) (fun h1 => ?_)
  · rw [h1] at hβ
    conv => whnf
    exact .inr ⟨by simpa using hβ.symm, rfl, rfl⟩
  rw [h1] at hβ
  have hcan : canF ws.length = true := by simpa using hβ.symm
  have hcl := of_decide_eq_true hcan
  conv => whnf
  have g3 := (Own.nil 42 u32v w'.heap.size w').append (ty := 37) (d := c) e32.toElem (fun _ => rfl) h (by simp; omega) (Nat.le_refl _)
  rw [List.nil_append] at g3
  obtain ⟨a3, c3, w3, hr3, ho3, hg3, _⟩ := g3
  have ea := own_some ho3 (fun e => by rw [e] at hcl; simp at hcl)
  obtain ⟨gw, ea⟩ := ea
  subst ea
  refine ⟨_, _, hr3, ?_⟩
  have x3 : Ext w' w3 := hg3.extOf (Ext.refl _) (fun g hg => by cases hg)
  conv => whnf
  refine ⟨_, fun w => run_build w 181 _ _ (built181 _ _ _), ?_⟩
  conv => whnf
  intro w4 hw4
  have k4 := FlAt.new (T := 181) ho3 x3.size hw4
  exact .inl ⟨hcan, _, _, _, rfl, k4.1, x3.trans k4.2⟩

/-- Copy -/
theorem copy_calls {B : Nat} {w : World} {g gw c : Nat} {s : FS} (h : FlAt 181 B w g gw c s) (hl : s.ws.length ≤ 1048576) (hne : s.ws ≠ []) :
    Calls Try.prog 101 #[.pointer (some ⟨g, 0, none⟩)] w (Ret fun v w' => ∃ g' gw' c', v = .pointer (some ⟨g', 0, none⟩) ∧ FlAt 181 w.heap.size w' g' gw' c' s ∧ Ext w w') := by
  refine calls_of_vc lok Try.func101 ?_ rfl
  conv => whnf
  refine vcCond_false lok (rfl) ?_
  conv => whnf
  refine ⟨s.cells gw c, rfl, h.blk.cells, ?_⟩
  conv => whnf
  intro w1 hw1
  have hb1 : Blk w1 w.heap.size 181 [.slice none 0 0, .bool false, .int .i64 0, .int .u32 0, .int .i64 0] := by rw [hw1]; exact Blk.new w 181 _
  have x1 : Ext w w1 := by rw [hw1]; exact Ext.new _ _
  clear hw1
  conv => whnf
  have k2 := Blk.storeAgg lok hb1 (t := 181) (us := s.cells gw c) rfl 0 (by simp [FS.cells]) (by simp [FS.cells, u32v, Value.oneCell'])
  obtain ⟨w2, hr2, hb2, hg2⟩ := k2
  have x2 : Ext w w2 := hg2.extOf x1 (fun g hg => by cases hg; exact Nat.le_refl _)
  have hb2 : Blk w2 w.heap.size 181 (s.cells gw c) := hb2
  refine ⟨w2, hr2, ?_⟩
  conv => whnf
  refine Calls.ret (fwords_calls (h.ext x2) hl) ?_
  rintro _ w3 ⟨a3, c3, rfl, ho3, x3⟩
  conv => whnf
  have ea := own_some ho3 hne
  obtain ⟨gw3, ea⟩ := ea
  subst ea
  have hb3 := hb2.ext x3
  refine ⟨hb3.can 0 (by simp [FS.cells]) _ rfl, fun w4 hw4 => ?_⟩
  have hb4 : Blk w4 w.heap.size 181 (s.cells gw3 c3) := by rw [hw4]; exact hb3.set 0 _
  have hg4 := gr_of_set hw4
  clear hw4
  conv => whnf
  have ho4 : Own 42 u32v w2.heap.size w4 (some ⟨gw3, 0, none⟩) c3 s.ws := hg4.keepOwn ho3 (fun g hg e => by
    cases hg
    have e1 : w.heap.size = gw3 := Option.some.inj e
    have e2 := ho3.lt.1
    have e3 := hb2.lt
    omega)
  exact ⟨_, _, _, rfl, ⟨hb4, ho4.base x2.size, Nat.le_refl _, fun e => by have := ho3.lt; have := hb2.lt; omega⟩, hg4.extOf (x2.trans x3) (fun g hg => by cases hg; exact Nat.le_refl _)⟩
end Go.Proofs.Ytgipackjnncabaa
