/- Walks of layer 6, fifth part: the fixed calls; a flash that is not there. -/
import Derived.Test.YtgipackjnncabaaW06d
set_option linter.unusedVariables false
namespace Go.Proofs.Ytgipackjnncabaa
open Go.Vc Go.RowKit

def kS0 : FS := newFS (List.replicate (256 * (1 : Int).toNat) ones)
def kS1 : FS := (progF kS0 3 15#32).1
def kS2 : FS := (cutF kS1 0 255#32).1
def kS3 : FS := (progF kS2 4 0#32).1
def kS4 : FS := startF kS3

/-- the fixed calls -/
theorem known06 {w : World} : Calls Try.prog 90 #[] w (Ret fun v w' => v = .bool true ∧ Ext w w') := by
  refine calls_of_vc (args := []) lok Try.func90 ?_ rfl
  conv => whnf
  have e1 : (progF kS0 3 15#32).2 = 0 := by decide +kernel
  have e2 : (cutF kS1 0 255#32).2 = 0 := by decide +kernel
  have e3 : (progF kS2 4 0#32).2 = 7 := by decide +kernel
  have e4 : readF kS4 4 = (4294967040#32, 0) := by decide +kernel
  have e5 : kS4.ops = 1 := by decide +kernel
  have l0 : kS0.ws.length = 256 := by decide +kernel
  have l2 : kS2.ws.length = 256 := by decide +kernel
  have o0 : FSok kS0 := ⟨by decide +kernel, by decide +kernel⟩
  have o2 : FSok kS2 := ⟨by decide +kernel, by decide +kernel⟩
  refine Calls.ret (new_calls 1) ?_
  rintro _ w1 hp
  conv => whnf
  rcases hp with ⟨hno, _, _⟩ | ⟨_, g, gw, c, rfl, h1, x1⟩
  · exact absurd hno (by decide)
  have h1 : FlAt 181 w.heap.size w1 g gw c kS0 := h1
  conv => whnf
  refine vcReg_meet lok (fun β : Bool => [(23, .bool β)]) (fun β w' => Ext w1 w' ∧ β = false) [23] (fun _ => rfl) rfl ?_ ?_
  · conv => whnf
    have g2 := len_calls h1
    rw [l0] at g2
    refine Calls.ret (g2) ?_
    rintro _ w2 ⟨rfl, hw2⟩
    conv => whnf
    subst hw2
    conv => whnf
    refine Calls.ret (fon_calls h1) ?_
    rintro _ w2 ⟨rfl, hw2⟩
    conv => whnf
    subst hw2
    conv => whnf
    refine Calls.ret (new_calls 0) ?_
    rintro _ w2 hp
    conv => whnf
    rcases hp with ⟨_, rfl, rfl⟩ | ⟨hno, _⟩
    · conv => whnf
      exact ⟨_, ⟨rfl, trivial⟩, Ext.refl _, rfl⟩
    · exact absurd (.inl (by decide)) hno
  rintro β w2 ⟨x2, rfl⟩
  conv => whnf
  refine vcCond_false lok (rfl) ?_
  conv => whnf
  have g3 := prog_calls (h1.ext x2) 3 15#32 (by rw [l0]; decide) o0
  rw [e1] at g3
  refine Calls.ret (g3) ?_
  rintro _ w3 ⟨rfl, h3, m3⟩
  conv => whnf
  have h3 : FlAt 181 w.heap.size w3 g gw c kS1 := h3
  have g4 := cut_calls h3 0 255#32
  rw [e2] at g4
  refine Calls.ret (g4) ?_
  rintro _ w4 ⟨rfl, h4, m4⟩
  conv => whnf
  have h4 : FlAt 181 w.heap.size w4 g gw c kS2 := h4
  have g5 := prog_calls h4 4 0#32 (by rw [l2]; decide) o2
  rw [e3] at g5
  refine Calls.ret (g5) ?_
  rintro _ w5 ⟨rfl, h5, m5⟩
  conv => whnf
  have h5 : FlAt 181 w.heap.size w5 g gw c kS3 := h5
  refine Calls.ret (start_calls h5) ?_
  rintro _ w6 ⟨rfl, h6, m6⟩
  conv => whnf
  have h6 : FlAt 181 w.heap.size w6 g gw c kS4 := h6
  have g7 := read_calls h6 4
  rw [e4] at g7
  refine Calls.ret (g7) ?_
  rintro _ w7 ⟨rfl, hw7⟩
  conv => whnf
  subst hw7
  conv => whnf
  refine vcReg_go lok ?_
  conv => whnf
  have g8 := ops_calls h6
  rw [e5] at g8
  refine Calls.ret (g8) ?_
  rintro _ w8 ⟨rfl, hw8⟩
  conv => whnf
  subst hw8
  exact ⟨rfl, FlMod.above (((m3.trans m4).trans m5).trans m6) (x1.trans x2) h1.lo h1.lt.2.2⟩

/-! ### none -/
theorem nstart_calls {w : World} : Calls Try.prog 81 #[.pointer none] w (Ret fun v w' => v = .tuple #[] ∧ w' = w) := by
  refine calls_of_vc lok Try.func81 ?_ rfl
  conv => whnf
  refine vcCond_false lok (rfl) ?_
  conv => whnf
  exact ⟨rfl, rfl⟩
theorem nread_calls {w : World} (a : Int) : Calls Try.prog 97 #[.pointer none, .int .i64 a] w (Ret fun v w' => v = .tuple #[.int .u32 0, .int .i64 26] ∧ w' = w) := by
  refine calls_of_vc lok Try.func97 ?_ rfl
  conv => whnf
  refine vcCond_true lok (rfl) ?_
  conv => whnf
  exact ⟨rfl, rfl⟩
theorem nerase_calls {w : World} (a : Int) : Calls Try.prog 96 #[.pointer none, .int .i64 a] w (Ret fun v w' => v = .int .i64 26 ∧ w' = w) := by
  refine calls_of_vc lok Try.func96 ?_ rfl
  conv => whnf
  refine vcCond_true lok (rfl) ?_
  conv => whnf
  exact ⟨rfl, rfl⟩
theorem nprog_calls {w : World} (a x : Int) : Calls Try.prog 95 #[.pointer none, .int .i64 a, .int .u32 x] w (Ret fun v w' => v = .int .i64 26 ∧ w' = w) := by
  refine calls_of_vc lok Try.func95 ?_ rfl
  conv => whnf
  refine vcCond_true lok (rfl) ?_
  conv => whnf
  exact ⟨rfl, rfl⟩
theorem nlen_calls {w : World} : Calls Try.prog 102 #[.pointer none] w (Ret fun v w' => v = .int .i64 0 ∧ w' = w) := by
  refine calls_of_vc lok Try.func102 ?_ rfl
  conv => whnf
  refine vcCond_true lok (rfl) ?_
  conv => whnf
  exact ⟨rfl, rfl⟩
theorem nwords_calls {w : World} : Calls Try.prog 79 #[.pointer none] w (Ret fun v w' => v = .slice none 0 0 ∧ w' = w) := by
  refine calls_of_vc lok Try.func79 ?_ rfl
  conv => whnf
  refine vcCond_true lok (rfl) ?_
  conv => whnf
  exact ⟨rfl, rfl⟩
theorem ncut_calls {w : World} (a x : Int) : Calls Try.prog 74 #[.pointer none, .int .i64 a, .int .u32 x] w (Ret fun v w' => v = .int .i64 26 ∧ w' = w) := by
  refine calls_of_vc lok Try.func74 ?_ rfl
  conv => whnf
  refine vcCond_true lok (rfl) ?_
  conv => whnf
  exact ⟨rfl, rfl⟩
theorem non_calls {w : World} : Calls Try.prog 80 #[.pointer none] w (Ret fun v w' => v = .bool false ∧ w' = w) := by
  refine calls_of_vc lok Try.func80 ?_ rfl
  conv => whnf
  refine vcReg_go lok ?_
  conv => whnf
  exact ⟨rfl, rfl⟩
theorem nops_calls {w : World} : Calls Try.prog 103 #[.pointer none] w (Ret fun v w' => v = .int .i64 0 ∧ w' = w) := by
  refine calls_of_vc lok Try.func103 ?_ rfl
  conv => whnf
  refine vcCond_true lok (rfl) ?_
  conv => whnf
  exact ⟨rfl, rfl⟩
theorem ncopy_calls {w : World} : Calls Try.prog 101 #[.pointer none] w (Ret fun v w' => v = .pointer none ∧ w' = w) := by
  refine calls_of_vc lok Try.func101 ?_ rfl
  conv => whnf
  refine vcCond_true lok (rfl) ?_
  conv => whnf
  exact ⟨rfl, rfl⟩
end Go.Proofs.Ytgipackjnncabaa
