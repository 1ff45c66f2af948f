/- The law JournalCrashes holds of the Go text: it returns true for each script that may be handed to it, and writes nothing that was there. No condition. -/
import Derived.Test.YtgipackjnncabaaRows
import Derived.Test.YtgipackjnncabaaL07d
import Derived.Test.YtgipackjnncabaaSh
import Derived.Test.YtgipackjnncabaaHd
import Derived.WalkKit
import Derived.ProofKit
import Derived.OpenShut
import Derived.ShutString
import Derived.ChangeOld
import Derived.Below
namespace Go.Proofs.Ytgipackjnncabaa.journalCrashes
open Go.ChangeShapes Go.WideShapes Go.ChangeAt Go.RowKit Go.Vc
open Go.ChangeMaps (open_string shut_string)
set_option linter.unusedVariables false

theorem own : ownKnob Try.prog.godebug = none := hd.own
theorem laidOut : laidOutB Try.prog = true := hd.laidOut

theorem walk (a0 : Option Addr) (len0 cap0 : Nat) (w : World) (w0 : Fit w (.slice 4 (.st (.pair 1 (.int .i64) (.pair 1 (.slice 1 (.int .u32)) (.pair 1 (.int .i64) (.pair 1 (.int .u32) .unit)))))) [.slice a0 len0 cap0]) :
    Calls Try.prog 31 #[.slice a0 len0 cap0] w fun e w' => e = .returned (.bool true) ∧ Below w.heap.size w w' := by
  have hk := fit_cap w0
  obtain ⟨xs, rfl, hl, hc, _, hr⟩ := fit_sliceN (f := O7.cells) (R := O7Ok w) w0 fun es hl hf => fit_o7 hf
  exact (journalCrashes_walk hl hk hr).mono fun e w' h => law_ret h

set_option maxRecDepth 100000 in
theorem lifted (os : Os) (started : os.Started) (H : Type) (enc : TypeId × Value → H) :
    ReturnsInHanded {} Try.checked os 31 .any (Rows.journalCrashesSpec.pre6 enc Try.prog Try.f31 Rows.journalCrashesRow.domain false) (Rows.journalCrashesSpec.post enc Try.prog Try.f31 false true false false) := by
  refine returnsInHanded_of_change (C := Try.checked) own started (by kernel_rfl) Try.func31
    (ChangeSpec.witness6 (enc := enc) (C := Try.checked) false ⟨#[], #[.slice none 0 0], []⟩ 31 (by kernel_rfl) (by kernel_rfl) (by kernel_rfl) (by kernel_rfl)) ?_
  intro W base args ds gs before hval0 hW hcnd _
  have hval : ∀ (j : Nat) t v, Try.f31.params[j]? = some t → args[j]? = some v → Value.okWide Try.prog W .any base t v := hval0
  have hW' := hW
  obtain ⟨p, q, hA0, hV, rfl, hfz, hnd⟩ := hW
  have hA : DataW.TrodAll enc Try.prog W 0 (fun _ => true) true Try.f31.params.toList args.toList ds p := hA0
  rw [Try.params31] at hA hval
  obtain ⟨v0, vs0, d0, ds0, p0, q0, hargs, rfl, rfl, h0, r0⟩ := trodAll_cons hA
  obtain ⟨rfl, rfl, rfl⟩ := trodAll_nil r0
  obtain rfl : args = #[v0] := by cases args; simp_all
  obtain ⟨rfl, rfl⟩ := trodVars_none hV
  obtain ⟨a0, len0, cap0, rfl⟩ := okWide_slice (e := 151) (by kernel_rfl) (hval 0 144 v0 rfl rfl)
  have k0 := h0
  have lt0 : ∀ x ∈ p0, x.block < W.heap.size := by obtain ⟨m, hm⟩ := k0; exact DataW.trod_lt m _ _ _ hm
  have w0 : Fit W (.slice 4 (.st (.pair 1 (.int .i64) (.pair 1 (.slice 1 (.int .u32)) (.pair 1 (.int .i64) (.pair 1 (.int .u32) .unit)))))) [.slice a0 len0 cap0] := by
    obtain ⟨fuel, hf⟩ := h0
    exact fit_of _ (by kernel_rfl) hf
  clear hA0 hval0
  refine (walk a0 len0 cap0 W w0).mono fun e W' ⟨he, bel⟩ => ?_
  subst he
  exact ⟨_, rfl, _, _, _, [], _, [], hW', trodAll_mk1 (shut_bool Try.underlying4 _), (trodAll_cons_mk (Below.trod laidOut (by kernel_rfl) (of_decide_eq_true (by kernel_rfl)) k0 bel lt0) trodAll_mk0), rfl, bel.frame _, fun h => by cases h⟩

theorem over : Rows.journalCrashesRow.holds Try.pinned (OpenSpec.ofChange Rows.journalCrashesSpec) :=
  OpenClaim.holds_of_wide 31 Try.f31 rfl rfl rfl rfl rfl rfl rfl ⟨rfl, rfl, rfl, rfl, rfl⟩ rfl rfl rfl rfl rfl (by kernel_rfl) Try.func31 (hd.joined (by kernel_rfl))
    (of_decide_eq_true (by kernel_rfl)) (by unfold Func.isWrapper; first | (rw [if_pos (by decide +kernel)]; kernel_rfl) | (rw [if_neg (by decide +kernel)]; exact ⟨rfl, rfl⟩))
    (fun os started H enc _ => lifted os started H enc)

/-- the statement -/
theorem proved : Rows.JournalCrashesSaid := over
#print axioms proved
end Go.Proofs.Ytgipackjnncabaa.journalCrashes
