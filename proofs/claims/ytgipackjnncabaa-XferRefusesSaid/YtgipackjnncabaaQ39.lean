/- The law XferRefuses holds of the Go text: it returns true for each slice of words and each turn that may be handed to it, and writes nothing that was there. No condition. -/
import Derived.Test.YtgipackjnncabaaRows
import Derived.Test.YtgipackjnncabaaK39k
import Derived.WalkKit
import Derived.ProofKit
import Derived.OpenShut
import Derived.ShutString
import Derived.ChangeOld
import Derived.Below
namespace Go.Proofs.Ytgipackjnncabaa.xferRefuses
open Go.ChangeShapes Go.WideShapes Go.ChangeAt Go.RowKit Go.Vc
open Go.ChangeMaps (open_string shut_string)
set_option linter.unusedVariables false

theorem own : ownKnob Try.prog.godebug = none := hd.own
theorem laidOut : laidOutB Try.prog = true := hd.laidOut

theorem walk (a0 : Option Addr) (len0 cap0 : Nat) (c1 : Array Value) (w : World) (w0 : Fit w (.slice 1 (.int .u32)) [.slice a0 len0 cap0]) (w1 : Fit w (.st (.pair 10 (.st (.pair 1 .bool (.pair 1 .bool (.pair 1 (.slice 1 (.int .u8)) (.pair 7 (.st (.pair 1 (.int .i64) (.pair 1 (.int .u32) (.pair 1 (.int .i64) (.pair 1 (.int .i64) (.pair 1 (.int .i64) (.pair 1 (.int .u32) (.pair 1 (.slice 1 (.int .u8)) .unit)))))))) .unit))))) (.pair 1 (.int .i64) (.pair 1 (.int .u32) (.pair 1 .bool (.pair 1 (.int .u8) (.pair 1 (.int .u32) .unit))))))) c1.toList) :
    Calls Try.prog 39 #[.slice a0 len0 cap0, .agg c1] w fun e w' => e = .returned (.bool true) ∧ Below w.heap.size w w' := by
  have hk : len0 ≤ 9223372036854775807 := by
    obtain ⟨a, len, cap, hs, hl1, hl2, hl3⟩ := w0
    injection hs with hs
    injection hs with e1 e2 e3
    have hm : maxLen ≤ 9223372036854775807 := by decide
    omega
  obtain ⟨l, rfl, hl, hc⟩ := fit_u32 w0
  obtain ⟨t, ht, he⟩ := fit_turn w1
  have e1 : c1 = t.cells.toArray := by rw [← ht]
  subst e1
  exact (xferRefuses_walk hl hk t he).mono fun e w' h => law_ret h

set_option maxRecDepth 100000 in
theorem lifted (os : Os) (started : os.Started) (H : Type) (enc : TypeId × Value → H) :
    ReturnsInHanded {} Try.checked os 39 .any (Rows.xferRefusesSpec.pre6 enc Try.prog Try.f39 Rows.xferRefusesRow.domain false) (Rows.xferRefusesSpec.post enc Try.prog Try.f39 false true false false) := by
  refine returnsInHanded_of_change (C := Try.checked) own started (by kernel_rfl) Try.func39
    (ChangeSpec.witness6 (enc := enc) (C := Try.checked) false ⟨#[], #[.slice none 0 0, .agg #[.bool false, .bool false, .slice none 0 0, .int .i64 0, .int .u32 0, .int .i64 0, .int .i64 0, .int .i64 0, .int .u32 0, .slice none 0 0, .int .i64 0, .int .u32 0, .bool false, .int .u8 0, .int .u32 0]], []⟩ 39 (by kernel_rfl) (by kernel_rfl) (by kernel_rfl) (by kernel_rfl)) ?_
  intro W base args ds gs before hval0 hW hcnd _
  have hval : ∀ (j : Nat) t v, Try.f39.params[j]? = some t → args[j]? = some v → Value.okWide Try.prog W .any base t v := hval0
  have hW' := hW
  obtain ⟨p, q, hA0, hV, rfl, hfz, hnd⟩ := hW
  have hA : DataW.TrodAll enc Try.prog W 0 (fun _ => true) true Try.f39.params.toList args.toList ds p := hA0
  rw [Try.params39] at hA hval
  obtain ⟨v0, vs0, d0, ds0, p0, q0, hargs, rfl, rfl, h0, r0⟩ := trodAll_cons hA
  obtain ⟨v1, vs1, d1, ds1, p1, q1, rfl, rfl, rfl, h1, r1⟩ := trodAll_cons r0
  obtain ⟨rfl, rfl, rfl⟩ := trodAll_nil r1
  obtain rfl : args = #[v0, v1] := by cases args; simp_all
  obtain ⟨rfl, rfl⟩ := trodVars_none hV
  obtain ⟨a0, len0, cap0, rfl⟩ := okWide_slice (e := 42) (by kernel_rfl) (hval 0 37 v0 rfl rfl)
  have k0 := h0
  have lt0 : ∀ x ∈ p0, x.block < W.heap.size := by obtain ⟨m, hm⟩ := k0; exact DataW.trod_lt m _ _ _ hm
  have w0 : Fit W (.slice 1 (.int .u32)) [.slice a0 len0 cap0] := by
    obtain ⟨fuel, hf⟩ := h0
    exact fit_of _ (by kernel_rfl) hf
  have u1 : ∃ fs, Try.prog.underlying 74 = some (.struct fs) := by
    have : (match Try.prog.underlying 74 with | some (.struct _) => true | _ => false) = true := by kernel_rfl
    generalize Try.prog.underlying 74 = d at this
    split at this
    · exact ⟨_, rfl⟩
    · cases this
  obtain ⟨fs1, u1⟩ := u1
  obtain ⟨c1, rfl, hsz1⟩ := okWide_struct u1 (hval 1 74 v1 rfl rfl)
  have k1 := h1
  have lt1 : ∀ x ∈ p1, x.block < W.heap.size := by obtain ⟨m, hm⟩ := k1; exact DataW.trod_lt m _ _ _ hm
  have w1 : Fit W (.st (.pair 10 (.st (.pair 1 .bool (.pair 1 .bool (.pair 1 (.slice 1 (.int .u8)) (.pair 7 (.st (.pair 1 (.int .i64) (.pair 1 (.int .u32) (.pair 1 (.int .i64) (.pair 1 (.int .i64) (.pair 1 (.int .i64) (.pair 1 (.int .u32) (.pair 1 (.slice 1 (.int .u8)) .unit)))))))) .unit))))) (.pair 1 (.int .i64) (.pair 1 (.int .u32) (.pair 1 .bool (.pair 1 (.int .u8) (.pair 1 (.int .u32) .unit))))))) c1.toList := by
    obtain ⟨fuel, hf⟩ := h1
    exact fit_of _ (by kernel_rfl) hf
  clear hA0 hval0
  refine (walk a0 len0 cap0 c1 W w0 w1).mono fun e W' ⟨he, bel⟩ => ?_
  subst he
  exact ⟨_, rfl, _, _, _, [], _, [], hW', trodAll_mk1 (shut_bool Try.underlying4 _), (trodAll_cons_mk (Below.trod laidOut (by kernel_rfl) (of_decide_eq_true (by kernel_rfl)) k0 bel lt0) (trodAll_cons_mk (Below.trod laidOut (by kernel_rfl) (of_decide_eq_true (by kernel_rfl)) k1 bel lt1) trodAll_mk0)), rfl, bel.frame _, fun h => by cases h⟩

theorem over : Rows.xferRefusesRow.holds Try.pinned (OpenSpec.ofChange Rows.xferRefusesSpec) :=
  OpenClaim.holds_of_wide 39 Try.f39 rfl rfl rfl rfl rfl rfl rfl ⟨rfl, rfl, rfl, rfl, rfl⟩ rfl rfl rfl rfl rfl (by kernel_rfl) Try.func39 (hd.joined (by kernel_rfl))
    (of_decide_eq_true (by kernel_rfl)) (by unfold Func.isWrapper; first | (rw [if_pos (by decide +kernel)]; kernel_rfl) | (rw [if_neg (by decide +kernel)]; exact ⟨rfl, rfl⟩))
    (fun os started H enc _ => lifted os started H enc)

/-- the statement -/
theorem proved : Rows.XferRefusesSaid := over
#print axioms proved
end Go.Proofs.Ytgipackjnncabaa.xferRefuses
