/- The law SlotsBegun holds of the Go text: it returns true for each slice of words, each triple of words and each size that may be handed to it, and writes nothing that was there. No condition. -/
import Derived.Test.YtgipackjnncabaaRows
import Derived.Test.YtgipackjnncabaaL22e
import Derived.Test.YtgipackjnncabaaSh
import Derived.Test.YtgipackjnncabaaHd
import Derived.WalkKit
import Derived.ProofKit
import Derived.OpenShut
import Derived.ShutString
import Derived.ChangeOld
import Derived.Below
namespace Go.Proofs.Ytgipackjnncabaa.slotsBegun
open Go.ChangeShapes Go.WideShapes Go.ChangeAt Go.RowKit Go.Vc
open Go.ChangeMaps (open_string shut_string)
set_option linter.unusedVariables false

theorem own : ownKnob Try.prog.godebug = none := hd.own
theorem laidOut : laidOutB Try.prog = true := hd.laidOut

theorem walk (a0 : Option Addr) (len0 cap0 : Nat) (c1 : Array Value) (a2 : Int) (w : World) (w0 : Fit w (.slice 1 (.int .u32)) [.slice a0 len0 cap0]) (w1 : Fit w (.arr 3 1 (.int .u32)) c1.toList) (w2 : (Lit.int .u16 a2).wf = true) :
    Calls Try.prog 36 #[.slice a0 len0 cap0, .agg c1, .int .u16 a2] w fun e w' => e = .returned (.bool true) ∧ Below w.heap.size w w' := by
  have hk := fit_cap w0
  obtain ⟨l, rfl, hl, hc⟩ := fit_u32 w0
  have key : ∃ x y z : BitVec 32, c1 = #[.int .u32 x.toNat, .int .u32 y.toNat, .int .u32 z.toNat] := by
    obtain ⟨h1, h2⟩ := w1
    obtain ⟨cs⟩ := c1
    match cs, h1 with
    | [v1, v2, v3], _ =>
      obtain ⟨n1, e1, k1⟩ := h2 0 (by decide)
      obtain ⟨n2, e2, k2⟩ := h2 1 (by decide)
      obtain ⟨n3, e3, k3⟩ := h2 2 (by decide)
      have e1 : [v1] = [Value.int .u32 n1] := e1
      have e2 : [v2] = [Value.int .u32 n2] := e2
      have e3 : [v3] = [Value.int .u32 n3] := e3
      obtain ⟨x, hx⟩ := wf_u32 k1
      obtain ⟨y, hy⟩ := wf_u32 k2
      obtain ⟨z, hz⟩ := wf_u32 k3
      injection e1 with e1
      injection e2 with e2
      injection e3 with e3
      exact ⟨x, y, z, by rw [e1, e2, e3, hx, hy, hz]⟩
  obtain ⟨x, y, z, rfl⟩ := key
  obtain ⟨sz, rfl, hsz⟩ := wf_u16 w2
  exact (slotsBegun_walk hl (by omega) x y z sz (by omega)).mono fun e w' h => law_ret h

set_option maxRecDepth 100000 in
theorem lifted (os : Os) (started : os.Started) (H : Type) (enc : TypeId × Value → H) :
    ReturnsInHanded {} Try.checked os 36 .any (Rows.slotsBegunSpec.pre6 enc Try.prog Try.f36 Rows.slotsBegunRow.domain false) (Rows.slotsBegunSpec.post enc Try.prog Try.f36 false true false false) := by
  refine returnsInHanded_of_change (C := Try.checked) own started (by kernel_rfl) Try.func36
    (ChangeSpec.witness6 (enc := enc) (C := Try.checked) false ⟨#[], #[.slice none 0 0, .agg #[.int .u32 0, .int .u32 0, .int .u32 0], .int .u16 0], []⟩ 36 (by kernel_rfl) (by kernel_rfl) (by kernel_rfl) (by kernel_rfl)) ?_
  intro W base args ds gs before hval0 hW hcnd _
  have hval : ∀ (j : Nat) t v, Try.f36.params[j]? = some t → args[j]? = some v → Value.okWide Try.prog W .any base t v := hval0
  have hW' := hW
  obtain ⟨p, q, hA0, hV, rfl, hfz, hnd⟩ := hW
  have hA : DataW.TrodAll enc Try.prog W 0 (fun _ => true) true Try.f36.params.toList args.toList ds p := hA0
  rw [Try.params36] at hA hval
  obtain ⟨v0, vs0, d0, ds0, p0, q0, hargs, rfl, rfl, h0, r0⟩ := trodAll_cons hA
  obtain ⟨v1, vs1, d1, ds1, p1, q1, rfl, rfl, rfl, h1, r1⟩ := trodAll_cons r0
  obtain ⟨v2, vs2, d2, ds2, p2, q2, rfl, rfl, rfl, h2, r2⟩ := trodAll_cons r1
  obtain ⟨rfl, rfl, rfl⟩ := trodAll_nil r2
  obtain rfl : args = #[v0, v1, v2] := by cases args; simp_all
  obtain ⟨rfl, rfl⟩ := trodVars_none hV
  obtain ⟨a0, len0, cap0, rfl⟩ := okWide_slice (e := 42) (by kernel_rfl) (hval 0 37 v0 rfl rfl)
  have k0 := h0
  have lt0 : ∀ x ∈ p0, x.block < W.heap.size := by obtain ⟨m, hm⟩ := k0; exact DataW.trod_lt m _ _ _ hm
  have w0 : Fit W (.slice 1 (.int .u32)) [.slice a0 len0 cap0] := by
    obtain ⟨fuel, hf⟩ := h0
    exact fit_of _ (by kernel_rfl) hf
  obtain ⟨c1, rfl, hsz1⟩ := okWide_array (n := 3) (e := 42) (by kernel_rfl) (hval 1 166 v1 rfl rfl)
  have k1 := h1
  have lt1 : ∀ x ∈ p1, x.block < W.heap.size := by obtain ⟨m, hm⟩ := k1; exact DataW.trod_lt m _ _ _ hm
  have w1 : Fit W (.arr 3 1 (.int .u32)) c1.toList := by
    obtain ⟨fuel, hf⟩ := h1
    exact fit_of _ (by kernel_rfl) hf
  obtain ⟨a2, rfl, rfl, rfl, w2⟩ := open_int (k := .u16) (by kernel_rfl) (hval 2 86 v2 rfl rfl) h2
  clear hA0 hval0
  refine (walk a0 len0 cap0 c1 a2 W w0 w1 w2).mono fun e W' ⟨he, bel⟩ => ?_
  subst he
  exact ⟨_, rfl, _, _, _, [], _, [], hW', trodAll_mk1 (shut_bool Try.underlying4 _), (trodAll_cons_mk (Below.trod laidOut (by kernel_rfl) (of_decide_eq_true (by kernel_rfl)) k0 bel lt0) (trodAll_cons_mk (Below.trod laidOut (by kernel_rfl) (of_decide_eq_true (by kernel_rfl)) k1 bel lt1) (trodAll_cons_mk (shut_int (k := .u16) (by kernel_rfl) w2) trodAll_mk0))), rfl, bel.frame _, fun h => by cases h⟩

theorem over : Rows.slotsBegunRow.holds Try.pinned (OpenSpec.ofChange Rows.slotsBegunSpec) :=
  OpenClaim.holds_of_wide 36 Try.f36 rfl rfl rfl rfl rfl rfl rfl ⟨rfl, rfl, rfl, rfl, rfl⟩ rfl rfl rfl rfl rfl (by kernel_rfl) Try.func36 (hd.joined (by kernel_rfl))
    (of_decide_eq_true (by kernel_rfl)) (by unfold Func.isWrapper; first | (rw [if_pos (by decide +kernel)]; kernel_rfl) | (rw [if_neg (by decide +kernel)]; exact ⟨rfl, rfl⟩))
    (fun os started H enc _ => lifted os started H enc)

/-- the statement -/
theorem proved : Rows.SlotsBegunSaid := over
#print axioms proved
end Go.Proofs.Ytgipackjnncabaa.slotsBegun
