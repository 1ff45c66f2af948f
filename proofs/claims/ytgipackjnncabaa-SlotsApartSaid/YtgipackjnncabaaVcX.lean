/- A rule more for loops: all ways out of a loop by one exit meet. No program is named here. -/
import Derived.Test.YtgipackjnncabaaVcS
import Derived.Scope
set_option linter.unusedVariables false
namespace Go.Vc
open Go.RowKit

/-- what is asked where the ways out by exit k meet -/
def meetX {σ : Type} (k : Nat) (F : σ → Env) (I : σ → World → Prop) (Q : Exit → Env → World → Prop) : Exit → Env → World → Prop
  | .normal, E, w => Q .normal E w
  | .exit i, E, w => match Nat.beq i k with
    | true => ∃ s, subE (F s) E ∧ I s w
    | false => Q (.exit i) E w
  | .goto l, E, w => Q (.goto l) E w
  | .ret, E, w => Q .ret E w
  | .panic ch, E, w => Q (.panic ch) E w
  | .outgrown, E, w => Q .outgrown E w

theorem vcLoop_meet {P : Program} {n : Nat} {c : Code} {E : Env} {w : World} {Q : Exit → Env → World → Prop} {σ : Type} (k : Nat) (F : σ → Env) (I : σ → World → Prop)
    (h1 : vcLoop P n c E w (meetX k F I Q)) (h2 : ∀ s w', I s w' → Q (.exit k) (F s) w') : vcLoop P n c E w Q := by
  unfold vcLoop at h1 ⊢
  intro a hr
  refine wp_mono (h1 a hr) fun e a' w' he => ?_
  obtain ⟨E', hr', hq⟩ := he
  cases e with
  | normal => exact ⟨E', hr', hq⟩
  | exit i =>
    cases hb : Nat.beq i k with
    | true =>
      have e := Nat.eq_of_beq_eq_true hb
      subst e
      have hq : ∃ s, subE (F s) E' ∧ I s w' := by
        unfold meetX at hq
        simp only [hb] at hq
        exact hq
      obtain ⟨s, hsub, hI⟩ := hq
      exact ⟨F s, hr'.sub (subE_sound hsub), h2 s w' hI⟩
    | false =>
      have hq : Q (.exit i) E' w' := by
        unfold meetX at hq
        simp only [hb] at hq
        exact hq
      exact ⟨E', hr', hq⟩
  | goto i => exact ⟨E', hr', hq⟩
  | ret => exact ⟨E', hr', hq⟩
  | panic i => exact ⟨E', hr', hq⟩
  | outgrown => exact ⟨E', hr', hq⟩

/-- what is asked of a body whose second part is a scope that no jump leaves or enters -/
def vcFnS (L : Lay) (P : Program) (fn : Func) (args : List Value) (w : World) (R : Value → World → Prop) : Prop :=
  match fn.body with
  | some (.seq x (.scope c)) => vc L P fn.ntmps (.seq x c) (argEnv 0 args) w (vcPost L fn.results.toList R)
  | _ => False

theorem calls_of_vcS {L : Lay} {P : Program} {w : World} {f : FuncId} {fn : Func} {args : List Value} {R : Value → World → Prop} (hL : L.Ok P) (hf : P.funcs[f]? = some fn)
    (h : vcFnS L P fn args w R) (hsz : Nat.ble args.length fn.ntmps = true) : Calls P f args.toArray w (Ret R) := by
  unfold vcFnS at h
  split at h
  · rename_i x c hb
    have hrep : Rep fn.ntmps (argEnv 0 args) { tmps := args.toArray ++ Array.replicate (fn.ntmps - args.toArray.size) undef, defers := [] } := by
      have hsz := Nat.le_of_ble_eq_true hsz
      refine ⟨by simp; omega, rfl, fun t v hv => ?_⟩
      obtain ⟨_, h2⟩ := argEnv_look args 0 t v hv
      have ht : t < args.length := by
        rcases Nat.lt_or_ge t args.length with h' | h'
        · exact h'
        · simp [List.getElem?_eq_none h'] at h2
      simp only [Nat.sub_zero] at h2
      simp [Array.getElem?_append, ht, h2]
      simpa [List.getElem?_eq_getElem ht] using h2
    have hw : (Code.seq x (.scope c)).wp P (lift fn.ntmps (vcPost L fn.results.toList R)) { tmps := args.toArray ++ Array.replicate (fn.ntmps - args.toArray.size) undef, defers := [] } w := by
      refine wp_seq (wp_mono (vc_sound hL x (argEnv 0 args) _ w _ hrep h) fun e a' w' he => ?_)
      obtain ⟨E', hr', hq⟩ := he
      cases e with
      | normal =>
        refine wp_scope_straight (wp_mono (vc_sound hL c E' a' w' _ hr' hq) fun e2 a2 w2 he2 => ?_)
        cases e2 with
        | goto l =>
          obtain ⟨_, _, hq2⟩ := he2
          exact hq2.elim
        | normal => exact he2
        | exit i => exact he2
        | ret => exact he2
        | panic i => exact he2
        | outgrown => exact he2
      | exit i => exact ⟨E', hr', hq⟩
      | goto i => exact ⟨E', hr', hq⟩
      | ret => exact ⟨E', hr', hq⟩
      | panic i => exact ⟨E', hr', hq⟩
      | outgrown => exact ⟨E', hr', hq⟩
    refine calls_of_wp hf hb (wp_mono hw fun e a' w' he => ?_)
    obtain ⟨E', hr, hq⟩ := he
    have key : vcRes L E' w' fn.results.toList (fun vs => match vs with
        | [v] => R v w'
        | vs => R (.tuple vs.toArray) w') → a'.defers = [] ∧ ∃ v, (results fn a'.tmps).run P w' = .ok v w' ∧ R v w' := by
      intro hres
      obtain ⟨vs, hrun, hk, _⟩ := vcRes_sound hL hr _ _ hres
      refine ⟨hr.defers, _, run_results hrun, ?_⟩
      match vs, hk with
      | [], hk => exact hk
      | [v], hk => exact hk
      | _ :: _ :: _, hk => exact hk
    cases e with
    | normal => exact key hq
    | ret => exact key hq
    | exit i => exact hq.elim
    | goto i => exact hq.elim
    | panic i => exact hq.elim
    | outgrown => exact hq.elim
  · exact h.elim
end Go.Vc
