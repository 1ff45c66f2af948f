/- Layer 6: small facts that the layers above use. -/
import Derived.Test.YtgipackjnncabaaL06b
set_option linter.unusedVariables false
namespace Go.Proofs.Ytgipackjnncabaa
open Go.Vc Go.RowKit

theorem fwordsN_calls {B : Nat} {w : World} {g gw c n : Nat} {s : FS} (h : FlAt 181 B w g gw c s) (hn : s.ws.length = n) (hl : n ≤ 1048576) :
    Calls Try.prog 79 #[.pointer (some ⟨g, 0, none⟩)] w (Ret fun v w' => ∃ a' c', v = .slice a' n c' ∧ Own 42 u32v w.heap.size w' a' c' s.ws ∧ Ext w w') := by
  subst hn
  exact fwords_calls h hl
theorem quo256 (i : Nat) (hi : i < 4294967296) : IntKind.i64.wrap ((i : Int).tdiv 256) = ((i / 256 : Nat) : Int) := by
  rw [Int.tdiv_eq_ediv_of_nonneg (by omega), wi64 (by omega)]; omega
theorem of_big {w : World} {a : Option Addr} {c : Nat} {ws : List (BitVec 32)} (h : Sl u32v w a ws) (hl : ws.length ≤ 9223372036854775807) :
    Calls Try.prog 91 #[.slice a ws.length c] w (Ret fun v w' => (canF ws.length = true ∧ ∃ g gw c, v = .pointer (some ⟨g, 0, none⟩) ∧ FlAt 181 w.heap.size w' g gw c (newFS ws) ∧ Ext w w') ∨ (canF ws.length = false ∧ v = .pointer none ∧ w' = w)) := by
  refine calls_of_vc lok Try.func91 ?_ rfl
  conv => whnf
  refine ⟨by decide, ?_⟩
  intro z hz
  have hz114 : z = ((ws.length / 256 : Nat) : Int) := by rw [hz, Int.tdiv_eq_ediv_of_nonneg (by omega), wi64 (by omega)]; omega
  clear hz
  subst hz114
  conv => whnf
  refine vcReg_meet lok (fun β : Bool => [(19, .bool β)]) (fun β w' => w' = w ∧ β = !canF ws.length) [19] (fun _ => rfl) rfl ?_ ?_
  · conv => whnf
    refine bcase (fun h1 => ?_) (fun h1 => ?_)
    · have := dt h1
      conv => whnf
      exact ⟨_, ⟨rfl, trivial⟩, rfl, by unfold canF; rw [decide_eq_false (by omega)]; rfl⟩
    · have := df h1
      conv => whnf
      refine bcase (fun h2 => ?_) (fun h2 => ?_)
      · have := dt h2
        conv => whnf
        exact ⟨_, ⟨rfl, trivial⟩, rfl, by unfold canF; rw [decide_eq_false (by omega)]; rfl⟩
      · have := df h2
        conv => whnf
        refine ⟨by omega, ?_⟩
        conv => whnf
        refine ⟨_, ⟨rfl, trivial⟩, rfl, ?_⟩
        unfold canF
        congr 1
        rw [decide_eq_decide]
        omega
  rintro β w' ⟨hw', hβ⟩
  subst hw'
  conv => whnf
  refine vcCond_split lok rfl (fun h1 => ?_) (fun h1 => ?_)
  · rw [h1] at hβ
    conv => whnf
    exact .inr ⟨by simpa using hβ.symm, rfl, rfl⟩
  rw [h1] at hβ
  have hcan : canF ws.length = true := by simpa using hβ.symm
  have hcl := of_decide_eq_true hcan
  conv => whnf
  have g3 := (Own.nil 42 u32v w'.heap.size w').append (ty := 37) (d := c) e32.toElem (fun _ => rfl) h (by simp; omega) (Nat.le_refl _)
  rw [List.nil_append] at g3
  obtain ⟨a3, c3, w3, hr3, ho3, hg3, _⟩ := g3
  have ea := own_some ho3 (fun e => by rw [e] at hcl; simp at hcl)
  obtain ⟨gw, ea⟩ := ea
  subst ea
  refine ⟨_, _, hr3, ?_⟩
  have x3 : Ext w' w3 := hg3.extOf (Ext.refl _) (fun g hg => by cases hg)
  conv => whnf
  refine ⟨_, fun w => run_build w 181 _ _ (built181 _ _ _), ?_⟩
  conv => whnf
  intro w4 hw4
  have k4 := FlAt.new (T := 181) ho3 x3.size hw4
  exact .inl ⟨hcan, _, _, _, rfl, k4.1, x3.trans k4.2⟩

theorem rof_big {w : World} {a : Option Addr} {c : Nat} {ws : List (BitVec 32)} (h : Sl u32v w a ws) (hl : ws.length ≤ 9223372036854775807) :
    Calls Try.prog 92 #[.slice a ws.length c] w (Ret fun v w' => (canF ws.length = true ∧ ∃ g gw c, v = .tuple #[.pointer (some ⟨g, 0, none⟩), .bool true] ∧ FlAt 81 w.heap.size w' g gw c (newFS ws) ∧ Ext w w') ∨ (canF ws.length = false ∧ (∃ g, v = .tuple #[.pointer (some ⟨g, 0, none⟩), .bool false]) ∧ Ext w w')) := by
  refine calls_of_vc lok Try.func92 ?_ rfl
  conv => whnf
  refine vcReg_meet lok (fun β : Bool => [(18, .bool β)]) (fun β w' => w' = w ∧ β = !canF ws.length) [18] (fun _ => rfl) rfl ?_ ?_
  · conv => whnf
    refine bcase (fun h1 => ?_) (fun h1 => ?_)
    · have := dt h1
      conv => whnf
      exact ⟨_, ⟨rfl, trivial⟩, rfl, by unfold canF; rw [decide_eq_false (by omega)]; rfl⟩
    · have := df h1
      conv => whnf
      refine ⟨by decide, ?_⟩
      intro z hz
      have hz25 : z = ((ws.length % 256 : Nat) : Int) := by rw [hz, Int.tmod_eq_emod_of_nonneg (by omega)]; omega
      clear hz
      subst hz25
      conv => whnf
      refine bcase (fun h2 => ?_) (fun h2 => ?_)
      · have := ne_true h2
        conv => whnf
        exact ⟨_, ⟨rfl, trivial⟩, rfl, by unfold canF; rw [decide_eq_false (by omega)]; rfl⟩
      · have := ne_false h2
        conv => whnf
        refine ⟨_, ⟨rfl, trivial⟩, rfl, ?_⟩
        unfold canF
        by_cases h3 : (4096 : Int) < (ws.length : Int)
        · rw [decide_eq_true h3, decide_eq_false (by omega)]; rfl
        · rw [decide_eq_false h3, decide_eq_true (by omega)]; rfl
  rintro β w' ⟨hw', hβ⟩
  subst hw'
  conv => whnf
  refine vcCond_split lok rfl (fun h1 => ?_) (fun h1 => ?_)
  · rw [h1] at hβ
    conv => whnf
    refine ⟨_, fun w => run_build w 81 _ _ built81n, ?_⟩
    conv => whnf
    intro w1 hw1
    have x1 : Ext w' w1 := by rw [hw1]; exact Ext.new _ _
    clear hw1
    conv => whnf
    exact .inr ⟨by simpa using hβ.symm, ⟨_, rfl⟩, x1⟩
  rw [h1] at hβ
  have hcan : canF ws.length = true := by simpa using hβ.symm
  have hcl := of_decide_eq_true hcan
  conv => whnf
  have g3 := (Own.nil 42 u32v w'.heap.size w').append (ty := 37) (d := c) e32.toElem (fun _ => rfl) h (by simp; omega) (Nat.le_refl _)
  rw [List.nil_append] at g3
  obtain ⟨a3, c3, w3, hr3, ho3, hg3, _⟩ := g3
  have ea := own_some ho3 (fun e => by rw [e] at hcl; simp at hcl)
  obtain ⟨gw, ea⟩ := ea
  subst ea
  refine ⟨_, _, hr3, ?_⟩
  have x3 : Ext w' w3 := hg3.extOf (Ext.refl _) (fun g hg => by cases hg)
  conv => whnf
  refine ⟨_, fun w => run_build w 81 _ _ (built81 _ _ _), ?_⟩
  conv => whnf
  intro w4 hw4
  have k4 := FlAt.new (T := 81) (w' := w4) ho3 x3.size hw4
  exact .inl ⟨hcan, _, _, _, rfl, k4.1, x3.trans k4.2⟩

end Go.Proofs.Ytgipackjnncabaa
