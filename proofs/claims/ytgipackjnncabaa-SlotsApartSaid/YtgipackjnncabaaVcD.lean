/- Regions whose order is drawn: one walk in an order in which whatever only reads comes first serves every order. -/
import Derived.Test.YtgipackjnncabaaVcS
import Derived.Orders
set_option linter.unusedSimpArgs false
set_option linter.unusedVariables false
namespace Go.Vc
open Go.RowKit

section
variable {P : Program} {ops : Array Oper}

/-- an operation that yields a value and leaves the world alone -/
def qOp (P : Program) (ops : Array Oper) (i : Nat) (K : Act → World → Prop) (a : Act) (w : World) : Prop :=
  match ops[i]? with
  | none => K a w
  | some o => if Region.wanted o (yielded ops a.tmps) = true then ∃ v, (execOp a.eval o).run P w = .ok (.value v) w ∧ K (a.put o.dst v) w else K (a.put o.dst undef) w

/-- any other one -/
def eOp (P : Program) (ops : Array Oper) (Q : Exit → Act → World → Prop) (i : Nat) (K : Act → World → Prop) (a : Act) (w : World) : Prop :=
  match ops[i]? with
  | none => K a w
  | some o => if Region.wanted o (yielded ops a.tmps) = true then o.wp P a w K Q else K (a.put o.dst undef) w

def anyC (P : Program) (ops : Array Oper) (eff nd : Nat → Bool) (Q : Exit → Act → World → Prop) : Nat → (World → Prop) → Array Bool → Act → World → Prop
  | 0, C, listed, a, w => Region.ready .any ops listed = [] ∧ Q .normal a w
  | fuel + 1, C, listed, a, w => (Region.ready .any ops listed = [] → Q .normal a w) ∧ ∀ i ∈ Region.ready .any ops listed,
      if eff i = true then eOp P ops Q i (fun a' w' => ∃ C' : World → Prop, (∀ w, C' w → C w) ∧ (nd i = true → C' w') ∧ anyC P ops eff nd Q fuel C' (listed.setIfInBounds i true) a' w') a w
      else qOp P ops i (anyC P ops eff nd Q fuel C (listed.setIfInBounds i true)) a w

theorem wpOp_of_qOp {Q : Exit → Act → World → Prop} {i : Nat} {K K' : Act → World → Prop} {a : Act} {w : World} (h : qOp P ops i K a w) (hk : ∀ a w, K a w → K' a w) : wpOp P ops Q i K' a w := by
  unfold qOp at h
  unfold wpOp
  split
  · rename_i ho; rw [ho] at h; exact hk _ _ h
  · rename_i o ho
    rw [ho] at h
    simp only at h
    split
    · rename_i hw
      rw [if_pos hw] at h
      obtain ⟨v, hrun, h⟩ := h
      exact .inl (wp_of_value hrun (hk _ _ h))
    · rename_i hw
      rw [if_neg hw] at h
      exact hk _ _ h

theorem wpOp_of_eOp {Q : Exit → Act → World → Prop} {i : Nat} {K K' : Act → World → Prop} {a : Act} {w : World} (h : eOp P ops Q i K a w) (hk : ∀ a w, K a w → K' a w) : wpOp P ops Q i K' a w := by
  unfold eOp at h
  unfold wpOp
  split
  · rename_i ho; rw [ho] at h; exact hk _ _ h
  · rename_i o ho
    rw [ho] at h
    simp only at h
    split
    · rename_i hw
      rw [if_pos hw] at h
      exact .inl (Oper.wp_mono hk h)
    · rename_i hw
      rw [if_neg hw] at h
      exact hk _ _ h

theorem anyC_sound {eff nd : Nat → Bool} {Q : Exit → Act → World → Prop} : ∀ (fuel : Nat) (C : World → Prop) (listed : Array Bool) (a : Act) (w : World), anyC P ops eff nd Q fuel C listed a w → wpAny P .any ops Q fuel listed a w
  | 0, _, _, _, _, h => h
  | fuel + 1, C, listed, a, w, h => ⟨h.1, fun i hi => by
      have h2 := h.2 i hi
      split at h2
      · exact wpOp_of_eOp h2 fun a' w' hk => by
          obtain ⟨C', _, _, hk⟩ := hk
          exact anyC_sound fuel C' _ a' w' hk
      · exact wpOp_of_qOp h2 fun a' w' hk => anyC_sound fuel C _ a' w' hk⟩

/-- in state 'a', in every world of the class, the operation yields v -/
def YieldsIn (P : Program) (ops : Array Oper) (D : World → Prop) (o : Oper) (v : Value) (a : Act) : Prop :=
  (Region.wanted o (yielded ops a.tmps) = true ∧ ∀ w, D w → (execOp a.eval o).run P w = .ok (.value v) w) ∨ (Region.wanted o (yielded ops a.tmps) = false ∧ v = undef)

theorem YieldsIn.same {D : World → Prop} {o : Oper} {v : Value} {a a' : Act} (h : YieldsIn P ops D o v a) (he : execOp a'.eval o = execOp a.eval o) (hw : Region.wanted o (yielded ops a'.tmps) = Region.wanted o (yielded ops a.tmps)) :
    YieldsIn P ops D o v a' := by
  unfold YieldsIn at *
  rw [he, hw]; exact h

theorem YieldsIn.qOp {D : World → Prop} {i : Nat} {o : Oper} {v : Value} {a : Act} {w : World} (hi : ops[i]? = some o) (h : YieldsIn P ops D o v a) (hD : D w) {K : Act → World → Prop} (hk : K (a.put o.dst v) w) : qOp P ops i K a w := by
  unfold Vc.qOp
  rw [hi]
  simp only
  rcases h with ⟨hw, h⟩ | ⟨hw, rfl⟩
  · rw [if_pos hw]; exact ⟨v, h w hD, hk⟩
  · rw [if_neg (by rw [hw]; simp)]; exact hk

theorem qOp_put {D : World → Prop} {j : Nat} {oi oj : Oper} {v : Value} (hj : ops[j]? = some oj) (hap : oi.apart ops oj = true) (hsi : ∀ cs b, oi.op ≠ .select cs b) (hsj : ∀ cs b, oj.op ≠ .select cs b)
    {K : Act → World → Prop} {a : Act} {w : World} (hy : YieldsIn P ops D oi v a) (h : qOp P ops j K (a.put oi.dst v) w) :
    qOp P ops j (fun a' w' => w' = w ∧ YieldsIn P ops D oi v a' ∧ K (a'.put oi.dst v) w') a w := by
  obtain ⟨h1, h2, h3⟩ := Oper.apart_spec hap
  have keep : ∀ u, YieldsIn P ops D oi v (a.put oj.dst u) := fun u => hy.same (execOp_put oi hsi a oj.dst u h3) (wanted_put oi a oj.dst u h3)
  unfold qOp at *
  rw [hj] at *
  simp only at *
  rw [wanted_put oj a oi.dst v h1, execOp_put oj hsj a oi.dst v h1] at h
  split
  · rename_i hw
    rw [if_pos hw] at h
    obtain ⟨u, hrun, h⟩ := h
    exact ⟨u, hrun, trivial, keep u, by rw [← Act.put_comm a v u h2]; exact h⟩
  · rename_i hw
    rw [if_neg hw] at h
    exact ⟨trivial, keep _, by rw [← Act.put_comm a v undef h2]; exact h⟩

theorem eOp_put {D : World → Prop} {N : Act → World → Prop} {j : Nat} {oi oj : Oper} {v : Value} (hj : ops[j]? = some oj) (hap : oi.apart ops oj = true) (hsi : ∀ cs b, oi.op ≠ .select cs b) (hsj : ∀ cs b, oj.op ≠ .select cs b)
    {K : Act → World → Prop} {a : Act} {w : World} (hy : YieldsIn P ops D oi v a) (h : eOp P ops (fun e a w => e = .normal ∧ N a w) j K (a.put oi.dst v) w) :
    eOp P ops (fun e a w => e = .normal ∧ N a w) j (fun a' w' => YieldsIn P ops D oi v a' ∧ K (a'.put oi.dst v) w') a w := by
  obtain ⟨h1, h2, h3⟩ := Oper.apart_spec hap
  have keep : ∀ (a : Act), YieldsIn P ops D oi v a → ∀ u, YieldsIn P ops D oi v (a.put oj.dst u) := fun a hy u => hy.same (execOp_put oi hsi a oj.dst u h3) (wanted_put oi a oj.dst u h3)
  unfold eOp at *
  rw [hj] at *
  simp only at *
  rw [wanted_put oj a oi.dst v h1] at h
  split
  · rename_i hw
    rw [if_pos hw] at h
    unfold Oper.wp at *
    rw [execOp_put oj hsj a oi.dst v h1] at h
    generalize (execOp a.eval oj).run P w = r at *
    have back : ∀ (u : Value) (w' : World), K ((a.put oi.dst v).put oj.dst u) w' → YieldsIn P ops D oi v (a.put oj.dst u) ∧ K ((a.put oj.dst u).put oi.dst v) w' :=
      fun u w' hk => ⟨keep a hy u, by rw [← Act.put_comm a v u h2]; exact hk⟩
    cases r with
    | ok m w' =>
      cases m <;> simp only [Oper.upon] at h ⊢
      case value u => exact back u w' h
      case skip => exact back _ w' h
      case defer d =>
        refine ⟨keep { a with defers := d :: a.defers } (hy.same rfl rfl) _, ?_⟩
        rw [← Act.put_comm _ v undef h2, ← Act.put_defers]
        exact h
      case enter f args =>
        refine h.mono fun e w'' he => ?_
        cases e with
        | returned u => exact back u w'' he
        | panicked ch => exact absurd he.1 (by simp)
        | outgrown => obtain ⟨a1, w1, h1⟩ := he; exact absurd h1.1 (by simp)
      case row row args => exact h.mono fun u w'' he => back u w'' he
    | halt x w' =>
      cases x <;> simp only [Oper.upon] at h ⊢
      exact absurd h.1 (by simp)
  · rename_i hw
    rw [if_neg hw] at h
    exact ⟨keep a hy _, by rw [← Act.put_comm a v undef h2]; exact h⟩

theorem qOp_mono {i : Nat} {K K' : Act → World → Prop} {a : Act} {w : World} (h : qOp P ops i K a w) (hk : ∀ a w, K a w → K' a w) : qOp P ops i K' a w := by
  unfold qOp at *
  split
  · rename_i ho; rw [ho] at h; exact hk _ _ h
  · rename_i o ho
    rw [ho] at h
    simp only at h
    split
    · rename_i hw
      rw [if_pos hw] at h
      obtain ⟨v, hrun, h⟩ := h
      exact ⟨v, hrun, hk _ _ h⟩
    · rename_i hw
      rw [if_neg hw] at h
      exact hk _ _ h

theorem eOp_mono {Q : Exit → Act → World → Prop} {i : Nat} {K K' : Act → World → Prop} {a : Act} {w : World} (h : eOp P ops Q i K a w) (hk : ∀ a w, K a w → K' a w) : eOp P ops Q i K' a w := by
  unfold eOp at *
  split
  · rename_i ho; rw [ho] at h; exact hk _ _ h
  · rename_i o ho
    rw [ho] at h
    simp only at h
    split
    · rename_i hw
      rw [if_pos hw] at h
      exact Oper.wp_mono hk h
    · rename_i hw
      rw [if_neg hw] at h
      exact hk _ _ h

theorem wpOp_weaken {Q Q' : Exit → Act → World → Prop} {i : Nat} {K K' : Act → World → Prop} {a : Act} {w : World} (h : wpOp P ops Q i K a w) (hk : ∀ a w, K a w → K' a w) (hq : ∀ e a w, Q e a w → Q' e a w) : wpOp P ops Q' i K' a w := by
  unfold wpOp at *
  split
  · rename_i ho; rw [ho] at h; exact hk _ _ h
  · rename_i o ho
    rw [ho] at h
    simp only at h
    split
    · rename_i hw
      rw [if_pos hw] at h
      rcases h with h | ⟨h1, a1, w1, h2⟩
      · exact .inl (upon_weaken h hk hq)
      · exact .inr ⟨h1, a1, w1, hq _ _ _ h2⟩
    · rename_i hw
      rw [if_neg hw] at h
      exact hk _ _ h

theorem wpAny_weaken {Q Q' : Exit → Act → World → Prop} : ∀ (fuel : Nat) (listed : Array Bool) (a : Act) (w : World), wpAny P .any ops Q fuel listed a w → (∀ e a w, Q e a w → Q' e a w) → wpAny P .any ops Q' fuel listed a w
  | 0, _, _, _, h, hq => ⟨h.1, hq _ _ _ h.2⟩
  | fuel + 1, listed, a, w, h, hq => ⟨fun h0 => hq _ _ _ (h.1 h0), fun i hi => wpOp_weaken (h.2 i hi) (fun a w h => wpAny_weaken fuel _ a w h hq) hq⟩

theorem writes_mem {o : Oper} {d : Nat} (hd : o.dst = some d) : ∀ (os : List Oper), o ∈ os → d ∈ writes os
  | [], h => by cases h
  | o' :: os, h => by
    rcases List.mem_cons.1 h with h | h
    · subst h
      unfold writes
      rw [hd]
      exact List.mem_cons_self
    · have := writes_mem hd os h
      unfold writes
      split
      · exact List.mem_cons_of_mem _ this
      · exact this

theorem wpAny_keep {Q : Exit → Act → World → Prop} {a0 : Act} : ∀ (fuel : Nat) (listed : Array Bool) (a : Act) (w : World), (∀ t, t ∉ writes ops.toList → a.tmps[t]? = a0.tmps[t]?) → wpAny P .any ops Q fuel listed a w →
    wpAny P .any ops (fun e a' w' => Q e a' w' ∧ (e = .normal → ∀ t, t ∉ writes ops.toList → a'.tmps[t]? = a0.tmps[t]?)) fuel listed a w
  | 0, _, a, w, ha, h => ⟨h.1, h.2, fun _ => ha⟩
  | fuel + 1, listed, a, w, ha, h => by
    refine ⟨fun h0 => ⟨h.1 h0, fun _ => ha⟩, fun i hi => ?_⟩
    have h2 := h.2 i hi
    unfold wpOp at *
    split
    · rename_i ho; rw [ho] at h2; exact wpAny_keep fuel _ a w ha h2
    · rename_i o ho
      rw [ho] at h2
      simp only at h2
      have hne : ∀ t, t ∉ writes ops.toList → o.dst ≠ some t := fun t ht e => ht (writes_mem e ops.toList (by simpa using Array.mem_of_getElem? ho))
      have hout : LetsOut Q → LetsOut (fun e a' w' => Q e a' w' ∧ (e = .normal → ∀ t, t ∉ writes ops.toList → a'.tmps[t]? = a0.tmps[t]?)) := fun ⟨a1, w1, h1⟩ => ⟨a1, w1, h1, fun e => by cases e⟩
      split
      · rename_i hw
        rw [if_pos hw] at h2
        rcases h2 with h2 | ⟨h3, h4⟩
        · exact .inl (wp_keep h2 (fun a' w' ha' h' => wpAny_keep fuel _ a' w' (fun t ht => by rw [ha' t (hne t ht), ha t ht]) h') (fun ch a' w' h' => ⟨h', fun e => by cases e⟩) hout)
        · exact .inr ⟨h3, hout h4⟩
      · rename_i hw
        rw [if_neg hw] at h2
        exact wpAny_keep fuel _ _ w (fun t ht => by rw [Act.put_tmps_other a o.dst undef (hne t ht), ha t ht]) h2

/-! ### what waits for what -/
def dataEdge (e : Edge) : Bool := match e.ground with
  | .data => true
  | .guard => true
  | .chain => true
  | _ => false

def reachB (ops : Array Oper) (i : Nat) : Nat → Nat → Bool
  | 0, _ => false
  | f + 1, j => match ops[j]? with
    | none => false
    | some o => o.after.toList.any (fun e => Region.binds .any e && Nat.beq e.on i) || o.after.toList.any (fun e => Region.binds .any e && dataEdge e && reachB ops i f e.on)

def Closed (ops : Array Oper) (listed : Array Bool) : Prop :=
  ∀ j o, ops[j]? = some o → listed.getD j false = true → ∀ e ∈ o.after, Region.binds .any e = true → listed.getD e.on false = true

theorem reachB_listed {i : Nat} {listed : Array Bool} (hc : Closed ops listed) : ∀ (f j : Nat) (o : Oper), ops[j]? = some o → (∀ e ∈ o.after, Region.binds .any e = true → listed.getD e.on false = true) → reachB ops i f j = true → listed.getD i false = true
  | 0, _, _, _, _, h => by cases h
  | f + 1, j, o, ho, hall, h => by
    unfold reachB at h
    rw [ho] at h
    simp only [Bool.or_eq_true, List.any_eq_true, Bool.and_eq_true] at h
    rcases h with ⟨e, he, hb, h⟩ | ⟨e, he, ⟨hb, _⟩, h⟩
    · rw [← Nat.eq_of_beq_eq_true h]
      exact hall e (by simpa using he) hb
    · have hl := hall e (by simpa using he) hb
      cases hoe : ops[e.on]? with
      | none => unfold reachB at h; cases f <;> simp [reachB, hoe] at h
      | some o' => exact reachB_listed hc f e.on o' hoe (hc e.on o' hoe hl) h

theorem closed_set {listed : Array Bool} (hc : Closed ops listed) {j : Nat} (hj : j ∈ Region.ready .any ops listed) : Closed ops (listed.setIfInBounds j true) := by
  intro k o ho hk e he hb
  obtain ⟨_, oj, hoj, hall⟩ := mem_ready.1 hj
  by_cases e1 : j = k
  · subst e1
    rw [hoj] at ho; cases ho
    exact getD_set_true (hall e he hb)
  · rw [getD_set_ne false e1] at hk
    exact getD_set_true (hc k o ho hk e he hb)

theorem not_listed {i : Nat} {listed : Array Bool} (hi : i ∈ Region.ready .any ops listed) : ¬ listed.getD i false = true := by
  have h0 := (mem_ready.1 hi).1
  intro h1
  rcases Nat.lt_or_ge i listed.size with h' | h'
  · simp [h'] at h0 h1; rw [h0] at h1; cases h1
  · simp [Array.getElem?_eq_none h'] at h1

/-- **What only reads may be taken first.** -/
theorem anyC_take {eff nd : Nat → Bool} {D : World → Prop} {N : Act → World → Prop} {i : Nat} {oi : Oper} {v : Value} (hi : ops[i]? = some oi) (he : eff i = false)
    (hsel : ∀ (j : Nat) (o : Oper) cs b, ops[j]? = some o → o.op ≠ .select cs b)
    (hD0 : (∀ w, D w) ∨ ∀ j, eff j = true → nd j = false → ∃ f, reachB ops i f j = true) :
    ∀ (fuel : Nat) (C : World → Prop) (listed : Array Bool) (a : Act) (w : World), ((∀ w, D w) ∨ ∀ w, C w → D w) → Closed ops listed →
      (∀ j oj, ops[j]? = some oj → j ≠ i → listed.getD j true = false → (∀ e ∈ oj.after, Region.binds .any e = true → e.on ≠ i) → oi.apart ops oj = true) →
      i ∈ Region.ready .any ops listed → D w → YieldsIn P ops D oi v a →
      anyC P ops eff nd (fun e a w => e = .normal ∧ N a w) fuel C (listed.setIfInBounds i true) (a.put oi.dst v) w → anyC P ops eff nd (fun e a w => e = .normal ∧ N a w) (fuel + 1) C listed a w := by
  intro fuel
  induction fuel with
  | zero =>
    intro C listed a w hD hc _ hr hw hy H
    refine ⟨fun h => (by rw [h] at hr; cases hr), fun j hj => ?_⟩
    by_cases hji : j = i
    · subst hji
      rw [he]
      exact hy.qOp hi hw H
    · have := ready_mono hj hji
      rw [H.1] at this
      cases this
  | succ fuel ih =>
    intro C listed a w hD hc hfree hr hw hy H
    refine ⟨fun h => (by rw [h] at hr; cases hr), fun j hj => ?_⟩
    by_cases hji : j = i
    · subst hji
      rw [he]
      exact hy.qOp hi hw H
    · have h1 := H.2 j (ready_mono hj hji)
      obtain ⟨hjun, oj, hoj, hall⟩ := mem_ready.1 hj
      have hnot : ∀ e ∈ oj.after, Region.binds .any e = true → e.on ≠ i := fun e he' hb heq => by
        have h1 := hall e he' hb
        rw [heq] at h1
        exact not_listed hr h1
      have hap := hfree j oj hoj hji hjun hnot
      have hfree' : ∀ k ok, ops[k]? = some ok → k ≠ i → (listed.setIfInBounds j true).getD k true = false →
          (∀ e ∈ ok.after, Region.binds .any e = true → e.on ≠ i) → oi.apart ops ok = true := fun k ok hk hki hun hno => by
        refine hfree k ok hk hki ?_ hno
        by_cases hjk : j = k
        · subst hjk; exact hjun
        · rw [getD_set_ne true hjk] at hun; exact hun
      have next : ∀ (C' : World → Prop) a' w', ((∀ w, D w) ∨ ∀ w, C' w → D w) → D w' → YieldsIn P ops D oi v a' → anyC P ops eff nd (fun e a w => e = .normal ∧ N a w) fuel C' ((listed.setIfInBounds i true).setIfInBounds j true) (a'.put oi.dst v) w' →
          anyC P ops eff nd (fun e a w => e = .normal ∧ N a w) (fuel + 1) C' (listed.setIfInBounds j true) a' w' := by
        intro C' a' w' hD' hw' hy' H'
        refine ih C' (listed.setIfInBounds j true) a' w' hD' (closed_set hc hj) hfree' (ready_mono hr (Ne.symm hji)) hw' hy' ?_
        rw [Array.setIfInBounds_comm _ _ hji]
        exact H'
      cases hej : eff j with
      | false =>
        rw [hej] at h1
        simp only [Bool.false_eq_true, if_false] at h1 ⊢
        exact qOp_mono (qOp_put hoj hap (fun cs b => hsel i oi cs b hi) (fun cs b => hsel j oj cs b hoj) hy h1) fun a' w' ⟨e1, h2, h3⟩ => next C a' w' hD (by rw [e1]; exact hw) h2 h3
      | true =>
        rw [hej] at h1
        simp only [if_true] at h1 ⊢
        refine eOp_mono (eOp_put hoj hap (fun cs b => hsel i oi cs b hi) (fun cs b => hsel j oj cs b hoj) hy h1) fun a' w' ⟨h2, C', hsub, h3, h4⟩ => ⟨C', hsub, h3, next C' a' w' ?_ ?_ h2 h4⟩
        · rcases hD with hD | hD
          · exact .inl hD
          · exact .inr fun w h => hD w (hsub w h)
        · rcases hD with hD | hD
          · exact hD w'
          · rcases hD0 with hD0 | hreach
            · exact hD0 w'
            · cases hnd : nd j with
              | true => exact hD w' (hsub w' (h3 hnd))
              | false =>
                obtain ⟨f, hf⟩ := hreach j hej hnd
                exact absurd (reachB_listed hc f j oj hoj hall hf) (not_listed hr)

/-- The only one that may come up. -/
theorem anyC_one {eff nd : Nat → Bool} {C : World → Prop} {Q : Exit → Act → World → Prop} {i : Nat} {fuel : Nat} {listed : Array Bool} {a : Act} {w : World} (hr : Region.ready .any ops listed = [i]) (he : eff i = true)
    (h : eOp P ops Q i (fun a' w' => ∃ C' : World → Prop, (∀ w, C' w → C w) ∧ (nd i = true → C' w') ∧ anyC P ops eff nd Q fuel C' (listed.setIfInBounds i true) a' w') a w) : anyC P ops eff nd Q (fuel + 1) C listed a w := by
  refine ⟨fun h0 => (by rw [hr] at h0; cases h0), fun j hj => ?_⟩
  rw [hr] at hj
  have hji : j = i := by simpa using hj
  subst hji
  rw [he]
  exact h

/-! ### The walk in an order in which readers come first -/
variable {L : Lay} {n : Nat}

/-- an operation that reads memory: it reads the same in every world of the class -/
def vcRd (L : Lay) (P : Program) (o : Op) (E : Env) (C : World → Prop) (K : Value → Prop) : Prop :=
  match o with
  | .load t x => match ev E x with
    | some (.pointer (some ⟨b, off, none⟩)) => match L.single t with
      | true => ∃ v, (∀ w, C w → w.cell? ⟨b, off, none⟩ = some v) ∧ K v
      | false => match L.agg t with
        | some m => ∃ cs : List Value, cs.length = m ∧ (∀ w, C w → CellsAt w b off cs) ∧ K (.agg cs.toArray)
        | none => False
    | _ => False
  | .convert src dst x => match L.isBytes src, L.isStr dst with
    | true, true => match ev E x with
      | some (.slice p m c) => ∃ s, (∀ w, C w → (Conv.bytesToString (.slice p m c)).run P w = .ok (.string s) w) ∧ K (.string s)
      | _ => False
    | _, _ => False
  | _ => False

theorem vcRd_sound (hL : L.Ok P) {E : Env} {a : Act} (hr : Rep n E a) {o : Oper} {C : World → Prop} {K : Value → Prop} (h : vcRd L P o.op E C K) : ∃ v, (∀ w, C w → (execOp a.eval o).run P w = .ok (.value v) w) ∧ K v := by
  generalize ho : o.op = op at h
  cases op <;> simp only [vcRd] at h
  case load t x =>
    split at h
    · rename_i b off hx
      split at h
      · rename_i hs
        obtain ⟨v, hc, hk⟩ := h
        obtain ⟨d, hu, hd, _⟩ := hL.single _ hs
        refine ⟨v, fun w hw => ?_, hk⟩
        have hc := hc w hw
        unfold execOp
        simp [ho, ev_sound hr hx, Instr.loadAt, Instr.sureAddr, loadVar, run_isAgg hu, hd, hc]
      · split at h
        · rename_i m hm
          obtain ⟨cs, hl, hc, hk⟩ := h
          obtain ⟨d, hu, hd, i, hi, hsz⟩ := hL.agg _ _ hm
          refine ⟨.agg cs.toArray, fun w hw => ?_, hk⟩
          have hrun := run_loadCells_list (P := P) w ⟨b, off, none⟩ cs (fun j v hj => by rw [addr_add]; exact hc w hw j v hj)
          rw [hl] at hrun
          unfold execOp
          simp [ho, ev_sound hr hx, Instr.loadAt, Instr.sureAddr, loadVar, run_isAgg hu, hd, run_size hi, hsz, hrun]
        · exact h.elim
    · exact h.elim
  case convert src dst x =>
    split at h
    · rename_i hb hs
      split at h
      · rename_i p m c hx
        obtain ⟨s, hrun, hk⟩ := h
        obtain ⟨e, hu, hue⟩ := hL.isBytes _ hb
        refine ⟨.string s, fun w hw => ?_, hk⟩
        have hrun := hrun w hw
        unfold execOp
        simp [ho, ev_sound hr hx, convert, run_underlying hu, run_underlying (hL.isStr _ hs), run_underlying hue, hrun]
      · exact h.elim
    · exact h.elim
  all_goals exact h.elim

def vcE1 (L : Lay) (P : Program) (n : Nat) (C : World → Prop) (nd : List Nat) (o : Oper) (i : Nat) (E : Env) (w : World) (K : (World → Prop) → Env → World → Prop) : Prop :=
  match opClass L o.op with
  | 0 => vcOp L P o.op o.type E w fun v _ => vcPut n o.dst v E fun E' => K C E' w
  | 1 => vcRd L P o.op E C fun v => vcPut n o.dst v E fun E' => K C E' w
  | _ => vcOp L P o.op o.type E w fun v w' => match memNat nd i with
    | true => ∃ C' : World → Prop, (∀ w, C' w → C w) ∧ C' w' ∧ vcPut n o.dst v E fun E' => K C' E' w'
    | false => vcPut n o.dst v E fun E' => K C E' w'

def vcE (L : Lay) (P : Program) (n : Nat) (C : World → Prop) (nd : List Nat) (all : Array Oper) : List Nat → Env → World → (Env → World → Prop) → Prop
  | [], E, w, K => K E w
  | i :: ord, E, w, K => match all.toList[i]? with
    | none => False
    | some o => match o.guard with
      | none => vcE1 L P n C nd o i E w fun C' E' w' => vcE L P n C' nd all ord E' w' K
      | some (j, want) => match (all.toList[j]?).bind (·.dst) with
        | some d => match look E d with
          | some (.bool β) => bsel β
              (match want with
                | true => vcE1 L P n C nd o i ((d, .bool true) :: E) w fun C' E' w' => vcE L P n C' nd all ord E' w' K
                | false => vcPut n o.dst undef ((d, .bool true) :: E) fun E' => vcE L P n C nd all ord E' w K)
              (match want with
                | true => vcPut n o.dst undef ((d, .bool false) :: E) fun E' => vcE L P n C nd all ord E' w K
                | false => vcE1 L P n C nd o i ((d, .bool false) :: E) w fun C' E' w' => vcE L P n C' nd all ord E' w' K)
          | some (.tuple _) => vcPut n o.dst undef E fun E' => vcE L P n C nd all ord E' w K
          | _ => False
        | none => False

def classAt (L : Lay) (ops : Array Oper) (i : Nat) : Nat := match ops.toList[i]? with
  | some o => opClass L o.op
  | none => 0

/-- 'c': is it known that the world is of the class? -/
def eagerOk (L : Lay) (ops : Array Oper) (nd : List Nat) : Bool → List Nat → Array Bool → Bool
  | _, [], listed => (Region.ready .any ops listed).isEmpty
  | c, i :: ord, listed =>
    if Nat.ble 2 (classAt L ops i) = true then (Region.ready .any ops listed == [i]) && (!memNat nd i || c) && eagerOk L ops nd (memNat nd i) ord (listed.setIfInBounds i true)
    else (Region.ready .any ops listed).contains i && Region.free .any ops listed i && (!Nat.beq (classAt L ops i) 1 || c) && eagerOk L ops nd c ord (listed.setIfInBounds i true)

def ndOk (L : Lay) (ops : Array Oper) (nd : List Nat) : Bool :=
  (List.range ops.size).all fun j => !Nat.ble 2 (classAt L ops j) || memNat nd j || (List.range ops.size).all fun i => !Nat.beq (classAt L ops i) 1 || reachB ops i 12 j

def drawOk (L : Lay) (ops : Array Oper) (nd ord : List Nat) : Bool :=
  Region.noSelect ops && ndOk L ops nd && Nat.beq ord.length ops.size && eagerOk L ops nd true ord (Array.replicate ops.size false)

theorem anyC_of_vcE (hL : L.Ok P) {ops : Array Oper} {nd : List Nat} {N : Act → World → Prop} (hs : Region.noSelect ops = true) (hnd : ndOk L ops nd = true) :
    ∀ (ord : List Nat) (C : World → Prop) (c : Bool) (listed : Array Bool) (E : Env) (a : Act) (w : World) (K : Env → World → Prop), eagerOk L ops nd c ord listed = true → Closed ops listed → Rep n E a → (c = true → C w) →
      vcE L P n C nd ops ord E w K → (∀ E' a' w', Rep n E' a' → K E' w' → N a' w') →
      anyC P ops (fun i => Nat.ble 2 (classAt L ops i)) (fun i => memNat nd i) (fun e a w => e = .normal ∧ N a w) ord.length C listed a w
  | [], C, c, listed, E, a, w, K, hok, hc, hr, hI, h, hK => ⟨by simpa [eagerOk] using hok, rfl, hK E a w hr h⟩
  | i :: ord, C, c, listed, E, a, w, K, hok, hc, hr, hI, h, hK => by
    unfold eagerOk at hok
    unfold vcE at h
    split at h
    · exact h.elim
    rename_i o ho
    have hoi : ops[i]? = some o := by simpa using ho
    have hcl : classAt L ops i = opClass L o.op := by unfold classAt; rw [ho]
    -- not wanted
    have skip : ∀ (E : Env), Rep n E a → Region.wanted o (yielded ops a.tmps) = false → (vcPut n o.dst undef E fun E' => vcE L P n C nd ops ord E' w K) →
        anyC P ops (fun i => Nat.ble 2 (classAt L ops i)) (fun i => memNat nd i) (fun e a w => e = .normal ∧ N a w) (ord.length + 1) C listed a w := by
      intro E hr hw h
      obtain ⟨E', hr', h'⟩ := vcPut_sound hr h
      by_cases he : Nat.ble 2 (classAt L ops i) = true
      · rw [if_pos he] at hok
        simp only [Bool.and_eq_true, beq_iff_eq] at hok
        have hready : i ∈ Region.ready .any ops listed := by rw [hok.1.1]; simp
        have hCw : memNat nd i = true → C w := fun hm => hI (by simpa [hm] using hok.1.2)
        refine anyC_one hok.1.1 he ?_
        unfold eOp
        rw [hoi]
        simp only [hw, Bool.false_eq_true, if_false]
        exact ⟨C, fun _ h => h, hCw, anyC_of_vcE hL hs hnd ord C _ _ E' _ w K hok.2 (closed_set hc hready) hr' hCw h' hK⟩
      · rw [if_neg he] at hok
        simp only [Bool.and_eq_true] at hok
        have hready : i ∈ Region.ready .any ops listed := by simpa using hok.1.1.1
        refine anyC_take (D := fun _ => True) hoi (by cases hh : Nat.ble 2 (classAt L ops i) with | false => rfl | true => exact absurd hh he) (Region.noSelect_spec hs) (.inl fun _ => trivial) ord.length C listed a w (.inl fun _ => trivial) hc (Region.free_spec hoi hok.1.1.2) hready trivial (.inr ⟨hw, rfl⟩) ?_
        exact anyC_of_vcE hL hs hnd ord C _ _ E' _ w K hok.2 (closed_set hc hready) hr' hI h' hK
    have run : ∀ (E : Env), Rep n E a → Region.wanted o (yielded ops a.tmps) = true → (vcE1 L P n C nd o i E w fun C' E' w' => vcE L P n C' nd ops ord E' w' K) →
        anyC P ops (fun i => Nat.ble 2 (classAt L ops i)) (fun i => memNat nd i) (fun e a w => e = .normal ∧ N a w) (ord.length + 1) C listed a w := by
      intro E hr hw h
      unfold vcE1 at h
      split at h
      · rename_i h0
        obtain ⟨v, hrun, hk⟩ := vcOp_pure hL hr h0 h
        obtain ⟨E', hr', h'⟩ := vcPut_sound hr hk
        have he : Nat.ble 2 (classAt L ops i) = false := by rw [hcl, h0]; rfl
        rw [if_neg (by rw [he]; simp)] at hok
        simp only [Bool.and_eq_true] at hok
        have hready : i ∈ Region.ready .any ops listed := by simpa using hok.1.1.1
        refine anyC_take (D := fun _ => True) hoi he (Region.noSelect_spec hs) (.inl fun _ => trivial) ord.length C listed a w (.inl fun _ => trivial) hc (Region.free_spec hoi hok.1.1.2) hready trivial (.inl ⟨hw, fun w' _ => hrun w'⟩) ?_
        exact anyC_of_vcE hL hs hnd ord C _ _ E' _ w K hok.2 (closed_set hc hready) hr' hI h' hK
      · rename_i h1
        obtain ⟨v, hrun, hk⟩ := vcRd_sound hL hr h
        obtain ⟨E', hr', h'⟩ := vcPut_sound hr hk
        have he : Nat.ble 2 (classAt L ops i) = false := by rw [hcl, h1]; rfl
        rw [if_neg (by rw [he]; simp)] at hok
        simp only [Bool.and_eq_true] at hok
        have hready : i ∈ Region.ready .any ops listed := by simpa using hok.1.1.1
        have hCw : C w := hI (by have h2 := hok.1.2; rw [hcl, h1] at h2; simpa using h2)
        refine anyC_take (D := C) hoi he (Region.noSelect_spec hs) (.inr fun j hj hm => ?_) ord.length C listed a w (.inr fun _ h => h) hc (Region.free_spec hoi hok.1.1.2) hready hCw (.inl ⟨hw, hrun⟩) ?_
        · refine ⟨12, ?_⟩
          have hlt : ∀ k, classAt L ops k ≠ 0 → k < ops.size := by
            intro k hk
            rcases Nat.lt_or_ge k ops.size with h' | h'
            · exact h'
            · exact absurd (by unfold classAt; rw [List.getElem?_eq_none (by simpa using h')]) hk
          have hj2 := hlt j (by intro e; rw [e] at hj; cases hj)
          have hi2 := hlt i (by rw [hcl, h1]; simp)
          have h2 := List.all_eq_true.1 hnd j (List.mem_range.2 hj2)
          simp only [hj, hm, Bool.not_true, Bool.false_or] at h2
          have h3 := List.all_eq_true.1 h2 i (List.mem_range.2 hi2)
          simpa [hcl, h1] using h3
        · exact anyC_of_vcE hL hs hnd ord C _ _ E' _ w K hok.2 (closed_set hc hready) hr' hI h' hK
      · rename_i h0 h1
        have he : Nat.ble 2 (classAt L ops i) = true := by
          rw [hcl]
          apply Nat.ble_eq_true_of_le
          match hk : opClass L o.op with
          | 0 => exact absurd hk h0
          | 1 => exact absurd hk h1
          | k + 2 => omega
        rw [if_pos he] at hok
        simp only [Bool.and_eq_true, beq_iff_eq] at hok
        have hready : i ∈ Region.ready .any ops listed := by rw [hok.1.1]; simp
        refine anyC_one hok.1.1 he ?_
        unfold eOp
        rw [hoi]
        simp only [hw, if_true]
        refine vcOp_sound hL hr h fun v w' hv => ?_
        split at hv
        · rename_i hm
          obtain ⟨C', hsub, hCw, hv⟩ := hv
          obtain ⟨E', hr', h'⟩ := vcPut_sound hr hv
          exact ⟨C', hsub, fun _ => hCw, anyC_of_vcE hL hs hnd ord C' _ _ E' _ w' K hok.2 (closed_set hc hready) hr' (fun _ => hCw) h' hK⟩
        · rename_i hm
          obtain ⟨E', hr', h'⟩ := vcPut_sound hr hv
          exact ⟨C, fun _ h => h, (fun e => by rw [hm] at e; cases e), anyC_of_vcE hL hs hnd ord C _ _ E' _ w' K hok.2 (closed_set hc hready) hr' (fun e => by rw [hm] at e; cases e) h' hK⟩
    split at h
    · rename_i hg
      exact run E hr (by simp [Region.wanted, hg]) h
    · rename_i j want hg
      split at h
      · rename_i d hd
        split at h
        · rename_i β hv
          have hy := yielded_of hr hd hv
          have hw : Region.wanted o (yielded ops a.tmps) = (β == want) := by
            simp only [Region.wanted, hg, hy]
            cases β <;> cases want <;> rfl
          have h2 := bsel_elim h
          clear h
          rcases h2 with ⟨hβ, h⟩ | ⟨hβ, h⟩ <;> subst hβ
          · cases want
            · exact skip _ (hr.again hv) (by rw [hw]; rfl) h
            · exact run _ (hr.again hv) (by rw [hw]; rfl) h
          · cases want
            · exact run _ (hr.again hv) (by rw [hw]; rfl) h
            · exact skip _ (hr.again hv) (by rw [hw]; rfl) h
        · rename_i vs hv
          have hy := yielded_of hr hd hv
          exact skip _ hr (by simp only [Region.wanted, hg, hy]; rfl) h
        · exact h.elim
      · exact h.elim


theorem drawOk_spec {ops : Array Oper} {nd ord : List Nat} (h : drawOk L ops nd ord = true) : Region.noSelect ops = true ∧ ndOk L ops nd = true ∧ ord.length = ops.size ∧ eagerOk L ops nd true ord (Array.replicate ops.size false) = true := by
  simp only [drawOk, Bool.and_eq_true] at h
  exact ⟨h.1.1.1, h.1.1.2, Nat.eq_of_beq_eq_true h.1.2, h.2⟩

theorem closed_none (ops : Array Oper) : Closed ops (Array.replicate ops.size false) := by
  intro j o hj h
  have hlt : j < ops.size := (Array.getElem?_eq_some_iff.1 hj).1
  simp [hlt] at h

theorem wpAny_draw (hL : L.Ok P) {ops : Array Oper} {C : World → Prop} {nd ord : List Nat} (hok : drawOk L ops nd ord = true) {E : Env} {a : Act} {w : World} (hr : Rep n E a) (hC : C w) {K : Env → World → Prop} {N : Act → World → Prop}
    (h : vcE L P n C nd ops ord E w K) (hK : ∀ E' a' w', Rep n E' a' → K E' w' → N a' w') : wpAny P .any ops (fun e a w => e = .normal ∧ N a w) ops.size (Array.replicate ops.size false) a w := by
  obtain ⟨h1, h2, h3, h4⟩ := drawOk_spec hok
  have := anyC_sound _ _ _ _ _ (anyC_of_vcE hL h1 h2 ord C true _ E a w K h4 (closed_none ops) hr (fun _ => hC) h hK)
  rwa [h3] at this

/-- **A region that draws its order, walked in one order.** -/
theorem vcDraw_go (hL : L.Ok P) (hm : P.follows .mixedOrders = true) (C : World → Prop) (nd ord : List Nat) {id : Nat} {ops : Array Oper} {E : Env} {w : World} {Q : Exit → Env → World → Prop} (hok : drawOk L ops nd ord = true)
    (h : ∀ w1, w1 = w.drew → C w1 ∧ vcE L P n C nd ops ord E w1 fun E' w' => Q .normal E' w') : vcDraw P n id ops E w Q := by
  unfold vcDraw
  intro a hr
  obtain ⟨hC, h⟩ := h _ rfl
  refine wp_region_any hm ?_
  have := wpAny_draw hL hok hr hC h fun E' a' w' hr' hq => (⟨E', hr', hq⟩ : lift n Q .normal a' w')
  exact wpAny_weaken _ _ _ _ this fun e a w ⟨he, h⟩ => by subst he; exact h

/-- The same; the ways through it meet again behind it. -/
theorem vcDraw_meet (hL : L.Ok P) (hm : P.follows .mixedOrders = true) (C : World → Prop) (nd ord : List Nat) {σ : Type} (new : σ → Env) (I : σ → World → Prop) (ns : List Nat)
    {id : Nat} {ops : Array Oper} {E : Env} {w : World} {Q : Exit → Env → World → Prop} (hns : ∀ s, (new s).map (·.1) = ns) (hst : staleOk E ns (writes ops.toList) = true) (hok : drawOk L ops nd ord = true)
    (h1 : ∀ w1, w1 = w.drew → C w1 ∧ vcE L P n C nd ops ord E w1 fun E' w' => ∃ s, subE (new s) E' ∧ I s w') (h2 : ∀ s w', I s w' → Q .normal (new s ++ E) w') : vcDraw P n id ops E w Q := by
  unfold vcDraw
  intro a hr
  obtain ⟨hC, h⟩ := h1 _ rfl
  refine wp_region_any hm ?_
  have h3 := wpAny_draw (N := fun a' w' => ∃ E', Rep n E' a' ∧ ∃ s, subE (new s) E' ∧ I s w') hL hok hr hC h fun E' a' w' hr' hq => ⟨E', hr', hq⟩
  refine wpAny_weaken _ _ _ _ (wpAny_keep (a0 := a) _ _ _ _ (fun _ _ => rfl) h3) ?_
  rintro e a' w' ⟨⟨rfl, E', hr', s, hsub, hI⟩, hk⟩
  refine ⟨new s ++ E, ⟨hr'.size, hr'.defers, fun t v hv => ?_⟩, h2 s w' hI⟩
  rw [look_append] at hv
  split at hv
  · rename_i u hu
    exact hr'.vals t v (subE_sound hsub t v (by rw [hu]; exact hv))
  · rename_i hu
    have ht : t ∉ writes ops.toList := by
      intro ht
      rcases staleOk_spec hst t ht with h | h
      · rw [← hns s] at h
        obtain ⟨u, h⟩ := memNat_look h
        rw [hu] at h; cases h
      · rw [hv] at h; cases h
    rw [hk rfl t ht]
    exact hr.vals t v hv

end
end Go.Vc
