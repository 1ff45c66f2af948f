/- Regions whose order is drawn, with several operations ready that write: a tree of orders, each walked. -/
import Derived.Test.YtgipackjnncabaaVcD
set_option linter.unusedSimpArgs false
set_option linter.unusedVariables false
namespace Go.Vc
open Go.RowKit

/-- a tree of orders: 'one', an operation that goes first; 'alt i t u', either i first, and then t, or another one, in u; 'nope': there is no other one -/
inductive Tr where
  | fin
  | one (i : Nat) (t : Tr)
  | alt (i : Nat) (t u : Tr)
  | nope

section
variable {P : Program} {L : Lay} {n : Nat}

def vcT (L : Lay) (P : Program) (n : Nat) (nd : List Nat) (all : Array Oper) : Tr → (World → Prop) → Env → World → (Env → World → Prop) → Prop
  | .fin, C, E, w, K => K E w
  | .nope, C, E, w, K => True
  | .one i t, C, E, w, K => match all.toList[i]? with
    | none => False
    | some o => match o.guard with
      | none => vcE1 L P n C nd o i E w fun C' E' w' => vcT L P n nd all t C' E' w' K
      | some _ => False
  | .alt i t u, C, E, w, K => (match all.toList[i]? with
    | none => False
    | some o => match o.guard with
      | none => vcE1 L P n C nd o i E w fun C' E' w' => vcT L P n nd all t C' E' w' K
      | some _ => False) ∧ vcT L P n nd all u C E w K

def eagerT (L : Lay) (ops : Array Oper) (nd : List Nat) : Tr → Nat → Bool → Option (List Nat) → Array Bool → Bool
  | .fin, f, c, none, listed => (Region.ready .any ops listed).isEmpty
  | .fin, f, c, some _, listed => false
  | .nope, f, c, some [], listed => true
  | .nope, f, c, _, listed => false
  | .one i t, f + 1, c, none, listed =>
    if Nat.ble 2 (classAt L ops i) = true then (Region.ready .any ops listed == [i]) && (!memNat nd i || c) && eagerT L ops nd t f (memNat nd i) none (listed.setIfInBounds i true)
    else (Region.ready .any ops listed).contains i && Region.free .any ops listed i && (!Nat.beq (classAt L ops i) 1 || c) && eagerT L ops nd t f c none (listed.setIfInBounds i true)
  | .one i t, _, _, _, _ => false
  | .alt i t u, f + 1, c, m, listed => match m.getD (Region.ready .any ops listed) with
    | j :: r => Nat.beq i j && Nat.ble 2 (classAt L ops i) && (!memNat nd i || c) && eagerT L ops nd t f (memNat nd i) none (listed.setIfInBounds i true) && eagerT L ops nd u (f + 1) c (some r) listed
    | [] => false
  | .alt _ _ _, 0, _, _, _ => false

/-- the step of an operation that may write -/
theorem eOp_of_vcE1 (hL : L.Ok P) {ops : Array Oper} {nd : List Nat} {i : Nat} {o : Oper} {C : World → Prop} {E : Env} {a : Act} {w : World} {Q : Exit → Act → World → Prop} {A : (World → Prop) → Act → World → Prop} {K : (World → Prop) → Env → World → Prop}
    (hoi : ops[i]? = some o) (hg : o.guard = none) (he : Nat.ble 2 (classAt L ops i) = true) (hr : Rep n E a)
    (h : vcE1 L P n C nd o i E w K)
    (hK : ∀ C' E' a' w', (memNat nd i = true → C' w') → Rep n E' a' → K C' E' w' → A C' a' w') :
    eOp P ops Q i (fun a' w' => ∃ C' : World → Prop, (∀ w, C' w → C w) ∧ (memNat nd i = true → C' w') ∧ A C' a' w') a w := by
  have hcl : classAt L ops i = opClass L o.op := by unfold classAt; rw [show ops.toList[i]? = some o by simpa using hoi]
  unfold eOp
  rw [hoi]
  have hw : Region.wanted o (yielded ops a.tmps) = true := by simp [Region.wanted, hg]
  simp only [hw, if_true]
  unfold vcE1 at h
  split at h
  · rename_i h0; rw [hcl, h0] at he; cases he
  · rename_i h0; rw [hcl, h0] at he; cases he
  · refine vcOp_sound hL hr h fun v w' hv => ?_
    split at hv
    · rename_i hm
      obtain ⟨C', hsub, hCw, hv⟩ := hv
      obtain ⟨E', hr', h'⟩ := vcPut_sound hr hv
      exact ⟨C', hsub, fun _ => hCw, hK C' E' _ w' (fun _ => hCw) hr' h'⟩
    · rename_i hm
      obtain ⟨E', hr', h'⟩ := vcPut_sound hr hv
      exact ⟨C, fun _ h => h, (fun e => by rw [hm] at e; cases e), hK C E' _ w' (fun e => by rw [hm] at e; cases e) hr' h'⟩

theorem anyC_of_vcT (hL : L.Ok P) {ops : Array Oper} {nd : List Nat} {N : Act → World → Prop} (hs : Region.noSelect ops = true) (hnd : ndOk L ops nd = true) {K : Env → World → Prop} (hK : ∀ E' a' w', Rep n E' a' → K E' w' → N a' w') :
    ∀ (t : Tr) (f : Nat) (C : World → Prop) (c : Bool) (m : Option (List Nat)) (listed : Array Bool) (E : Env) (a : Act) (w : World), eagerT L ops nd t f c m listed = true → Closed ops listed → Rep n E a → (c = true → C w) →
      (∀ r, m = some r → ∀ i ∈ r, i ∈ Region.ready .any ops listed) → vcT L P n nd ops t C E w K →
      (m = none → anyC P ops (fun i => Nat.ble 2 (classAt L ops i)) (fun i => memNat nd i) (fun e a w => e = .normal ∧ N a w) f C listed a w) ∧
      (∀ r, m = some r → ∀ i ∈ r, Nat.ble 2 (classAt L ops i) = true ∧ ∃ f', f = f' + 1 ∧ eOp P ops (fun e a w => e = .normal ∧ N a w) i (fun a' w' => ∃ C' : World → Prop, (∀ w, C' w → C w) ∧ (memNat nd i = true → C' w') ∧
        anyC P ops (fun i => Nat.ble 2 (classAt L ops i)) (fun i => memNat nd i) (fun e a w => e = .normal ∧ N a w) f' C' (listed.setIfInBounds i true) a' w') a w)
  | .fin, f, C, c, m, listed, E, a, w, hok, hc, hr, hI, hm, h => by
    refine ⟨fun e => ?_, fun r e => ?_⟩
    · subst e
      have h0 : Region.ready .any ops listed = [] := by
        unfold eagerT at hok
        simpa using hok
      cases f with
      | zero => exact ⟨h0, rfl, hK E a w hr h⟩
      | succ f => exact ⟨fun _ => ⟨rfl, hK E a w hr h⟩, fun i hi => by rw [h0] at hi; cases hi⟩
    · subst e
      unfold eagerT at hok
      cases hok
  | .nope, f, C, c, m, listed, E, a, w, hok, hc, hr, hI, hm, h => by
    cases m with
    | none => unfold eagerT at hok; cases hok
    | some r =>
      cases r with
      | nil => exact ⟨fun e => (by cases e), fun r e i hi => (by cases e; cases hi)⟩
      | cons j r => unfold eagerT at hok; cases hok
  | .one i t, f, C, c, m, listed, E, a, w, hok, hc, hr, hI, hm, h => by
    cases m with
    | some r => cases f <;> (unfold eagerT at hok; cases hok)
    | none =>
    cases f with
    | zero => unfold eagerT at hok; cases hok
    | succ f =>
    refine ⟨fun _ => ?_, fun r e => by cases e⟩
    unfold eagerT at hok
    unfold vcT at h
    split at h
    · exact h.elim
    rename_i o ho
    split at h
    rotate_left
    · exact h.elim
    rename_i hg
    have hoi : ops[i]? = some o := by simpa using ho
    have hcl : classAt L ops i = opClass L o.op := by unfold classAt; rw [ho]
    have hw : Region.wanted o (yielded ops a.tmps) = true := by simp [Region.wanted, hg]
    by_cases he : Nat.ble 2 (classAt L ops i) = true
    · rw [if_pos he] at hok
      simp only [Bool.and_eq_true, beq_iff_eq] at hok
      have hready : i ∈ Region.ready .any ops listed := by rw [hok.1.1]; simp
      refine anyC_one hok.1.1 he (eOp_of_vcE1 hL hoi hg he hr h fun C' E' a' w' hC' hr' h' => ?_)
      exact (anyC_of_vcT hL hs hnd hK t f C' (memNat nd i) none _ E' a' w' hok.2 (closed_set hc hready) hr' hC' (fun r e => by cases e) h').1 rfl
    · rw [if_neg he] at hok
      simp only [Bool.and_eq_true] at hok
      have hready : i ∈ Region.ready .any ops listed := by simpa using hok.1.1.1
      have he' : Nat.ble 2 (classAt L ops i) = false := by cases hh : Nat.ble 2 (classAt L ops i) with | false => rfl | true => exact absurd hh he
      unfold vcE1 at h
      split at h
      · rename_i h0
        obtain ⟨v, hrun, hk⟩ := vcOp_pure hL hr h0 h
        obtain ⟨E', hr', h'⟩ := vcPut_sound hr hk
        refine anyC_take (D := fun _ => True) hoi he' (Region.noSelect_spec hs) (.inl fun _ => trivial) f C listed a w (.inl fun _ => trivial) hc (Region.free_spec hoi hok.1.1.2) hready trivial (.inl ⟨hw, fun w' _ => hrun w'⟩) ?_
        exact (anyC_of_vcT hL hs hnd hK t f C c none _ E' _ w hok.2 (closed_set hc hready) hr' hI (fun r e => by cases e) h').1 rfl
      · rename_i h1
        obtain ⟨v, hrun, hk⟩ := vcRd_sound hL hr h
        obtain ⟨E', hr', h'⟩ := vcPut_sound hr hk
        have hCw : C w := hI (by have h2 := hok.1.2; rw [hcl, h1] at h2; simpa using h2)
        refine anyC_take (D := C) hoi he' (Region.noSelect_spec hs) (.inr fun j hj hm => ?_) f C listed a w (.inr fun _ h => h) hc (Region.free_spec hoi hok.1.1.2) hready hCw (.inl ⟨hw, hrun⟩) ?_
        · refine ⟨12, ?_⟩
          have hlt : ∀ k, classAt L ops k ≠ 0 → k < ops.size := by
            intro k hk
            rcases Nat.lt_or_ge k ops.size with h' | h'
            · exact h'
            · exact absurd (by unfold classAt; rw [List.getElem?_eq_none (by simpa using h')]) hk
          have hj2 := hlt j (by intro e; rw [e] at hj; cases hj)
          have hi2 := hlt i (by rw [hcl, h1]; simp)
          have h2 := List.all_eq_true.1 hnd j (List.mem_range.2 hj2)
          simp only [hj, hm, Bool.not_true, Bool.false_or] at h2
          have h3 := List.all_eq_true.1 h2 i (List.mem_range.2 hi2)
          simpa [hcl, h1] using h3
        · exact (anyC_of_vcT hL hs hnd hK t f C c none _ E' _ w hok.2 (closed_set hc hready) hr' hI (fun r e => by cases e) h').1 rfl
      · rename_i h0 h1
        refine absurd ?_ he
        rw [hcl]
        apply Nat.ble_eq_true_of_le
        match hk : opClass L o.op with
        | 0 => exact absurd hk h0
        | 1 => exact absurd hk h1
        | k + 2 => omega
  | .alt i t u, f, C, c, m, listed, E, a, w, hok, hc, hr, hI, hm, h => by
    cases f with
    | zero => unfold eagerT at hok; cases hok
    | succ f =>
    unfold eagerT at hok
    unfold vcT at h
    obtain ⟨h, hu⟩ := h
    split at h
    · exact h.elim
    rename_i o ho
    split at h
    rotate_left
    · exact h.elim
    rename_i hg
    have hoi : ops[i]? = some o := by simpa using ho
    split at hok
    rotate_left
    · cases hok
    rename_i j r hrest
    simp only [Bool.and_eq_true] at hok
    obtain ⟨⟨⟨⟨hij, he⟩, hcd⟩, hokt⟩, hoku⟩ := hok
    have hij := Nat.eq_of_beq_eq_true hij
    subst hij
    have hall : ∀ k ∈ i :: r, k ∈ Region.ready .any ops listed := by
      cases m with
      | none =>
        simp only [Option.getD_none] at hrest
        intro k hk
        rw [hrest]; exact hk
      | some r' =>
        simp only [Option.getD_some] at hrest
        intro k hk
        exact hm r' rfl k (by rw [hrest]; exact hk)
    have hready := hall i List.mem_cons_self
    have one : Nat.ble 2 (classAt L ops i) = true ∧ ∃ f', f + 1 = f' + 1 ∧ eOp P ops (fun e a w => e = .normal ∧ N a w) i (fun a' w' => ∃ C' : World → Prop, (∀ w, C' w → C w) ∧ (memNat nd i = true → C' w') ∧
        anyC P ops (fun i => Nat.ble 2 (classAt L ops i)) (fun i => memNat nd i) (fun e a w => e = .normal ∧ N a w) f' C' (listed.setIfInBounds i true) a' w') a w :=
      ⟨he, f, rfl, eOp_of_vcE1 hL hoi hg he hr h fun C' E' a' w' hC' hr' h' =>
        (anyC_of_vcT hL hs hnd hK t f C' (memNat nd i) none _ E' a' w' hokt (closed_set hc hready) hr' hC' (fun r e => by cases e) h').1 rfl⟩
    have oth := (anyC_of_vcT hL hs hnd hK u (f + 1) C c (some r) listed E a w hoku hc hr hI (fun r' e k hk => by cases e; exact hall k (List.mem_cons_of_mem _ hk)) hu).2 r rfl
    have both : ∀ k ∈ i :: r, Nat.ble 2 (classAt L ops k) = true ∧ ∃ f', f + 1 = f' + 1 ∧ eOp P ops (fun e a w => e = .normal ∧ N a w) k (fun a' w' => ∃ C' : World → Prop, (∀ w, C' w → C w) ∧ (memNat nd k = true → C' w') ∧
        anyC P ops (fun i => Nat.ble 2 (classAt L ops i)) (fun i => memNat nd i) (fun e a w => e = .normal ∧ N a w) f' C' (listed.setIfInBounds k true) a' w') a w := by
      intro k hk
      rcases List.mem_cons.1 hk with e | hk
      · subst e; exact one
      · exact oth k hk
    cases m with
    | none =>
      simp only [Option.getD_none] at hrest
      refine ⟨fun _ => ⟨fun h0 => (by rw [h0] at hrest; cases hrest), fun k hk => ?_⟩, fun r e => by cases e⟩
      rw [hrest] at hk
      obtain ⟨h1, f', hf, h2⟩ := both k hk
      cases hf
      show (if Nat.ble 2 (classAt L ops k) = true then _ else _)
      rw [if_pos h1]
      exact h2
    | some r' =>
      simp only [Option.getD_some] at hrest
      refine ⟨fun e => (by cases e), fun r'' e k hk => ?_⟩
      cases e
      rw [hrest] at hk
      exact both k hk

def drawTOk (L : Lay) (ops : Array Oper) (nd : List Nat) (t : Tr) : Bool :=
  Region.noSelect ops && ndOk L ops nd && eagerT L ops nd t ops.size true none (Array.replicate ops.size false)

theorem vcDrawT_meet (hL : L.Ok P) (hm : P.follows .mixedOrders = true) (C : World → Prop) (nd : List Nat) (t : Tr) {σ : Type} (new : σ → Env) (I : σ → World → Prop) (ns : List Nat)
    {id : Nat} {ops : Array Oper} {E : Env} {w : World} {Q : Exit → Env → World → Prop} (hns : ∀ s, (new s).map (·.1) = ns) (hst : staleOk E ns (writes ops.toList) = true) (hok : drawTOk L ops nd t = true)
    (h1 : ∀ w1, w1 = w.drew → C w1 ∧ vcT L P n nd ops t C E w1 fun E' w' => ∃ s, subE (new s) E' ∧ I s w') (h2 : ∀ s w', I s w' → Q .normal (new s ++ E) w') : vcDraw P n id ops E w Q := by
  unfold vcDraw
  intro a hr
  obtain ⟨hC, h⟩ := h1 _ rfl
  refine wp_region_any hm ?_
  simp only [drawTOk, Bool.and_eq_true] at hok
  have h3 := anyC_sound _ _ _ _ _ ((anyC_of_vcT (N := fun a' w' => ∃ E', Rep n E' a' ∧ ∃ s, subE (new s) E' ∧ I s w') hL hok.1.1 hok.1.2 (fun E' a' w' hr' hq => ⟨E', hr', hq⟩) t ops.size C true none _ E a _ hok.2 (closed_none ops) hr (fun _ => hC) (fun r e => by cases e) h).1 rfl)
  refine wpAny_weaken _ _ _ _ (wpAny_keep (a0 := a) _ _ _ _ (fun _ _ => rfl) h3) ?_
  rintro e a' w' ⟨⟨rfl, E', hr', s, hsub, hI⟩, hk⟩
  refine ⟨new s ++ E, ⟨hr'.size, hr'.defers, fun t v hv => ?_⟩, h2 s w' hI⟩
  rw [look_append] at hv
  split at hv
  · rename_i u hu
    exact hr'.vals t v (subE_sound hsub t v (by rw [hu]; exact hv))
  · rename_i hu
    have ht : t ∉ writes ops.toList := by
      intro ht
      rcases staleOk_spec hst t ht with h | h
      · rw [← hns s] at h
        obtain ⟨u, h⟩ := memNat_look h
        rw [hu] at h; cases h
      · rw [hv] at h; cases h
    rw [hk rfl t ht]
    exact hr.vals t v hv
end
end Go.Vc
