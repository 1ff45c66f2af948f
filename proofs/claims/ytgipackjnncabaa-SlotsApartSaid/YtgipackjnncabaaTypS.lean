/- The types' table facts that the generator asks for hold of the program of this seat. -/
import Derived.Test.YtgipackjnncabaaTyp
import Derived.Test.YtgipackjnncabaaVcS
import Derived.KernelRfl
namespace Go.Proofs.Ytgipackjnncabaa
open Go.Vc

theorem getN_mem {α : Type} : ∀ {l : List (Nat × α)} {t : Nat} {v : α}, getN l t = some v → (t, v) ∈ l
  | (a, u) :: l, t, v, h => by
    simp only [getN] at h
    split at h
    · rename_i hb
      cases Nat.eq_of_beq_eq_true hb
      cases h
      exact List.mem_cons_self
    · exact List.mem_cons_of_mem _ (getN_mem h)
theorem memN_mem : ∀ {l : List Nat} {t : Nat}, memN l t = true → t ∈ l
  | a :: l, t, h => by
    simp only [memN] at h
    split at h
    · rename_i hb
      cases Nat.eq_of_beq_eq_true hb
      exact List.mem_cons_self
    · exact List.mem_cons_of_mem _ (memN_mem h)
theorem getNN_mem : ∀ {l : List (Nat × List Nat)} {t f v : Nat}, getNN l t f = some v → ∃ os, (t, os) ∈ l ∧ os[f]? = some v
  | (a, u) :: l, t, f, v, h => by
    simp only [getNN] at h
    split at h
    · rename_i hb
      cases Nat.eq_of_beq_eq_true hb
      exact ⟨u, List.mem_cons_self, h⟩
    · obtain ⟨os, h1, h2⟩ := getNN_mem h
      exact ⟨os, List.mem_cons_of_mem _ h1, h2⟩

def kindB (P : Program) (p : Nat × IntKind) : Bool := match P.underlying p.1 with
  | some (.int k) => Nat.beq (kn k) (kn p.2)
  | _ => false
def singleB (P : Program) (t : Nat) : Bool := match P.underlying t, P.info? t with
  | some d, some i => !isAggD d && Nat.beq i.size 1
  | _, _ => false
def aggB (P : Program) (p : Nat × Nat) : Bool := match P.underlying p.1, P.info? p.1 with
  | some d, some i => isAggD d && Nat.beq i.size p.2
  | _, _ => false
def fieldB (P : Program) (p : Nat × List Nat) : Bool := match P.underlying p.1 with
  | some (.struct fs) => (List.range p.2.length).all fun f => match fs[f]?, p.2[f]? with
    | some fd, some o => Nat.beq fd.offset o && (match P.info? fd.type with | some i => !Nat.beq i.size 0 | none => false)
    | _, _ => false
  | _ => false
def sliceB (P : Program) (p : Nat × Nat) : Bool := match P.underlying p.1 with
  | some (.slice e) => (match P.info? e with | some i => Nat.beq i.size p.2 | none => false)
  | _ => false
def arrB (P : Program) (p : Nat × (Nat × Nat)) : Bool := match P.underlying p.1 with
  | some (.array n e) => Nat.beq n p.2.1 && (match P.info? e with | some i => Nat.beq i.size p.2.2 | none => false)
  | _ => false
def boolB (P : Program) (t : Nat) : Bool := match P.underlying t with
  | some .bool => true
  | _ => false
def ptrB (P : Program) (t : Nat) : Bool := match P.underlying t with
  | some (.pointer _) => true
  | _ => false
def strB (P : Program) (t : Nat) : Bool := match P.underlying t with
  | some .string => true
  | _ => false
def bytesB (P : Program) (t : Nat) : Bool := match P.underlying t with
  | some (.slice e) => (match P.underlying e with | some (.int .u8) => true | _ => false)
  | _ => false
def callB (P : Program) (f : Nat) : Bool := match P.funcs[f]? with
  | some fn => !(fn.name == "runtime.NumGoroutine") && !fn.body.isNone
  | none => false

theorem boolB_spec {P : Program} {t : Nat} (h : boolB P t = true) : P.underlying t = some .bool := by
  unfold boolB at h
  generalize P.underlying t = d at *
  split at h
  · rfl
  · cases h
theorem strB_spec {P : Program} {t : Nat} (h : strB P t = true) : P.underlying t = some .string := by
  unfold strB at h
  generalize P.underlying t = d at *
  split at h
  · rfl
  · cases h
theorem ptrB_spec {P : Program} {t : Nat} (h : ptrB P t = true) : ∃ e, P.underlying t = some (.pointer e) := by
  unfold ptrB at h
  generalize P.underlying t = d at *
  split at h
  · exact ⟨_, rfl⟩
  · cases h
theorem bytesB_spec {P : Program} {t : Nat} (h : bytesB P t = true) : ∃ e, P.underlying t = some (.slice e) ∧ P.underlying e = some (.int .u8) := by
  unfold bytesB at h
  generalize hd : P.underlying t = d at *
  split at h
  · rename_i e
    refine ⟨e, rfl, ?_⟩
    generalize P.underlying e = d2 at *
    split at h
    · rfl
    · cases h
  · cases h

theorem kinds_ok : kinds.all (kindB Try.prog) = true := by kernel_rfl
theorem singles_ok : singles.all (singleB Try.prog) = true := by kernel_rfl
theorem aggs_ok : aggs.all (aggB Try.prog) = true := by kernel_rfl
theorem fields_ok : fieldsL.all (fieldB Try.prog) = true := by kernel_rfl
theorem slices_ok : slices.all (sliceB Try.prog) = true := by kernel_rfl
theorem arrs_ok : arrs.all (arrB Try.prog) = true := by kernel_rfl
theorem bools_ok : bools.all (boolB Try.prog) = true := by kernel_rfl
theorem ptrs_ok : ptrs.all (ptrB Try.prog) = true := by kernel_rfl
theorem strs_ok : strs.all (strB Try.prog) = true := by kernel_rfl
theorem bytes_ok : bytesL.all (bytesB Try.prog) = true := by kernel_rfl
theorem calls_ok : ((List.range 186).drop 3).all (callB Try.prog) = true := by kernel_rfl
theorem zeros_map : zeros.map (fun p => (Try.prog.info? p.1).bind (·.zero)) = zeros.map (fun p => some p.2) := by kernel_rfl

theorem zeros_ok : ∀ p ∈ zeros, (Try.prog.info? p.1).bind (·.zero) = some p.2 := by
  intro p hp
  obtain ⟨i, hi, rfl⟩ := List.getElem_of_mem hp
  have h := zeros_map
  have h2 : (zeros.map (fun p => (Try.prog.info? p.1).bind (·.zero)))[i]? = (zeros.map (fun p => some p.2))[i]? := by rw [h]
  simpa [hi] using h2

theorem lok : lay.Ok Try.prog where
  kind t k h := by
    have h2 := List.all_eq_true.1 kinds_ok _ (getN_mem h)
    unfold kindB at h2
    split at h2
    · rename_i k' hu; rw [hu, kn_inj h2]
    · cases h2
  single t h := by
    have h2 := List.all_eq_true.1 singles_ok _ (memN_mem h)
    unfold singleB at h2
    split at h2
    · rename_i d i hu hi
      simp only [Bool.and_eq_true, Bool.not_eq_true'] at h2
      exact ⟨d, hu, h2.1, i, hi, Nat.eq_of_beq_eq_true h2.2⟩
    · cases h2
  agg t n h := by
    have h2 := List.all_eq_true.1 aggs_ok _ (getN_mem h)
    unfold aggB at h2
    split at h2
    · rename_i d i hu hi
      simp only [Bool.and_eq_true] at h2
      exact ⟨d, hu, h2.1, i, hi, Nat.eq_of_beq_eq_true h2.2⟩
    · cases h2
  field t f off h := by
    obtain ⟨os, hm, ho⟩ := getNN_mem h
    have h2 := List.all_eq_true.1 fields_ok _ hm
    unfold fieldB at h2
    split at h2
    · rename_i fs hu
      have hlt : f < os.length := by
        rcases Nat.lt_or_ge f os.length with h' | h'
        · exact h'
        · simp [List.getElem?_eq_none h'] at ho
      have h3 := List.all_eq_true.1 h2 f (List.mem_range.2 hlt)
      simp only at h3
      split at h3
      · rename_i fd o hfd hos
        simp only [Bool.and_eq_true] at h3
        obtain ⟨h4, h5⟩ := h3
        split at h5
        · rename_i i hi
          rw [ho] at hos
          cases hos
          refine ⟨fs, fd, hu, hfd, Nat.eq_of_beq_eq_true h4, i, hi, fun e => ?_⟩
          simp [e] at h5
        · cases h5
      · cases h3
    · cases h2
  slice t s h := by
    have h2 := List.all_eq_true.1 slices_ok _ (getN_mem h)
    unfold sliceB at h2
    split at h2
    · rename_i e hu
      split at h2
      · rename_i i hi; exact ⟨e, hu, i, hi, Nat.eq_of_beq_eq_true h2⟩
      · cases h2
    · cases h2
  arr t n s h := by
    have h2 := List.all_eq_true.1 arrs_ok _ (getN_mem h)
    unfold arrB at h2
    split at h2
    · rename_i m e hu
      simp only [Bool.and_eq_true] at h2
      obtain ⟨h3, h4⟩ := h2
      have := Nat.eq_of_beq_eq_true h3
      subst this
      split at h4
      · rename_i i hi; exact ⟨e, hu, i, hi, Nat.eq_of_beq_eq_true h4⟩
      · cases h4
    · cases h2
  zero t v h := by
    have h2 := zeros_ok _ (getN_mem h)
    obtain ⟨i, hi, hz⟩ := Option.bind_eq_some_iff.1 h2
    exact ⟨i, hi, hz⟩
  isBool t h := boolB_spec (List.all_eq_true.1 bools_ok _ (memN_mem h))
  isPtr t h := ptrB_spec (List.all_eq_true.1 ptrs_ok _ (memN_mem h))
  isStr t h := strB_spec (List.all_eq_true.1 strs_ok _ (memN_mem h))
  isBytes t h := bytesB_spec (List.all_eq_true.1 bytes_ok _ (memN_mem h))
  call f h := by
    have h1 : 3 ≤ f ∧ f < 186 := by
      simp only [lay, Bool.and_eq_true, Nat.blt_eq] at h
      omega
    have h2 := List.all_eq_true.1 calls_ok f (by
      rw [List.mem_drop_iff_getElem]
      exact ⟨f - 3, by simp; omega, by simp; omega⟩)
    unfold callB at h2
    split at h2
    · rename_i fn hfn
      simp only [Bool.and_eq_true, Bool.not_eq_true'] at h2
      exact ⟨fn, hfn, h2.1, h2.2⟩
    · cases h2

end Go.Proofs.Ytgipackjnncabaa
