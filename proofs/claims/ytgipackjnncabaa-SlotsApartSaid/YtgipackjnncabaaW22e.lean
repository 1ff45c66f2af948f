/- Walks of layer 22, fifth part: a chunk written; slots opened; none. -/
import Derived.Test.YtgipackjnncabaaW22d
set_option linter.unusedVariables false
namespace Go.Proofs.Ytgipackjnncabaa
open Go.Vc Go.RowKit

/-- long -/
theorem slong_calls {w : World} (m k : Nat) (hm : m ≤ 2048) (hk : 64 * k < m) : Calls Try.prog 175 #[.int .i64 m, .int .i64 k] w (Ret fun r w' => r = .int .i64 (lenC m k) ∧ w' = w) := by
  refine calls_of_vc lok Try.func175 ?_ rfl
  conv => whnf
  refine ⟨by omega, ?_⟩
  conv => whnf
  refine ⟨by omega, ?_⟩
  conv => whnf
  refine ⟨?_, rfl⟩
  congr 1
  unfold lenC
  split <;> omega

section
variable {B : Nat} {w : World} {sb g gw c n i : Nat} {s : FS}
set_option maxHeartbeats 4000000 in
/-- Write -/
theorem swrite_calls (h : SlAt B w sb g gw c n s) (slot chunk : Int) {ba : Option Addr} {bc : Nat} {b : List (BitVec 8)} (hb : Sl u8v w ba b) (hbl : b.length ≤ 9223372036854775807) (hop : Num s s.ws.length i) (hi : i ≤ 1152921504606846976) :
    Calls Try.prog 125 #[.pointer (some ⟨sb, 0, none⟩), .int .i64 slot, .int .i64 chunk, .slice ba b.length bc] w
      (Ret fun r w' => r = .int .i64 (writeSF s n slot chunk b).2 ∧ SlAt B w' sb g gw c n (writeSF s n slot chunk b).1 ∧ FlMod g gw w w') := by
  have hr := h.room
  have hsm := h.small
  have hlt := h.f.lt
  refine calls_of_vc lok Try.func125 ?_ rfl
  conv => whnf
  refine Calls.ret (scheck_calls h slot) ?_
  rintro _ w1 ⟨rfl, hw1⟩
  conv => whnf
  subst hw1
  refine vcCond_split lok rfl (fun h1 => ?_) (fun h1 => ?_)
  · have h1 := ne_true h1
    have e : writeSF s n slot chunk b = (s, checkF s slot) := by unfold writeSF; rw [if_pos h1]
    rw [e]
    conv => whnf
    exact ⟨rfl, h, Mod.refl _ _⟩
  have h1 := ne_false h1
  have hz := check_zero h1
  have hp := atF_le hz.2 hr
  have hh := headR_ok (n := n) h1
  have ew : writeSF s n slot chunk b = match headW s.ws (atF n slot) with
      | none => (s, 8)
      | some (_, m) =>
        if ¬ (0 ≤ chunk ∧ chunk < 32 ∧ 64 * chunk < m ∧ b.length = lenC m chunk.toNat) then (s, 1)
        else if sealedF s n slot = true then (s, 25)
        else if s.ws.getD (atF n slot + 3 + chunk.toNat) 0#32 = 0#32 then (s, 0)
        else if (progAllF s ((atF n slot + 256 + 16 * chunk.toNat : Nat) : Int) (wordsF b)).2 = 0 then
          if sliceF (progAllF s ((atF n slot + 256 + 16 * chunk.toNat : Nat) : Int) (wordsF b)).1.ws (atF n slot + 256 + 16 * chunk.toNat) (wordsF b).length = wordsF b then
            progF (progAllF s ((atF n slot + 256 + 16 * chunk.toNat : Nat) : Int) (wordsF b)).1 ((atF n slot + 3 + chunk.toNat : Nat) : Int) 0#32
          else ((progAllF s ((atF n slot + 256 + 16 * chunk.toNat : Nat) : Int) (wordsF b)).1, 4)
        else ((progAllF s ((atF n slot + 256 + 16 * chunk.toNat : Nat) : Int) (wordsF b)).1, 7) := by
    unfold writeSF; rw [if_neg (fun q => q h1)]; rfl
  conv => whnf
  refine Calls.ret (shead_calls h slot) ?_
  rintro _ w2 ⟨rfl, x2⟩
  conv => whnf
  cases hW : headW s.ws (atF n slot) with
  | none =>
    rw [hW] at ew hh
    have e1 := congrArg Prod.fst hh
    have e2 := congrArg (fun x => x.2.1) hh
    have e3 := congrArg (fun x => x.2.2) hh
    dsimp only at ew e1 e2 e3
    rw [e1, e2, e3]
    rw [ew]
    refine vcCond_true lok (rfl) ?_
    conv => whnf
    exact ⟨rfl, h.ext x2, Mod.ofExt _ x2⟩
  | some vm =>
  obtain ⟨v, m⟩ := vm
  have hcan := (headW_size hW).1
  have hm0 : 1 ≤ m ∧ m ≤ 2048 := by have := hcan.2.2; simp only at this; omega
  rw [hW] at ew hh
  have e1 := congrArg Prod.fst hh
  have e2 := congrArg (fun x => x.2.1) hh
  have e3 := congrArg (fun x => x.2.2) hh
  dsimp only at ew e1 e2 e3
  rw [e1, e2, e3]
  clear hh hcan hW e1 e2 e3
  refine vcCond_false lok (rfl) ?_
  conv => whnf
  refine vcReg_meet lok (fun β : Bool => [(34, .bool β)]) (fun β w' => w' = w2 ∧ β = !decide (0 ≤ chunk ∧ chunk < 32 ∧ 64 * chunk < m ∧ b.length = lenC m chunk.toNat)) [34] (fun _ => rfl) rfl ?_ ?_
  · conv => whnf
    refine bcase (fun k1 => ?_) (fun k1 => ?_)
    · have k1 := dt k1
      conv => whnf
      exact ⟨_, ⟨rfl, trivial⟩, rfl, by rw [decide_eq_false (by omega)]; rfl⟩
    have k1 := df k1
    conv => whnf
    refine bcase (fun k2 => ?_) (fun k2 => ?_)
    · have k2 := dt k2
      conv => whnf
      exact ⟨_, ⟨rfl, trivial⟩, rfl, by rw [decide_eq_false (by omega)]; rfl⟩
    have k2 := df k2
    conv => whnf
    refine ⟨by omega, ?_⟩
    conv => whnf
    refine bcase (fun k3 => ?_) (fun k3 => ?_)
    · have k3 := dt k3
      conv => whnf
      exact ⟨_, ⟨rfl, trivial⟩, rfl, by rw [decide_eq_false (by omega)]; rfl⟩
    have k3 := df k3
    conv => whnf
    obtain ⟨k, rfl⟩ := Int.eq_ofNat_of_zero_le (show 0 ≤ chunk by omega)
    refine Calls.ret (slong_calls m k hm0.2 (by omega)) ?_
    rintro _ w3 ⟨rfl, rfl⟩
    conv => whnf
    refine ⟨_, ⟨rfl, trivial⟩, rfl, ?_⟩
    congr 1
    rw [decide_eq_decide]
    exact ⟨fun e => ⟨by omega, by omega, by omega, by rw [Int.toNat_natCast]; omega⟩, fun q => by have := q.2.2.2; rw [Int.toNat_natCast] at this; omega⟩
  rintro β w3 ⟨hw3, hβ⟩
  subst hw3
  conv => whnf
  refine vcCond_split lok rfl (fun h2 => ?_) (fun h2 => ?_)
  · rw [hβ] at h2
    have h2 : ¬ (0 ≤ chunk ∧ chunk < 32 ∧ 64 * chunk < m ∧ b.length = lenC m chunk.toNat) := fun q => by rw [decide_eq_true q] at h2; cases h2
    rw [if_pos h2] at ew
    rw [ew]
    conv => whnf
    exact ⟨rfl, h.ext x2, Mod.ofExt _ x2⟩
  rw [hβ] at h2
  have h2 : 0 ≤ chunk ∧ chunk < 32 ∧ 64 * chunk < m ∧ b.length = lenC m chunk.toNat := by
    by_cases q : 0 ≤ chunk ∧ chunk < 32 ∧ 64 * chunk < m ∧ b.length = lenC m chunk.toNat
    · exact q
    · rw [decide_eq_false q] at h2; cases h2
  clear hβ
  rw [if_neg (fun q => q h2)] at ew
  obtain ⟨k, rfl⟩ := Int.eq_ofNat_of_zero_le h2.1
  rw [Int.toNat_natCast] at ew h2
  obtain ⟨_, hk32, hkm, hblen⟩ := h2
  have hk32 : k < 32 := by omega
  have hlc := lenC_le m k
  have hwl : (wordsF b).length ≤ 16 := by rw [wordsF_len]; omega
  conv => whnf
  refine Calls.ret (ssealed_calls (h.ext x2) slot) ?_
  rintro _ w4 ⟨rfl, x4⟩
  conv => whnf
  have x14 := x2.trans x4
  refine vcCond_split lok rfl (fun h3 => ?_) (fun h3 => ?_)
  · rw [if_pos h3] at ew
    rw [ew]
    conv => whnf
    exact ⟨rfl, h.ext x14, Mod.ofExt _ x14⟩
  rw [h3, if_neg Bool.false_ne_true] at ew
  conv => whnf
  refine ⟨by omega, ?_⟩
  conv => whnf
  refine Calls.ret (sword_calls (h.ext x14) slot hz.2 hz.1 (3 + k) (by omega) (3 + (k : Int)) (by omega)) ?_
  rintro _ w5 ⟨rfl, x5⟩
  conv => whnf
  rw [← Nat.add_assoc]
  have x15 := x14.trans x5
  refine vcCond_split lok rfl (fun h4 => ?_) (fun h4 => ?_)
  · have h4 := num_zero.1 (dt h4)
    rw [if_pos h4] at ew
    rw [ew]
    conv => whnf
    exact ⟨rfl, h.ext x15, Mod.ofExt _ x15⟩
  have h4 := fun e => df h4 (num_zero.2 e)
  rw [if_neg h4] at ew
  conv => whnf
  refine Calls.ret (words_calls (hb.ext x15) (by omega)) ?_
  rintro _ w6 ⟨a6, c6, rfl, ho6, x6⟩
  conv => whnf
  have x16 := x15.trans x6
  have z15 := x15.size
  refine ⟨by omega, ?_⟩
  conv => whnf
  refine ⟨by omega, ?_⟩
  conv => whnf
  rw [show (256 : Int) + (k : Int) * 16 = ((256 + 16 * k : Nat) : Int) by omega]
  have gS : ∀ {w'}, FlMod g gw w6 w' → Own 42 u32v w5.heap.size w' a6 c6 (wordsF b) := fun m' => m'.keepOwn ho6 (fun q hq e => by
      have := (ho6.ge q hq).1
      rcases e with e | e <;> omega)
  have g7 := slay_calls (xc := c6) (h.ext x16) slot hz.2 (256 + 16 * k) (xs := wordsF b) (fun w' m' => (gS m').sl) (by omega) hop (by omega)
  rw [← Nat.add_assoc] at g7
  have hpa := progAll_cases (wordsF b) s (atF n slot + 256 + 16 * k) hz.1 (by omega)
  have nums := Num.all (wordsF b) s i ((atF n slot + 256 + 16 * k : Nat) : Int) hop
  have gA : ∃ A, A = progAllF s ((atF n slot + 256 + 16 * k : Nat) : Int) (wordsF b) := ⟨_, rfl⟩
  obtain ⟨A, hA⟩ := gA
  rw [← hA] at g7 hpa nums ew
  clear hA
  conv => whnf
  refine Calls.ret (g7) ?_
  rintro _ w7 ⟨rfl, h7, m7⟩
  conv => whnf
  have m17 := (Mod.ofExt (fun k => k = g ∨ k = gw) x16).trans m7
  have ho7 := gS m7
  refine vcCond_split lok rfl (fun h5 => ?_) (fun h5 => ?_)
  · have h5 := ne_true h5
    rw [if_neg h5] at ew
    rw [ew]
    conv => whnf
    refine ⟨?_, h7, m17⟩
    rcases hpa with ⟨t, e, _⟩ | ⟨t, j, e, _⟩
    · rw [e] at h5; exact absurd rfl h5
    · rw [e]
  have h5 := ne_false h5
  rw [if_pos h5] at ew
  have hoff : A.1.off = false := by
    rcases hpa with ⟨t, e, _, e3, _⟩ | ⟨t, j, e, _⟩
    · rw [e]; exact e3
    · rw [e] at h5; cases h5
  clear hpa g7
  have gat : ∃ a, a = atF n slot + 256 + 16 * k := ⟨_, rfl⟩
  obtain ⟨a, ha⟩ := gat
  rw [← ha] at ew
  have hlen7 := nums.len
  have hloc : ∀ j, j < (wordsF b).length → (sliceF A.1.ws a (wordsF b).length).getD j 0#32 = A.1.ws.getD (a + j) 0#32 := fun j hj => by
    unfold sliceF; rw [take_get0 _ _ _ hj, drop_get0]
  have hsll : (sliceF A.1.ws a (wordsF b).length).length = (wordsF b).length := by unfold sliceF; rw [List.length_take, List.length_drop]; omega
  conv => whnf
  refine vcLoop_inv lok (σ := Nat)
    (fun j => [(81, .int .i64 j), (79, .slice a6 (wordsF b).length c6), (80, .int .i64 (wordsF b).length), (14, .int .i64 (256 + 16 * k : Nat)), (0, .pointer (some ⟨sb, 0, none⟩)), (1, .int .i64 slot), (2, .int .i64 k)])
    (fun j w' => j ≤ (wordsF b).length ∧ Ext w7 w' ∧ ∀ l, l < j → A.1.ws.getD (a + l) 0#32 = (wordsF b).getD l 0#32) (fun j => (wordsF b).length - j)
    0 ⟨rfl, rfl, rfl, rfl, rfl, rfl, rfl, trivial⟩ ⟨Nat.zero_le _, Ext.refl _, fun l hl => absurd hl (Nat.not_lt_zero _)⟩ ?_
  rintro j w8 ⟨hj, x8, hall⟩
  conv => whnf
  refine vcCond_split lok rfl (fun h6 => ?_) (fun h6 => ?_)
  · have h6 := dt h6
    conv => whnf
    have hjl : j < (wordsF b).length := by omega
    have g45 := sl_get ((ho7.ext x8).sl) ((j : Int)) (j) (by omega) (by omega)
    obtain ⟨p45, o45, ha45, hb45, hcell45⟩ := g45
    refine ⟨p45, o45, ha45, hb45, ?_⟩
    conv => whnf
    refine ⟨_, hcell45, ?_⟩
    conv => whnf
    refine ⟨by omega, ?_⟩
    conv => whnf
    refine Calls.ret (sword_calls (h7.ext x8) slot hz.2 hoff (256 + 16 * k + j) (by omega) (((256 + 16 * k : Nat) : Int) + (j : Int)) (by omega)) ?_
    rintro _ w9 ⟨rfl, x9⟩
    conv => whnf
    rw [show atF n slot + (256 + 16 * k + j) = a + j by omega]
    refine vcCond_split lok rfl (fun h8 => ?_) (fun h8 => ?_)
    · have h8 := ne_true h8
      have hne : ¬ sliceF A.1.ws a (wordsF b).length = wordsF b := by
        intro e
        have := hloc j hjl
        rw [e] at this
        exact h8 (by rw [this])
      rw [if_neg hne] at ew
      rw [ew]
      conv => whnf
      exact ⟨rfl, h7.ext (x8.trans x9), m17.trans (Mod.ofExt _ (x8.trans x9))⟩
    · have h8 := int_eq.1 (ne_false h8)
      conv => whnf
      refine ⟨by omega, ?_⟩
      conv => whnf
      refine ⟨j + 1, ⟨rfl, rfl, rfl, rfl, rfl, rfl, rfl, trivial⟩, ⟨by omega, x8.trans x9, fun l hl => ?_⟩, by omega⟩
      by_cases e : l = j
      · subst e; exact h8
      · exact hall l (by omega)
  · have h6 := df h6
    conv => whnf
    have heq : sliceF A.1.ws a (wordsF b).length = wordsF b := by
      apply ext0 hsll
      intro l hl
      rw [hsll] at hl
      rw [hloc l hl]
      exact hall l (by omega)
    rw [if_pos heq] at ew
    refine ⟨by omega, ?_⟩
    conv => whnf
    have g9 := one_zero w8
    obtain ⟨w9, hr9, ho9, x9⟩ := g9
    refine ⟨_, _, hr9, ?_⟩
    have x79 := x8.trans x9
    have hlt8 := (h7.ext x8).f.lt
    have hl7 := h7.small
    rw [show (3 : Int) + (k : Int) = ((3 + k : Nat) : Int) by omega]
    have g10 := slay_calls (xc := 1) (h7.ext x79) slot hz.2 (3 + k) (xs := [0#32]) (fun w' m' => (m'.keepOwn ho9 (fun q hq e => by
        have := (ho9.ge q hq).1
        rcases e with e | e <;> omega)).sl) (by simp; omega) (by rw [hlen7]; exact nums) (by omega)
    rw [progAll_one _ _ (by omega) (by omega), ← Nat.add_assoc] at g10
    rw [ew]
    conv => whnf
    refine Calls.ret (g10) ?_
    rintro _ w11 ⟨rfl, h11, m11⟩
    conv => whnf
    exact ⟨rfl, h11, m17.trans ((Mod.ofExt _ x79).trans m11)⟩

/-- Open -/
theorem sopen_calls (f : FlAt 181 B w g gw c s) (hl : s.ws.length ≤ 65536) (n : Int) :
    Calls Try.prog 72 #[.pointer (some ⟨g, 0, none⟩), .int .i64 n] w (Ret fun r w' => (¬ (0 ≤ n ∧ 256 * (n + 6) ≤ s.ws.length) ∧ r = .tuple #[.pointer none, .int .i64 10] ∧ w' = w) ∨
      (∃ m : Nat, n = m ∧ 256 * (m + 6) ≤ s.ws.length ∧ ∃ sb, r = .tuple #[.pointer (some ⟨sb, 0, none⟩), .int .i64 0] ∧ w.heap.size ≤ sb ∧ SlAt B w' sb g gw c m s ∧ Ext w w')) := by
  refine calls_of_vc lok Try.func72 ?_ rfl
  conv => whnf
  refine vcCond_false lok (rfl) ?_
  conv => whnf
  refine vcReg_meet lok (fun β : Bool => [(9, .bool β)]) (fun β w' => w' = w ∧ β = !decide (0 ≤ n ∧ 256 * (n + 6) ≤ s.ws.length)) [9] (fun _ => rfl) rfl ?_ ?_
  · conv => whnf
    refine bcase (fun k1 => ?_) (fun k1 => ?_)
    · have k1 := dt k1
      conv => whnf
      exact ⟨_, ⟨rfl, trivial⟩, rfl, by rw [decide_eq_false (by omega)]; rfl⟩
    have k1 := df k1
    conv => whnf
    refine Calls.ret (len_calls f) ?_
    rintro _ w2 ⟨rfl, rfl⟩
    conv => whnf
    refine ⟨by decide, ?_⟩
    intro z hz
    have hz62 : z = ((s.ws.length / 256 : Nat) : Int) := by rw [hz]; exact quo256 _ (by omega)
    clear hz
    subst hz62
    conv => whnf
    refine ⟨by omega, ?_⟩
    conv => whnf
    refine ⟨_, ⟨rfl, trivial⟩, rfl, ?_⟩
    by_cases k2 : 256 * (n + 6) ≤ s.ws.length
    · rw [decide_eq_false (by omega), decide_eq_true ⟨by omega, k2⟩]; rfl
    · rw [decide_eq_true (by omega), decide_eq_false (fun q => k2 q.2)]; rfl
  rintro β w2 ⟨hw2, hβ⟩
  subst hw2
  conv => whnf
  refine vcCond_split lok rfl (fun h2 => ?_) (fun h2 => ?_)
  · subst h2
    conv => whnf
    exact .inl ⟨(fun q => by rw [decide_eq_true q] at hβ; cases hβ), rfl, rfl⟩
  subst h2
  have hn : 0 ≤ n ∧ 256 * (n + 6) ≤ s.ws.length := by
    by_cases q : 0 ≤ n ∧ 256 * (n + 6) ≤ s.ws.length
    · exact q
    · rw [decide_eq_false q] at hβ; cases hβ
  clear hβ
  obtain ⟨m, rfl⟩ := Int.eq_ofNat_of_zero_le hn.1
  have hlt := f.lt
  conv => whnf
  refine ⟨_, fun w => run_build w 162 _ _ (show Try.prog.built 162 [(0, .pointer (some ⟨g, 0, none⟩)), (1, .int .i64 m)] = some #[.pointer (some ⟨g, 0, none⟩), .int .i64 m] by kernel_rfl), ?_⟩
  conv => whnf
  intro w3 hw3
  have hb3 : Blk w3 w2.heap.size 162 (sC g m) := by rw [hw3]; exact Blk.new w2 162 _
  have x3 : Ext w2 w3 := by rw [hw3]; exact Ext.new _ _
  clear hw3
  exact .inr ⟨m, rfl, by omega, _, rfl, Nat.le_refl _, ⟨f.ext x3, hb3, by omega, by omega, by omega, hl⟩, x3⟩
end
end Go.Proofs.Ytgipackjnncabaa
