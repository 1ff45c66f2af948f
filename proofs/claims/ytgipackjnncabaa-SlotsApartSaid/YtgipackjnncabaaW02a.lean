/- Walks of layer 2, first part: numbers laid down as bytes; what the references do with bytes. -/
import Derived.Test.YtgipackjnncabaaBase
set_option linter.unusedVariables false
namespace Go.Proofs.Ytgipackjnncabaa
open Go.Vc Go.RowKit

/-- the lowest 'width' bytes -/
def enc (width n : Nat) : List (BitVec 8) := (List.range width).map fun i => BitVec.ofNat 8 (n / 256 ^ i)
def putF (bs : List (BitVec 8)) (width : Int) (n : Nat) : List (BitVec 8) × Int :=
  if width < 1 ∨ 8 < width then ([], 1) else if 256 ^ width.toNat ≤ n then ([], 3) else (bs ++ enc width.toNat n, 0)

/-- bytes in new memory, and an error's number -/
def PutPost (r : List (BitVec 8) × Int) (w : World) (v : Value) (w' : World) : Prop :=
  ∃ a' c', v = .tuple #[.slice a' r.1.length c', .int .i64 r.2] ∧ Own 5 u8v w.heap.size w' a' c' r.1 ∧ Ext w w'
/-- bytes in new memory -/
def BytesPost (r : List (BitVec 8)) (w : World) (v : Value) (w' : World) : Prop :=
  ∃ a' c', v = .slice a' r.length c' ∧ Own 5 u8v w.heap.size w' a' c' r ∧ Ext w w'

theorem enc_len (width n : Nat) : (enc width n).length = width := by simp [enc]
theorem enc_succ (k n : Nat) : enc (k + 1) n = enc k n ++ [BitVec.ofNat 8 (n / 256 ^ k)] := by simp [enc, List.range_succ]
theorem enc_zero (n : Nat) : enc 0 n = [] := rfl

theorem shr8 (n k : Nat) (hk : k < 8) : (n : Int).fdiv (2 ^ min (8 * (k : Int)).toNat IntKind.u64.bits) = ((n / 256 ^ k : Nat) : Int) := by
  have e1 : min (8 * (k : Int)).toNat IntKind.u64.bits = 8 * k := by
    show min (8 * (k : Int)).toNat 64 = 8 * k
    omega
  rw [e1, Int.pow_mul]
  have e2 : ((2 : Int) ^ 8) ^ k = ((256 ^ k : Nat) : Int) := by simp
  rw [e2, Int.fdiv_eq_ediv_of_nonneg _ (Int.natCast_nonneg _)]
  rfl

theorem pow256_8 : (256 : Nat) ^ 8 = 2 ^ 64 := by decide

/-- octet.Put -/
theorem put_calls {w : World} {a : Option Addr} {c : Nat} {bs : List (BitVec 8)} (h : Sl u8v w a bs) (hl : bs.length ≤ 16777216) (width : Int) (n : Nat) (hn : n < 2 ^ 64) :
    Calls Try.prog 42 #[.slice a bs.length c, .int .i64 width, .int .u64 n] w (Ret (PutPost (putF bs width n) w)) := by
  refine calls_of_vc lok Try.func42 ?_ rfl
  conv => whnf
  refine vcReg_meet lok (fun β : Bool => [(15, .bool β)]) (fun β w' => w' = w ∧ β = decide (width < 1 ∨ 8 < width)) [15] (fun _ => rfl) rfl ?_ ?_
  · conv => whnf
    refine bcase (fun h1 => ?_) (fun h1 => ?_)
    · conv => whnf
      exact ⟨_, ⟨rfl, trivial⟩, rfl, by simp at h1; simp; omega⟩
    · conv => whnf
      exact ⟨_, ⟨rfl, trivial⟩, rfl, by simp at h1; simp; omega⟩
  rintro β w' ⟨rfl, hβ⟩
  conv => whnf
  refine vcCond_split lok rfl (fun h1 => ?_) (fun h1 => ?_) <;> rw [h1] at hβ
  · have hβ := of_decide_eq_true hβ.symm
    conv => whnf
    have e : putF bs width n = ([], 1) := if_pos hβ
    rw [e]
    exact ⟨none, 0, rfl, Own.nil _ _ _ _, Ext.refl _⟩
  have hβ := of_decide_eq_false hβ.symm
  obtain ⟨k, rfl⟩ := Int.eq_ofNat_of_zero_le (a := width) (by omega)
  have e0 : putF bs k n = if 256 ^ k ≤ n then ([], 3) else (bs ++ enc k n, 0) := by
    unfold putF; rw [if_neg hβ]; simp
  conv => whnf
  refine vcReg_meet lok (fun β : Bool => [(25, .bool β)]) (fun β w'' => w'' = w' ∧ β = decide (256 ^ k ≤ n)) [25] (fun _ => rfl) rfl ?_ ?_
  · conv => whnf
    refine bcase (fun h3 => ?_) (fun h3 => ?_)
    · have h3 := of_decide_eq_true h3
      conv => whnf
      intro z hz
      obtain rfl : z = (k : Int) := by rw [hz, wu64]; omega
      conv => whnf
      intro z2 hz2
      obtain rfl : z2 = 8 * (k : Int) := by rw [hz2, wu64]; omega
      conv => whnf
      refine ⟨by omega, ?_⟩
      conv => whnf
      intro z3 hz3
      rw [shr8 n k (by omega)] at hz3
      subst hz3
      conv => whnf
      refine ⟨_, ⟨rfl, trivial⟩, rfl, ?_⟩
      rw [← decide_not, decide_eq_decide]
      have : 0 < 256 ^ k := Nat.pow_pos (by decide)
      rw [Int.natCast_eq_zero, Nat.div_eq_zero_iff]
      omega
    · have h3 := of_decide_eq_false h3
      conv => whnf
      refine ⟨_, ⟨rfl, trivial⟩, rfl, ?_⟩
      obtain rfl : k = 8 := by omega
      rw [pow256_8]
      simp; omega
  rintro β w'' ⟨rfl, hβ2⟩
  conv => whnf
  refine vcCond_split lok rfl (fun h1 => ?_) (fun h1 => ?_) <;> rw [h1] at hβ2
  · have hβ2 := of_decide_eq_true hβ2.symm
    conv => whnf
    rw [e0, if_pos hβ2]
    exact ⟨none, 0, rfl, Own.nil _ _ _ _, Ext.refl _⟩
  have hβ2 := of_decide_eq_false hβ2.symm
  rw [e0, if_neg hβ2]
  conv => whnf
  refine ⟨by omega, ?_⟩
  conv => whnf
  obtain ⟨w1, hr1, ho1, hx1⟩ := run_makeOwn e8 w''.heap.size w'' (Nat.le_refl _) bs.length (bs.length + k) (by omega) (by omega)
  rw [Int.natCast_add] at hr1
  refine ⟨_, _, hr1, ?_⟩
  conv => whnf
  obtain ⟨w2, hr2, ho2, hg2⟩ := ho1.copy (ty := 3) (u := 22) (d := c) e8.toElem (fun _ => rfl) (h.ext hx1) (by simp)
  refine ⟨_, _, hr2, ?_⟩
  have hx2 : Ext w'' w2 := hg2.extOf hx1 (fun g hg => by cases hg; exact Nat.le_refl _)
  conv => whnf
  have hb8 : k ≤ 8 := by omega
  refine vcLoop_inv lok (σ := Nat × Option Addr × Nat)
    (fun s => [(37, .int .i64 s.1), (36, .int .i64 k), (2, .int .u64 n), (8, .slice s.2.1 (bs ++ enc s.1 n).length s.2.2)])
    (fun s w => s.1 ≤ k ∧ Own 5 u8v w''.heap.size w s.2.1 s.2.2 (bs ++ enc s.1 n) ∧ Ext w'' w) (fun s => k - s.1)
    (0, _, _) ⟨rfl, rfl, rfl, by simp [enc]; rfl, trivial⟩ ⟨Nat.zero_le _, by simpa [enc] using ho2, hx2⟩ ?_
  rintro ⟨j, a1, c1⟩ w3 ⟨hj, ho, hx⟩
  simp only at hj ho
  conv => whnf
  refine vcCond_split lok rfl (fun h5 => ?_) (fun h5 => ?_)
  · have h5 := of_decide_eq_true h5
    conv => whnf
    intro z hz
    obtain rfl : z = (j : Int) := by rw [hz, wu64]; omega
    conv => whnf
    intro z2 hz2
    obtain rfl : z2 = 8 * (j : Int) := by rw [hz2, wu64]; omega
    conv => whnf
    refine ⟨by omega, ?_⟩
    conv => whnf
    intro z3 hz3
    rw [shr8 n j (by omega)] at hz3
    subst hz3
    conv => whnf
    intro z4 hz4
    obtain rfl : z4 = ((BitVec.ofNat 8 (n / 256 ^ j)).toNat : Int) := by rw [hz4, wu8]; simp
    conv => whnf
    refine ⟨_, _, run_build1 e8.toElem rfl w3, ?_⟩
    conv => whnf
    obtain ⟨a4, c4, w4, hr4, ho4, hg4, _⟩ := (ho.alloc _).append (ty := 22) (d := 1) e8.toElem (fun _ => rfl) (Sl.one (BitVec.ofNat 8 (n / 256 ^ j)) w3 rfl) (by simp [enc_len]; omega) (by simp; have := hx.size; omega)
    refine ⟨_, _, hr4, ?_⟩
    conv => whnf
    refine ⟨by omega, ?_⟩
    conv => whnf
    rw [List.append_assoc, ← enc_succ] at ho4 ⊢
    refine ⟨(j + 1, a4, c4), ⟨rfl, rfl, rfl, rfl, trivial⟩, ⟨by simp only; omega, ho4, ?_⟩, by simp only; omega⟩
    exact hg4.extOf (hx.trans (Ext.new _ _)) (fun g hg => (ho.ge g hg).1)
  · have h5 := of_decide_eq_false h5
    obtain rfl : j = k := by omega
    conv => whnf
    exact ⟨a1, c1, rfl, ho, hx⟩

/-- the reference's digits -/
theorem digits_calls {w : World} (n k : Nat) (hn : n < 2 ^ 64) (hk : k ≤ 16) :
    Calls Try.prog 140 #[.int .u64 n, .int .i64 k] w (Ret fun v w' => ∃ a' c', v = .tuple #[.slice a' (enc k n).length c', .int .u64 (n / 256 ^ k : Nat)] ∧ Own 5 u8v w.heap.size w' a' c' (enc k n) ∧ Ext w w') := by
  refine calls_of_vc lok Try.func140 ?_ rfl
  conv => whnf
  refine vcLoop_inv lok (σ := Nat × Option Addr × Nat)
    (fun ⟨j, a, c⟩ => [(7, .int .i64 j), (1, .int .i64 k), (0, .int .u64 (n / 256 ^ j : Nat)), (6, .slice a (enc j n).length c)])
    (fun ⟨j, a, c⟩ w' => j ≤ k ∧ Own 5 u8v w.heap.size w' a c (enc j n) ∧ Ext w w') (fun s => k - s.1)
    (0, none, 0) ⟨rfl, rfl, by simp; rfl, rfl, trivial⟩ ⟨Nat.zero_le _, Own.nil _ _ _ _, Ext.refl _⟩ ?_
  rintro ⟨j, a1, c1⟩ w3 ⟨hj, ho, hx⟩
  conv => whnf
  refine vcCond_split lok rfl (fun h5 => ?_) (fun h5 => ?_)
  · have h5 := of_decide_eq_true h5
    have hlt : n / 256 ^ j < 2 ^ 64 := Nat.lt_of_le_of_lt (Nat.div_le_self _ _) hn
    conv => whnf
    refine ⟨by decide, ?_⟩
    conv => whnf
    intro z hz
    obtain rfl : z = ((n / 256 ^ j : Nat) : Int) % 256 := by rw [hz, Int.tmod_eq_emod_of_nonneg (Int.natCast_nonneg _)]
    conv => whnf
    intro z2 hz2
    obtain rfl : z2 = ((BitVec.ofNat 8 (n / 256 ^ j)).toNat : Int) := by rw [hz2, wu8]; simp
    conv => whnf
    refine ⟨_, _, run_build1 e8.toElem rfl w3, ?_⟩
    conv => whnf
    obtain ⟨a4, c4, w4, hr4, ho4, hg4, _⟩ := (ho.alloc _).append (ty := 22) (d := 1) e8.toElem (fun _ => rfl) (Sl.one (BitVec.ofNat 8 (n / 256 ^ j)) w3 rfl) (by simp [enc_len]; omega) (by simp; have := hx.size; omega)
    refine ⟨_, _, hr4, ?_⟩
    conv => whnf
    refine ⟨by decide, ?_⟩
    conv => whnf
    intro z3 hz3
    obtain rfl : z3 = ((n / 256 ^ (j + 1) : Nat) : Int) := by
      rw [hz3, Int.tdiv_eq_ediv_of_nonneg (Int.natCast_nonneg _), wu64, Nat.pow_succ, ← Nat.div_div_eq_div_mul]
      clear hz3 z3
      generalize n / 256 ^ j = m at hlt
      omega
    conv => whnf
    refine ⟨by omega, ?_⟩
    conv => whnf
    rw [← enc_succ] at ho4 ⊢
    refine ⟨(j + 1, a4, c4), ⟨rfl, rfl, rfl, rfl, trivial⟩, ⟨by omega, ho4, ?_⟩, by simp only; omega⟩
    exact hg4.extOf (hx.trans (Ext.new _ _)) (fun g hg => (ho.ge g hg).1)
  · have h5 := of_decide_eq_false h5
    obtain rfl : j = k := by omega
    conv => whnf
    exact ⟨a1, c1, rfl, ho, hx⟩

/-- the reference's join -/
theorem join_calls {w : World} {a b : Option Addr} {c d : Nat} {xs ys : List (BitVec 8)} (hx : Sl u8v w a xs) (hy : Sl u8v w b ys) (hl : xs.length + ys.length ≤ 4294967296) :
    Calls Try.prog 141 #[.slice a xs.length c, .slice b ys.length d] w (Ret (BytesPost (xs ++ ys) w)) := by
  refine calls_of_vc lok Try.func141 ?_ rfl
  conv => whnf
  obtain ⟨a1, c1, w1, hr1, ho1, hg1, _⟩ := (Own.nil 5 u8v w.heap.size w).append (ty := 22) (d := c) e8.toElem (fun _ => rfl) hx (by simp; omega) (Nat.le_refl _)
  refine ⟨_, _, hr1, ?_⟩
  have hx1 : Ext w w1 := hg1.ext
  conv => whnf
  obtain ⟨a2, c2, w2, hr2, ho2, hg2, _⟩ := ho1.append (ty := 22) (d := d) e8.toElem (fun _ => rfl) (hy.ext hx1) (by simp; omega) hx1.size
  refine ⟨_, _, hr2, ?_⟩
  conv => whnf
  exact ⟨a2, c2, rfl, ho2, hg2.extOf hx1 (fun g hg => (ho1.ge g hg).1)⟩

theorem div_lt_pow (n k : Nat) : n / 256 ^ k = 0 ↔ n < 256 ^ k := by
  have : 0 < 256 ^ k := Nat.pow_pos (by decide)
  rw [Nat.div_eq_zero_iff]
  omega

/-- the reference's Put -/
theorem rput_calls {w : World} {a : Option Addr} {c : Nat} {bs : List (BitVec 8)} (h : Sl u8v w a bs) (hl : bs.length ≤ 16777216) (width : Int) (n : Nat) (hn : n < 2 ^ 64) :
    Calls Try.prog 43 #[.slice a bs.length c, .int .i64 width, .int .u64 n] w (Ret (PutPost (putF bs width n) w)) := by
  refine calls_of_vc lok Try.func43 ?_ rfl
  conv => whnf
  refine vcReg_meet lok (fun β : Bool => [(15, .bool β)]) (fun β w' => w' = w ∧ β = decide (width < 1 ∨ 8 < width)) [15] (fun _ => rfl) rfl ?_ ?_
  · conv => whnf
    refine bcase (fun h1 => ?_) (fun h1 => ?_)
    · conv => whnf
      exact ⟨_, ⟨rfl, trivial⟩, rfl, by simp at h1; simp; omega⟩
    · conv => whnf
      exact ⟨_, ⟨rfl, trivial⟩, rfl, by simp at h1; simp; omega⟩
  rintro β w' ⟨rfl, hβ⟩
  conv => whnf
  refine vcCond_split lok rfl (fun h1 => ?_) (fun h1 => ?_) <;> rw [h1] at hβ
  · have hβ := of_decide_eq_true hβ.symm
    conv => whnf
    have e : putF bs width n = ([], 1) := if_pos hβ
    rw [e]
    exact ⟨none, 0, rfl, Own.nil _ _ _ _, Ext.refl _⟩
  have hβ := of_decide_eq_false hβ.symm
  obtain ⟨k, rfl⟩ := Int.eq_ofNat_of_zero_le (a := width) (by omega)
  have e0 : putF bs k n = if 256 ^ k ≤ n then ([], 3) else (bs ++ enc k n, 0) := by
    unfold putF; rw [if_neg hβ]; simp
  conv => whnf
  refine Calls.ret (digits_calls n k hn (by omega)) ?_
  rintro _ w1 ⟨a1, c1, rfl, ho1, hx1⟩
  conv => whnf
  refine vcCond_split lok rfl (fun h1 => ?_) (fun h1 => ?_)
  · have hd : 256 ^ k ≤ n := by
      have h1 := nz_true h1
      rw [Ne, div_lt_pow] at h1
      omega
    conv => whnf
    rw [e0, if_pos hd]
    exact ⟨none, 0, rfl, Own.nil _ _ _ _, hx1⟩
  · have hd : ¬ 256 ^ k ≤ n := by
      have h1 := nz_false h1
      rw [div_lt_pow] at h1
      omega
    conv => whnf
    rw [e0, if_neg hd]
    refine Calls.ret (join_calls (h.ext hx1) ho1.sl (by rw [enc_len]; omega)) ?_
    rintro _ w2 ⟨a2, c2, rfl, ho2, hx2⟩
    conv => whnf
    exact ⟨a2, c2, rfl, ho2.base hx1.size, hx1.trans hx2⟩

end Go.Proofs.Ytgipackjnncabaa
