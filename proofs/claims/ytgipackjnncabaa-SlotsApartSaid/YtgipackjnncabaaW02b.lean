/- Walks of layer 2, second part: Lent, Kept, Spoil; numbers read. -/
import Derived.Test.YtgipackjnncabaaW02a
import Derived.Test.YtgipackjnncabaaPl02
set_option linter.unusedVariables false
namespace Go.Proofs.Ytgipackjnncabaa
open Go.Vc Go.RowKit

/-- bytes with a mark behind them -/
def LentPost (bs : List (BitVec 8)) (w : World) (v : Value) (w' : World) : Prop :=
  ∃ a' c', v = .slice a' bs.length c' ∧ Own 5 u8v w.heap.size w' a' c' (bs ++ [77#8]) ∧ Ext w w'

theorem lent_calls {w : World} {a : Option Addr} {c : Nat} {bs : List (BitVec 8)} (h : Sl u8v w a bs) (hl : bs.length ≤ 16777216) :
    Calls Try.prog 41 #[.slice a bs.length c] w (Ret (LentPost bs w)) := by
  refine calls_of_vc lok Try.func41 ?_ rfl
  conv => whnf
  obtain ⟨a1, c1, w1, hr1, ho1, hg1, _⟩ := (Own.nil 5 u8v w.heap.size w).append (ty := 22) (d := c) e8.toElem (fun _ => rfl) h (by simp; omega) (Nat.le_refl _)
  refine ⟨_, _, hr1, ?_⟩
  have hx1 : Ext w w1 := hg1.ext
  conv => whnf
  refine ⟨_, _, run_build1 e8.toElem rfl w1, ?_⟩
  conv => whnf
  obtain ⟨a2, c2, w2, hr2, ho2, hg2, _⟩ := (ho1.alloc _).append (ty := 22) (d := 1) e8.toElem (fun _ => rfl) (Sl.one (77#8) w1 rfl) (by simp; omega) (by simp; have := hx1.size; omega)
  refine ⟨_, _, hr2, ?_⟩
  conv => whnf
  have hle := ho2.le.1
  simp only [List.nil_append, List.length_append, List.length_singleton] at hle
  refine ⟨⟨by omega, by omega⟩, ?_⟩
  conv => whnf
  refine ⟨a2, c2, rfl, by simpa using ho2, hg2.extOf (hx1.trans (Ext.new _ _)) (fun g hg => (ho1.ge g hg).1)⟩

theorem kept_calls {w : World} {a b : Option Addr} {c d : Nat} {bs : List (BitVec 8)} (h : Sl u8v w a (bs ++ [77#8])) (hb : Sl u8v w b bs) (hc : bs.length + 1 ≤ c) (hl : bs.length ≤ 16777216) :
    Calls Try.prog 44 #[.slice a bs.length c, .slice b bs.length d] w (Ret fun v w' => v = .bool true ∧ w' = w) := by
  refine calls_of_vc lok Try.func44 ?_ rfl
  conv => whnf
  refine vcReg_go lok ?_
  conv => whnf
  have h1 : Sl u8v w a bs := by simpa using h.take bs.length
  refine ⟨_, run_toStr h1, ?_⟩
  conv => whnf
  refine ⟨_, run_toStr hb, ?_⟩
  conv => whnf
  intro β hβ
  obtain rfl : β = true := by rw [str_eq hβ rfl rfl]; simp
  conv => whnf
  · refine ⟨by omega, ?_⟩
    conv => whnf
    refine ⟨⟨by omega, by omega⟩, ?_⟩
    conv => whnf
    obtain ⟨p, o, ha, hcell⟩ := h.at (bs.length : Int) (by omega) (by simp; omega)
    refine ⟨p, o, ha, ⟨by omega, by omega⟩, ?_⟩
    conv => whnf
    refine ⟨_, hcell, ?_⟩
    conv => whnf
    refine ⟨?_, rfl⟩
    simp [List.getD]

/-- Spoil writes into the slice's own block, and into new ones -/
theorem spoil_calls {w : World} {a : Option Addr} {c B : Nat} {bs : List (BitVec 8)} (h : Own 5 u8v B w a c bs) (hB : B ≤ w.heap.size) (hl : bs.length ≤ 2147483648) :
    Calls Try.prog 45 #[.slice a bs.length c] w (Ret fun v w' => v = .tuple #[] ∧ Gr w w' (blockOf a)) := by
  refine calls_of_vc lok Try.func45 ?_ rfl
  conv => whnf
  refine vcLoop_inv lok (σ := Nat × List (BitVec 8))
    (fun ⟨j, xs⟩ => [(2, .int .i64 j), (0, .slice a bs.length c)])
    (fun ⟨j, xs⟩ w' => j ≤ bs.length ∧ xs.length = bs.length ∧ Own 5 u8v B w' a c xs ∧ Gr w w' (blockOf a)) (fun s => bs.length - s.1)
    (0, bs) ⟨rfl, rfl, trivial⟩ ⟨Nat.zero_le _, rfl, h, Gr.refl _ _⟩ ?_
  rintro ⟨j, xs⟩ w1 ⟨hj, hxl, ho, hg⟩
  conv => whnf
  refine vcCond_split lok rfl (fun h5 => ?_) (fun h5 => ?_)
  · have h5 := dt h5
    conv => whnf
    obtain ⟨p, o, ha, hcell⟩ := ho.sl.at (j : Int) (by omega) (by omega)
    refine ⟨p, o, ha, ⟨by omega, by omega⟩, ?_⟩
    conv => whnf
    refine ⟨_, hcell, ?_⟩
    conv => whnf
    intro z hz
    obtain ⟨g, hag, hc1, hf1, hBg, hgl, hst⟩ := ho.store (j : Int) (by omega) (by omega)
    obtain ⟨y, rfl⟩ : ∃ y : BitVec 8, z = (y.toNat : Int) := ⟨BitVec.ofInt 8 z, by rw [hz, wu8]; simp; omega⟩
    conv => whnf
    refine ⟨g, 0, hag, ⟨by omega, by omega⟩, ?_⟩
    conv => whnf
    refine ⟨⟨rfl, hc1, hf1⟩, fun w2 hw2 => ?_⟩
    obtain ⟨ho2, hg2⟩ := hst y
    obtain rfl : w2 = w1.setCell ⟨g, 0 + (j : Int).toNat, none⟩ (u8v y) := hw2
    conv => whnf
    refine ⟨by omega, ?_⟩
    conv => whnf
    refine ⟨(j + 1, _), ⟨rfl, rfl, trivial⟩, ⟨by omega, by simpa using hxl, ho2, hg.step hg2 (.inl (by rw [hag]; rfl))⟩, by simp only; omega⟩
  · have h5 := df h5
    conv => whnf
    refine ⟨_, _, run_build1 e8.toElem rfl w1, ?_⟩
    conv => whnf
    have hz1 := hg.size
    obtain ⟨a2, c2, w2, hr2, ho2, hg2, hb2⟩ := (ho.alloc _).append (ty := 22) (d := 1) e8.toElem (fun _ => rfl) (Sl.one (99#8) w1 rfl) (by simp; omega) (by simp; omega)
    rw [hxl] at hr2
    refine ⟨_, _, hr2, ?_⟩
    conv => whnf
    simp only [List.length_append, List.length_singleton]
    refine ⟨by omega, ?_⟩
    conv => whnf
    obtain ⟨g, hag, hc1, hf1, hBg, hgl, hst⟩ := ho2.store (((xs.length + 1 : Nat) : Int) - 1) (by omega) (by simp; omega)
    refine ⟨g, 0, hag, ⟨by omega, by omega⟩, ?_⟩
    conv => whnf
    refine ⟨⟨rfl, hc1, hf1⟩, fun w3 hw3 => ?_⟩
    obtain ⟨ho3, hg3⟩ := hst (98#8)
    obtain rfl : w3 = w2.setCell ⟨g, 0 + (((xs.length + 1 : Nat) : Int) - 1).toNat, none⟩ (u8v 98#8) := hw3
    conv => whnf
    refine ⟨rfl, (((hg.step (Gr.alloc _ _ none) (.inr (by simp))).step hg2 (.inl rfl)).step hg3 ?_)⟩
    rw [hag] at hb2
    rcases hb2 with hb2 | hb2
    · exact .inl hb2
    · refine .inr fun g' hg' => ?_
      cases hg'
      have e : g = (w1.alloc (.cells #[.int .u8 ((99#8).toNat : Int)] 5)).heap.size := Option.some.inj hb2
      rw [World.size_alloc] at e
      omega

/-- octet.Get -/
theorem get_calls {w : World} {a : Option Addr} {c : Nat} {bs : List (BitVec 8)} (h : Sl u8v w a bs) (hl : bs.length ≤ 2147483648) (at_ width : Int) (hat : -9223372036854775808 ≤ at_) :
    Calls Try.prog 46 #[.slice a bs.length c, .int .i64 at_, .int .i64 width] w (Ret fun v w' => v = .tuple #[.int .u64 (getF bs at_ width).1, .int .i64 (getF bs at_ width).2] ∧ w' = w) := by
  refine calls_of_vc lok Try.func46 ?_ rfl
  conv => whnf
  refine vcReg_meet lok (fun β : Bool => [(25, .bool β)]) (fun β w' => w' = w ∧ β = decide (width < 1 ∨ 8 < width ∨ at_ < 0 ∨ (bs.length : Int) < at_)) [25] (fun _ => rfl) rfl ?_ ?_
  · conv => whnf
    refine bcase (fun h1 => ?_) (fun h1 => ?_)
    · conv => whnf
      exact ⟨_, ⟨rfl, trivial⟩, rfl, by have := dt h1; simp; omega⟩
    · conv => whnf
      refine bcase (fun h2 => ?_) (fun h2 => ?_)
      · conv => whnf
        exact ⟨_, ⟨rfl, trivial⟩, rfl, by have := dt h2; simp; omega⟩
      · conv => whnf
        refine bcase (fun h3 => ?_) (fun h3 => ?_)
        · conv => whnf
          exact ⟨_, ⟨rfl, trivial⟩, rfl, by have := dt h3; simp; omega⟩
        · conv => whnf
          exact ⟨_, ⟨rfl, trivial⟩, rfl, by have := df h1; have := df h2; have := df h3; exact decide_eq_decide.2 (by omega)⟩
  rintro β w' ⟨rfl, hβ⟩
  conv => whnf
  refine vcCond_split lok rfl (fun h1 => ?_) (fun h1 => ?_) <;> rw [h1] at hβ
  · have hβ := dt hβ.symm
    conv => whnf
    have e : getF bs at_ width = (0, 1) := if_pos hβ
    rw [e]
    exact ⟨rfl, rfl⟩
  have hβ := df hβ.symm
  obtain ⟨k, rfl⟩ := Int.eq_ofNat_of_zero_le (a := width) (by omega)
  obtain ⟨t, rfl⟩ := Int.eq_ofNat_of_zero_le (a := at_) (by omega)
  conv => whnf
  refine ⟨by omega, ?_⟩
  conv => whnf
  have e0 : getF bs t k = if (bs.length : Int) - t < k then (0, 2) else (decN ((bs.drop t).take k), 0) := by
    unfold getF; rw [if_neg hβ]; simp
  refine vcCond_split lok rfl (fun h1 => ?_) (fun h1 => ?_)
  · conv => whnf
    rw [e0, if_pos (dt h1)]
    exact ⟨rfl, rfl⟩
  have h1 := df h1
  rw [e0, if_neg h1]
  conv => whnf
  refine vcLoop_inv lok (σ := Nat)
    (fun j => [(33, .int .i64 j), (32, .int .i64 k), (8, .int .u64 (decN ((bs.drop t).take j))), (0, .slice a bs.length c), (1, .int .i64 t)])
    (fun j w1 => j ≤ k ∧ w1 = w') (fun j => k - j) 0 ⟨rfl, rfl, rfl, rfl, rfl, trivial⟩ ⟨Nat.zero_le _, rfl⟩ ?_
  rintro j w1 ⟨hj, rfl⟩
  conv => whnf
  refine vcCond_split lok rfl (fun h5 => ?_) (fun h5 => ?_)
  · have h5 := dt h5
    conv => whnf
    refine ⟨by omega, ?_⟩
    conv => whnf
    obtain ⟨p, o, ha, hcell⟩ := h.at ((t : Int) + j) (by omega) (by omega)
    refine ⟨p, o, ha, ⟨by omega, by omega⟩, ?_⟩
    conv => whnf
    refine ⟨_, hcell, ?_⟩
    conv => whnf
    have e1 : ((t : Int) + j).toNat = t + j := by omega
    rw [e1]
    have hb := (bs.getD (t + j) default).isLt
    intro z hz
    obtain rfl : z = ((bs.getD (t + j) default).toNat : Int) := by rw [hz, wu64]; omega
    conv => whnf
    intro z2 hz2
    obtain rfl : z2 = (j : Int) := by rw [hz2, wu64]; omega
    conv => whnf
    intro z3 hz3
    obtain rfl : z3 = 8 * (j : Int) := by rw [hz3, wu64]; omega
    conv => whnf
    refine ⟨by omega, ?_⟩
    conv => whnf
    intro z4 hz4
    subst hz4
    conv => whnf
    intro z5 hz5
    have hlen : ((bs.drop t).take j).length = j := by simp; omega
    have hlt := decN_lt ((bs.drop t).take j)
    rw [hlen] at hlt
    rw [or_up _ _ j hlt hb (by omega)] at hz5
    have e2 : decN ((bs.drop t).take (j + 1)) = decN ((bs.drop t).take j) + 256 ^ j * (bs.getD (t + j) default).toNat := by
      rw [take_succ_getD _ _ (by simp; omega), decN_append, hlen, drop_getD, decN_single]
    rw [← e2] at hz5
    subst hz5
    conv => whnf
    refine ⟨by omega, ?_⟩
    conv => whnf
    exact ⟨j + 1, ⟨rfl, rfl, rfl, rfl, rfl, trivial⟩, ⟨by omega, rfl⟩, by omega⟩
  · have h5 := df h5
    obtain rfl : j = k := by omega
    conv => whnf
    exact ⟨rfl, rfl⟩

end Go.Proofs.Ytgipackjnncabaa
