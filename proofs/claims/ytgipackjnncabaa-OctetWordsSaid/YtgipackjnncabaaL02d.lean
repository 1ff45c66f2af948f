/- The law OctetRow, walked. -/
import Derived.Test.YtgipackjnncabaaL02c
import Derived.Test.YtgipackjnncabaaSh
set_option linter.unusedVariables false
namespace Go.Vc
open Go.RowKit

/-- a slice of bytes as a cell: its address, its capacity, what it reads as -/
def rowv (x : Option Addr × Nat × List (BitVec 8)) : Value := .slice x.1 x.2.2.length x.2.1
theorem fit_rows {w : World} {a : Option Addr} {len cap : Nat} (h : Fit w (.slice 1 (.slice 1 (.int .u8))) [.slice a len cap]) :
    ∃ xs : List (Option Addr × Nat × List (BitVec 8)), xs.length = len ∧ Sl rowv w a xs ∧ len ≤ cap ∧ ∀ x ∈ xs, Sl u8v w x.1 x.2.2 ∧ x.2.2.length ≤ x.2.1 := by
  obtain ⟨xs, h1, h2, h3, _, h5⟩ := fit_slice1 (f := rowv) (R := fun x => Sl u8v w x.1 x.2.2 ∧ x.2.2.length ≤ x.2.1) h fun v hf => by
    obtain ⟨b, l, c, hv, h1, h2, h3⟩ := hf
    obtain ⟨bs, e1, e2, e3⟩ := fit_u8 (w := w) (a := b) (len := l) (cap := c) ⟨b, l, c, rfl, h1, h2, h3⟩
    refine ⟨(b, c, bs), ?_, e2, by rw [e1]; exact e3⟩
    cases hv
    simp [rowv, e1]
  exact ⟨xs, h1, h2, h3, h5⟩
end Go.Vc
namespace Go.Proofs.Ytgipackjnncabaa
open Go.Vc Go.RowKit

/-- runs, one behind the other -/
def rowF (l : List (Option Addr × Nat × List (BitVec 8))) : List (BitVec 8) := l.flatMap fun x => [BitVec.ofNat 8 x.2.2.length, BitVec.ofNat 8 (x.2.2.length / 256)] ++ x.2.2
theorem rowF_snoc (l : List (Option Addr × Nat × List (BitVec 8))) (x : Option Addr × Nat × List (BitVec 8)) : rowF (l ++ [x]) = rowF l ++ [BitVec.ofNat 8 x.2.2.length, BitVec.ofNat 8 (x.2.2.length / 256)] ++ x.2.2 := by
  unfold rowF
  rw [List.flatMap_append]
  simp
theorem rowF_le : ∀ l : List (Option Addr × Nat × List (BitVec 8)), (∀ x ∈ l, x.2.2.length ≤ 2000) → (rowF l).length ≤ 2002 * l.length
  | [], _ => by simp [rowF]
  | x :: l, h => by
    have h1 := rowF_le l fun y hy => h y (List.mem_cons_of_mem _ hy)
    have h2 := h x List.mem_cons_self
    have e : (rowF (x :: l)).length = 2 + x.2.2.length + (rowF l).length := by
      unfold rowF
      rw [List.flatMap_cons]
      simp
      omega
    rw [e, List.length_cons]
    omega

theorem getRun_row (p x r : List (BitVec 8)) (hx : x.length ≤ 65535) : getRunF (p ++ [BitVec.ofNat 8 x.length, BitVec.ofNat 8 (x.length / 256)] ++ x ++ r) p.length = (x, (p.length : Int) + 2 + x.length, 0) := by
  have e1 : (p ++ [BitVec.ofNat 8 x.length, BitVec.ofNat 8 (x.length / 256)] ++ x ++ r).drop p.length = [BitVec.ofNat 8 x.length, BitVec.ofNat 8 (x.length / 256)] ++ x ++ r := by
    rw [List.append_assoc, List.append_assoc, List.drop_left, List.append_assoc]
  have e2 : decN [BitVec.ofNat 8 x.length, BitVec.ofNat 8 (x.length / 256)] = x.length := by
    simp only [decN, BitVec.toNat_ofNat]
    omega
  have e3 : (p ++ [BitVec.ofNat 8 x.length, BitVec.ofNat 8 (x.length / 256)] ++ x ++ r).drop (p.length + 2) = x ++ r := by
    rw [← List.drop_drop, e1]
    rfl
  unfold getRunF
  rw [Int.toNat_natCast, e1, e3, show ([BitVec.ofNat 8 x.length, BitVec.ofNat 8 (x.length / 256)] ++ x ++ r).take 2 = [BitVec.ofNat 8 x.length, BitVec.ofNat 8 (x.length / 256)] from rfl, e2]
  rw [if_neg (by simp; omega), if_neg (by simp; omega), if_neg (by simp; omega)]
  simp
theorem getRun_end (p : List (BitVec 8)) : getRunF p p.length = ([], 0, 2) := by
  unfold getRunF
  rw [if_neg (by omega), if_pos (by omega)]

theorem rowF_split (l : List (Option Addr × Nat × List (BitVec 8))) (i : Nat) (hi : i < l.length) :
    rowF l = rowF (l.take i) ++ [BitVec.ofNat 8 l[i].2.2.length, BitVec.ofNat 8 (l[i].2.2.length / 256)] ++ l[i].2.2 ++ rowF (l.drop (i + 1)) := by
  have e : l = l.take i ++ l[i] :: l.drop (i + 1) := by rw [← List.drop_eq_getElem_cons hi, List.take_append_drop]
  conv => lhs; rw [e]
  unfold rowF
  rw [List.flatMap_append, List.flatMap_cons]
  simp

set_option maxHeartbeats 2000000 in
theorem octetRow_walk {w : World} {a : Option Addr} {c : Nat} {xs : List (Option Addr × Nat × List (BitVec 8))} (h : Sl rowv w a xs) (hr : ∀ x ∈ xs, Sl u8v w x.1 x.2.2 ∧ x.2.2.length ≤ x.2.1) :
    Calls Try.prog 9 #[.slice a xs.length c] w (Law w) := by
  refine calls_of_vc lok Try.func9 ?_ rfl
  conv => whnf
  refine vcCond_split lok rfl (fun h1 => ?_) (fun h1 => ?_)
  · conv => whnf
    refine Calls.ret (known02) ?_
    rintro _ w1 ⟨rfl, hx1⟩
    conv => whnf
    exact ⟨rfl, hx1⟩
  have h1 := df h1
  conv => whnf
  refine vcLoop_inv lok (σ := Nat × Option Addr × Nat)
    (fun ⟨i, b, d⟩ => [(4, .int .i64 i), (3, .slice b (rowF (xs.take i)).length d), (0, .slice a xs.length c)])
    (fun ⟨i, b, d⟩ w1 => i ≤ xs.length ∧ Sl u8v w1 b (rowF (xs.take i)) ∧ (rowF (xs.take i)).length ≤ d ∧ (∀ x ∈ xs.take i, x.2.2.length ≤ 2000) ∧ Ext w w1) (fun s => xs.length - s.1)
    (0, none, 0) ⟨rfl, rfl, rfl, trivial⟩ ⟨Nat.zero_le _, .inl rfl, Nat.le_refl _, by simp, Ext.refl _⟩ ?_
  rintro ⟨i, b, d⟩ w1 ⟨hi, ho1, hd1, hsm, hx1⟩
  conv => whnf
  refine vcCond_split lok rfl (fun h2 => ?_) (fun h2 => ?_)
  · have h2 := dt h2
    conv => whnf
    have hlt : i < xs.length := by omega
    have g9 := (h.ext hx1).at ((i : Int)) (by omega) (by omega)
    obtain ⟨p9, o9, ha9, hcell9⟩ := g9
    refine ⟨p9, o9, ha9, ⟨by omega, by omega⟩, ?_⟩
    conv => whnf
    refine ⟨_, hcell9, ?_⟩
    conv => whnf
    have gx : xs.getD (i : Int).toNat default = xs[i] := by simp [List.getD, List.getElem?_eq_getElem hlt]
    have hxi := hr xs[i] (List.getElem_mem hlt)
    have ets : xs.take (i + 1) = xs.take i ++ [xs[i]] := List.take_succ_eq_append_getElem hlt
    rw [gx]
    generalize xs[i] = x at *
    obtain ⟨x1, x2, x3⟩ := x
    conv => whnf
    refine vcCond_split lok rfl (fun h3 => ?_) (fun h3 => ?_)
    · conv => whnf
      refine Calls.ret (known02) ?_
      rintro _ w2 ⟨rfl, hx2⟩
      conv => whnf
      exact ⟨rfl, hx1.trans hx2⟩
    have h3 := df h3
    conv => whnf
    have hx3 : x3.length ≤ 2000 := by
      have h3 : ¬ ((2000 : Int) < (x3.length : Int)) := h3
      omega
    have hsm2 : ∀ x ∈ xs.take (i + 1), x.2.2.length ≤ 2000 := by
      rw [ets]
      intro y hy
      rcases List.mem_append.1 hy with hy | hy
      · exact hsm y hy
      · have : y = (x1, x2, x3) := by simpa using hy
        rw [this]; exact hx3
    have hrl := rowF_le _ hsm
    rw [List.length_take] at hrl
    have g15 := (h.ext hx1).at ((i : Int)) (by omega) (by omega)
    obtain ⟨p15, o15, ha15, hcell15⟩ := g15
    refine ⟨p15, o15, ha15, ⟨by omega, by omega⟩, ?_⟩
    conv => whnf
    refine ⟨_, hcell15, ?_⟩
    conv => whnf
    rw [gx]
    conv => whnf
    refine Calls.ret (putRun_calls ho1 (hxi.1.ext hx1) (by omega) (by omega)) ?_
    rintro _ w2 ⟨a2, c2, rfl, ho2, hx2⟩
    conv => whnf
    have epr : putRunF (rowF (xs.take i)) x3 = (rowF (xs.take (i + 1)), 0) := by
      unfold putRunF
      rw [if_neg (by omega), ets, rowF_snoc]
    rw [epr] at ho2 ⊢
    conv => whnf
    refine vcCond_false lok (rfl) ?_
    conv => whnf
    refine ⟨by omega, ?_⟩
    conv => whnf
    exact ⟨(i + 1, a2, c2), ⟨rfl, rfl, rfl, trivial⟩, ⟨by omega, ho2.sl, ho2.le.1, hsm2, hx1.trans hx2⟩, by omega⟩
  have h2 := df h2
  conv => whnf
  obtain rfl : i = xs.length := by omega
  have e0 : rowF (xs.take xs.length) = rowF xs := by rw [List.take_length]
  rw [List.take_length] at hsm
  have hrl := rowF_le _ hsm
  refine vcLoop_inv lok (σ := Nat)
    (fun i => [(8, .int .i64 i), (7, .int .i64 (rowF (xs.take i)).length), (3, .slice b (rowF (xs.take xs.length)).length d), (0, .slice a xs.length c)])
    (fun i w2 => i ≤ xs.length ∧ Ext w1 w2) (fun s => xs.length - s)
    0 ⟨rfl, rfl, rfl, rfl, trivial⟩ ⟨Nat.zero_le _, Ext.refl _⟩ ?_
  rintro i w2 ⟨hi2, hx2⟩
  conv => whnf
  refine vcCond_split lok rfl (fun h3 => ?_) (fun h3 => ?_)
  · have h3 := dt h3
    conv => whnf
    have hlt : i < xs.length := by omega
    refine Calls.ret (getRun_calls (ho1.ext hx2) (by rw [e0]; omega) hd1 (rowF (xs.take i)).length (by omega)) ?_
    rintro _ w3 ⟨a3, c3, rfl, ho3, hx3⟩
    conv => whnf
    rw [e0] at ho3 ⊢
    have hxi := hr xs[i] (List.getElem_mem hlt)
    have hxl := hsm xs[i] (List.getElem_mem hlt)
    have esp := rowF_split xs i hlt
    have ets : xs.take (i + 1) = xs.take i ++ [xs[i]] := List.take_succ_eq_append_getElem hlt
    have gx : xs.getD (i : Int).toNat default = xs[i] := by simp [List.getD, List.getElem?_eq_getElem hlt]
    generalize xs[i] = x at *
    obtain ⟨x1, x2, x3⟩ := x
    have hxl : x3.length ≤ 2000 := hxl
    have egr := getRun_row (rowF (xs.take i)) x3 (rowF (xs.drop (i + 1))) (by omega)
    rw [← esp] at egr
    rw [egr] at ho3 ⊢
    have hll : (rowF (xs.take i)).length ≤ (rowF xs).length := by rw [esp]; simp only [List.length_append]; omega
    conv => whnf
    refine vcDraw_go lok mixed (fun w1 => w1 = w3.drew) [] [0, 1, 2, 3, 4, 5, 6, 7, 8, 9, 10, 11, 12, 13, 14, 15, 16, 17, 18, 19, 20, 21, 22, 23] (by kernel_rfl) fun w4 hw4 => ⟨hw4, ?_⟩
    have x4 : Ext w3 w4 := hw4 ▸ Ext.drew w3
    have x04 : Ext w w4 := ((hx1.trans hx2).trans hx3).trans x4
    conv => whnf
    refine ⟨_, fun w5 hw5 => by rw [hw5, ← hw4]; exact run_toStr (ho3.sl.ext x4), ?_⟩
    conv => whnf
    have g1 := (h.ext x04).at (i : Int) (by omega) (by omega)
    obtain ⟨p, o, ha, hcell⟩ := g1
    rw [gx] at hcell
    refine ⟨p, o, ha, ⟨by omega, by omega⟩, ?_⟩
    conv => whnf
    refine ⟨_, fun w5 hw5 => by rw [hw5, ← hw4]; exact hcell, ?_⟩
    conv => whnf
    refine ⟨_, fun w5 hw5 => by rw [hw5, ← hw4]; exact run_toStr (hxi.1.ext x04), ?_⟩
    conv => whnf
    intro γ hγ
    obtain rfl : γ = true := by rw [str_eq hγ rfl rfl]; simp
    conv => whnf
    refine ⟨by omega, ?_⟩
    conv => whnf
    refine ⟨p, o, ha, ⟨by omega, by omega⟩, ?_⟩
    conv => whnf
    refine ⟨_, fun w5 hw5 => by rw [hw5, ← hw4]; exact hcell, ?_⟩
    conv => whnf
    refine ⟨by omega, ?_⟩
    conv => whnf
    refine vcCond_split lok rfl (fun h5 => absurd rfl (ne_true h5)) (fun h5 => ?_)
    conv => whnf
    refine ⟨by omega, ?_⟩
    conv => whnf
    refine ⟨i + 1, ⟨rfl, ?_, rfl, rfl, trivial⟩, ⟨by omega, (hx2.trans hx3).trans x4⟩, by omega⟩
    rw [ets, rowF_snoc]
    simp only [List.length_append, List.length_cons, List.length_nil]
    show some (Value.int .i64 (((rowF (xs.take i)).length : Int) + 2 + (x3.length : Int))) = _
    congr 2
  have h3 := df h3
  conv => whnf
  obtain rfl : i = xs.length := by omega
  refine Calls.ret (getRun_calls (ho1.ext hx2) (by rw [e0]; omega) hd1 (rowF (xs.take xs.length)).length (by omega)) ?_
  rintro _ w3 ⟨a3, c3, rfl, ho3, hx3⟩
  conv => whnf
  rw [getRun_end]
  conv => whnf
  refine vcReg_go lok ?_
  conv => whnf
  refine bcase (fun h5 => ?_) (fun h5 => absurd rfl (df h5))
  conv => whnf
  refine Calls.ret (known02) ?_
  rintro _ w4 ⟨rfl, hx4⟩
  conv => whnf
  exact ⟨rfl, ((hx1.trans hx2).trans hx3).trans hx4⟩
end Go.Proofs.Ytgipackjnncabaa
