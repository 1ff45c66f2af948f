/- The law OctetWords, walked. -/
import Derived.Test.YtgipackjnncabaaW02f
import Derived.Test.YtgipackjnncabaaL02d
set_option linter.unusedVariables false
namespace Go.Proofs.Ytgipackjnncabaa
open Go.Vc Go.RowKit

theorem sign_plain (s : Int) (h0 : -2147483648 ≤ s) (h1 : s < 2147483648) : signF (s % 4294967296).toNat = s := by
  unfold signF
  split <;> omega

set_option maxHeartbeats 4000000 in
theorem octetWords_walk {w : World} {a b : Option Addr} {c d : Nat} {bs : List (BitVec 8)} {ws : List (BitVec 32)} (h : Sl u8v w a bs) (hb : Sl u32v w b ws) (s : Int) (hs0 : -2147483648 ≤ s) (hs1 : s < 2147483648) :
    Calls Try.prog 7 #[.slice a bs.length c, .slice b ws.length d, .int .i32 s] w (Law w) := by
  refine calls_of_vc lok Try.func7 ?_ rfl
  conv => whnf
  refine vcReg_meet lok (fun β : Bool => [(18, .bool β)]) (fun β w' => w' = w ∧ β = decide (65536 < bs.length ∨ 65536 < ws.length)) [18] (fun _ => rfl) rfl ?_ ?_
  · conv => whnf
    refine bcase (fun h1 => ?_) (fun h1 => ?_)
    · conv => whnf
      exact ⟨_, ⟨rfl, trivial⟩, rfl, by have := dt h1; simp; omega⟩
    · conv => whnf
      exact ⟨_, ⟨rfl, trivial⟩, rfl, by have := df h1; rw [decide_eq_decide]; omega⟩
  rintro β w' ⟨rfl, hβ⟩
  conv => whnf
  refine vcCond_split lok rfl (fun h1 => ?_) (fun h1 => ?_)
  · conv => whnf
    refine Calls.ret (known02) ?_
    rintro _ w1 ⟨rfl, hx1⟩
    conv => whnf
    exact ⟨rfl, hx1⟩
  rw [hβ] at h1
  have hl := df h1
  conv => whnf
  refine Calls.ret (lent_calls h (by omega)) ?_
  rintro _ w1 ⟨a1, c1, rfl, ho1, hx1⟩
  conv => whnf
  have hs1' : Sl u8v w1 a1 bs := by simpa using ho1.sl.take bs.length
  have hc1 : bs.length + 1 ≤ c1 := by simpa using ho1.le.1
  refine Calls.ret (words_calls hs1' (by omega)) ?_
  rintro _ w2 ⟨a2, c2, rfl, ho2, hx2⟩
  conv => whnf
  have x02 := hx1.trans hx2
  have hwl : (wordsF bs).length ≤ 2147483648 := by rw [wordsF_len]; omega
  refine vcDraw_meet lok mixed (Ext w2) [2, 3, 7, 11, 14] [0, 1, 2, 3, 4, 5, 6, 7, 8, 9, 10, 13, 11, 12, 14, 15, 16, 17, 18, 19, 21, 20, 22, 23, 24, 25]
    (fun _ : Unit => [(9, .bool true)]) (fun _ w3 => Ext w2 w3) [9] (fun _ => rfl) rfl (by kernel_rfl) (fun w3 hw3 => ⟨hw3 ▸ Ext.drew w2, ?_⟩) ?_
  · have x3 : Ext w2 w3 := hw3 ▸ Ext.drew w2
    conv => whnf
    refine Calls.ret (rwords_calls (h.ext (x02.trans x3)) (by omega)) ?_
    rintro _ w4 ⟨a4, c4, rfl, ho4, hx4⟩
    conv => whnf
    have x4 := x3.trans hx4
    refine ⟨Ext w2, fun _ h => h, x4, ?_⟩
    conv => whnf
    refine Calls.ret (same_calls (ho2.sl.ext x4) ho4.sl hwl) ?_
    rintro _ w5 ⟨rfl, hx5⟩
    conv => whnf
    have x5 := x4.trans hx5
    refine ⟨Ext w2, fun _ h => h, x5, ?_⟩
    conv => whnf
    refine bcase (fun h5 => ?_) (fun h5 => absurd rfl (df h5))
    conv => whnf
    refine Calls.ret (kept_calls (ho1.ext (hx2.trans x5)).sl (h.ext (x02.trans x5)) hc1 (by omega)) ?_
    rintro _ w6 ⟨rfl, hw6⟩
    conv => whnf
    subst hw6
    refine ⟨Ext w2, fun _ h => h, x5, ?_⟩
    conv => whnf
    refine Calls.ret (bytes_calls (hb.ext (x02.trans x5)) (by omega)) ?_
    rintro _ w6 ⟨a6, c6, rfl, ho6, hx6⟩
    conv => whnf
    have x6 := x5.trans hx6
    refine ⟨fun w => Ext w2 w ∧ Sl u8v w a6 (bytesF ws), fun _ h => h.1, ⟨x6, ho6.sl⟩, ?_⟩
    conv => whnf
    refine ⟨_, fun w5 hw5 => run_toStr hw5.2, ?_⟩
    conv => whnf
    refine Calls.ret (rbytes_calls (hb.ext (x02.trans x6)) (by omega)) ?_
    rintro _ w7 ⟨a7, c7, rfl, ho7, hx7⟩
    conv => whnf
    have x7 := x6.trans hx7
    refine ⟨fun w => (Ext w2 w ∧ Sl u8v w a6 (bytesF ws)) ∧ Sl u8v w a7 (bytesF ws), fun _ h => h.1, ⟨⟨x7, ho6.sl.ext hx7⟩, ho7.sl⟩, ?_⟩
    conv => whnf
    refine ⟨_, fun w5 hw5 => run_toStr hw5.2, ?_⟩
    conv => whnf
    intro γ hγ
    have hγ2 : γ = true := by rw [str_eq hγ rfl rfl]; simp
    clear hγ
    subst hγ2
    conv => whnf
    refine Calls.ret (plain_calls s hs0 hs1) ?_
    rintro _ w8 ⟨rfl, hw8⟩
    conv => whnf
    subst hw8
    refine Calls.ret (rplain_calls s hs0 hs1) ?_
    rintro _ w8 ⟨rfl, hw8⟩
    conv => whnf
    subst hw8
    exact ⟨(), ⟨by rw [decide_eq_true (rfl : s % 4294967296 = s % 4294967296)]; rfl, trivial⟩, x7⟩
  rintro _ w3 x3
  conv => whnf
  refine vcLoop_inv lok (σ := Nat)
    (fun i => [(10, .int .i64 i), (9, .bool true), (1, .slice b ws.length d), (2, .int .i32 s)])
    (fun i w4 => i ≤ ws.length ∧ Ext w3 w4) (fun i => ws.length - i)
    0 ⟨rfl, rfl, rfl, rfl, trivial⟩ ⟨Nat.zero_le _, Ext.refl _⟩ ?_
  rintro i w4 ⟨hi, x4⟩
  conv => whnf
  refine vcCond_split lok rfl (fun h2 => ?_) (fun h2 => ?_)
  · have h2 := dt h2
    conv => whnf
    have hlt : i < ws.length := by omega
    have gx : ws.getD (i : Int).toNat default = ws[i] := by simp [List.getD, List.getElem?_eq_getElem hlt]
    refine vcDraw_go lok mixed (fun w1 => w1 = w4.drew) [6] [0, 1, 2, 3, 4, 5, 7, 8, 9, 10, 6, 11, 12, 13, 14] (by kernel_rfl) fun w5 hw5 => ⟨hw5, ?_⟩
    have x5 : Ext w4 w5 := hw5 ▸ Ext.drew w4
    conv => whnf
    have g1 := (hb.ext (((x02.trans x3).trans x4).trans x5)).at (i : Int) (by omega) (by omega)
    obtain ⟨p, o, ha, hcell⟩ := g1
    rw [gx] at hcell
    have hxl := ws[i].isLt
    generalize ws[i] = x at *
    refine ⟨p, o, ha, ⟨by omega, by omega⟩, ?_⟩
    conv => whnf
    refine ⟨_, fun w6 hw6 => by rw [hw6, ← hw5]; exact hcell, ?_⟩
    conv => whnf
    refine ⟨p, o, ha, ⟨by omega, by omega⟩, ?_⟩
    conv => whnf
    refine ⟨_, fun w6 hw6 => by rw [hw6, ← hw5]; exact hcell, ?_⟩
    conv => whnf
    refine Calls.ret (signed_calls x.toNat hxl) ?_
    rintro _ w6 ⟨rfl, hw6⟩
    conv => whnf
    subst hw6
    refine ⟨_, fun _ h => h, hw5, ?_⟩
    conv => whnf
    refine Calls.ret (rsigned_calls x.toNat hxl) ?_
    rintro _ w6 ⟨rfl, hw6⟩
    conv => whnf
    subst hw6
    refine ⟨by omega, ?_⟩
    conv => whnf
    exact ⟨i + 1, ⟨rfl, by rw [decide_eq_true (rfl : signF x.toNat = signF x.toNat)]; rfl, rfl, rfl, trivial⟩, ⟨by omega, x4.trans x5⟩, by omega⟩
  · have h2 := df h2
    conv => whnf
    refine vcReg_go lok ?_
    conv => whnf
    refine Calls.ret (plain_calls s hs0 hs1) ?_
    rintro _ w8 ⟨rfl, hw8⟩
    conv => whnf
    subst hw8
    have esm : s % 4294967296 = ((s % 4294967296).toNat : Int) := by omega
    rw [esm]
    refine Calls.ret (signed_calls (s % 4294967296).toNat (by omega)) ?_
    rintro _ w8 ⟨rfl, hw8⟩
    conv => whnf
    subst hw8
    rw [sign_plain s hs0 hs1]
    conv => whnf
    refine bcase (fun h5 => ?_) (fun h5 => absurd rfl (df h5))
    conv => whnf
    refine Calls.ret (known02) ?_
    rintro _ w9 ⟨rfl, hx9⟩
    conv => whnf
    exact ⟨rfl, ((x02.trans x3).trans x4).trans hx9⟩
end Go.Proofs.Ytgipackjnncabaa
