/- The law OctetWhole, walked. -/
import Derived.Test.YtgipackjnncabaaPl02b
set_option linter.unusedVariables false
namespace Go.Proofs.Ytgipackjnncabaa
open Go.Vc Go.RowKit

theorem octetWhole_walk {w : World} {a b : Option Addr} {c d : Nat} {bs : List (BitVec 8)} {ws : List (BitVec 32)} (h : Sl u8v w a bs) (hb : Sl u32v w b ws) (hc : bs.length ≤ c) :
    Calls Try.prog 6 #[.slice a bs.length c, .slice b ws.length d] w (Law w) := by
  refine calls_of_vc lok Try.func6 ?_ rfl
  conv => whnf
  refine vcReg_meet lok (fun β : Bool => [(14, .bool β)]) (fun β w' => w' = w ∧ β = decide (65536 < bs.length ∨ 65536 < ws.length)) [14] (fun _ => rfl) rfl ?_ ?_
  · conv => whnf
    refine bcase (fun h1 => ?_) (fun h1 => ?_)
    · conv => whnf
      exact ⟨_, ⟨rfl, trivial⟩, rfl, by have := dt h1; simp; omega⟩
    · conv => whnf
      exact ⟨_, ⟨rfl, trivial⟩, rfl, by have := df h1; rw [decide_eq_decide]; omega⟩
  rintro β w' ⟨rfl, hβ⟩
  conv => whnf
  refine vcCond_split lok rfl (fun h1 => ?_) (fun h1 => ?_)
  · conv => whnf
    refine Calls.ret (known02) ?_
    rintro _ w1 ⟨rfl, hx1⟩
    conv => whnf
    exact ⟨rfl, hx1⟩
  rw [hβ] at h1
  have hl := df h1
  conv => whnf
  refine Calls.ret (words_calls h (by omega)) ?_
  rintro _ w1 ⟨a1, c1, rfl, ho1, hx1⟩
  conv => whnf
  refine Calls.ret (bytes_calls ho1.sl (by rw [wordsF_len]; omega)) ?_
  rintro _ w2 ⟨a2, c2, rfl, ho2, hx2⟩
  conv => whnf
  have hxl := bytes_words_len bs
  have htk := bytes_words_take bs
  have hgt := bytes_words_get bs
  generalize bytesF (wordsF bs) = xs at *
  have hle := ho2.le
  refine vcDraw_go lok mixed (fun w1 => w1 = w2.drew) [] [0, 1, 2, 3, 4, 5, 6, 7, 8, 9, 10, 11, 12, 13, 14, 15, 16, 17, 18, 19, 20, 21, 22, 23, 24, 25, 26, 27, 28] (by kernel_rfl) fun w3 hw3 => ⟨hw3, ?_⟩
  have x3 : Ext w2 w3 := hw3 ▸ Ext.drew w2
  have x03 : Ext _ w3 := (hx1.trans hx2).trans x3
  conv => whnf
  refine bcase (fun h5 => absurd (dt h5) (by omega)) (fun h5 => ?_)
  conv => whnf
  refine ⟨by omega, ?_⟩
  conv => whnf
  refine bcase (fun h5 => absurd (dt h5) (by omega)) (fun h5 => ?_)
  conv => whnf
  refine ⟨by omega, ?_⟩
  intro z hz
  have hz0 : z = 0 := by rw [hz, Int.tmod_eq_emod_of_nonneg (by omega)]; omega
  subst hz0
  conv => whnf
  refine ⟨by omega, ?_⟩
  conv => whnf
  have hs3 : Sl u8v w3 a2 (xs.take bs.length) := (ho2.sl.ext x3).take _
  rw [htk] at hs3
  refine ⟨_, fun w5 hw5 => by rw [hw5, ← hw3]; exact run_toStr hs3, ?_⟩
  conv => whnf
  refine ⟨_, fun w5 hw5 => by rw [hw5, ← hw3]; exact run_toStr (h.ext x03), ?_⟩
  conv => whnf
  intro γ hγ
  obtain rfl : γ = true := by rw [str_eq hγ rfl rfl]; simp
  conv => whnf
  refine vcCond_false lok (rfl) ?_
  conv => whnf
  refine vcLoop_inv lok (σ := Nat)
    (fun i => [(6, .int .i64 (bs.length + i : Nat)), (5, .slice a2 xs.length c2), (0, .slice a bs.length c), (1, .slice b ws.length d)])
    (fun i w4 => bs.length + i ≤ xs.length ∧ w4 = w3) (fun i => xs.length - i)
    0 ⟨rfl, rfl, rfl, rfl, trivial⟩ ⟨by omega, rfl⟩ ?_
  rintro i w4 ⟨hi, rfl⟩
  conv => whnf
  refine vcCond_split lok rfl (fun h2 => ?_) (fun h2 => ?_)
  · have h2 := dt h2
    conv => whnf
    have g25 := (ho2.sl.ext x3).at (((bs.length + i : Nat) : Int)) (by omega) (by omega)
    obtain ⟨p25, o25, ha25, hcell25⟩ := g25
    refine ⟨p25, o25, ha25, ⟨by omega, by omega⟩, ?_⟩
    conv => whnf
    refine ⟨_, hcell25, ?_⟩
    conv => whnf
    have hv : xs.getD ((bs.length + i : Nat) : Int).toNat default = 255#8 := by
      have h6 := hgt (bs.length + i) (by omega)
      have e1 : xs.getD (bs.length + i) 255#8 = xs.getD (bs.length + i) default := by
        simp only [List.getD]
        rw [List.getElem?_eq_getElem (by omega)]
        rfl
      have e2 : bs.getD (bs.length + i) 255#8 = 255#8 := by
        simp only [List.getD]
        rw [List.getElem?_eq_none (by omega)]
        rfl
      rw [e1, e2] at h6
      exact h6
    rw [hv]
    refine vcCond_false lok (rfl) ?_
    conv => whnf
    refine ⟨by omega, ?_⟩
    conv => whnf
    exact ⟨i + 1, ⟨rfl, rfl, rfl, rfl, trivial⟩, ⟨by omega, rfl⟩, by omega⟩
  · have h2 := df h2
    conv => whnf
    refine vcReg_go lok ?_
    conv => whnf
    refine Calls.ret (bytes_calls (hb.ext x03) (by omega)) ?_
    rintro _ w5 ⟨a5, c5, rfl, ho5, hx5⟩
    conv => whnf
    refine Calls.ret (words_calls ho5.sl (by rw [bytesF_len]; omega)) ?_
    rintro _ w6 ⟨a6, c6, rfl, ho6, hx6⟩
    conv => whnf
    rw [words_bytes] at ho6
    have e7 : (wordsF (bytesF ws)).length = ws.length := by rw [words_bytes]
    rw [e7]
    refine Calls.ret (same_calls ho6.sl (((hb.ext x03).ext hx5).ext hx6) (by omega)) ?_
    rintro _ w7 ⟨rfl, hx7⟩
    conv => whnf
    refine bcase (fun h7 => ?_) (fun h7 => absurd rfl (df h7))
    conv => whnf
    refine Calls.ret (known02) ?_
    rintro _ w8 ⟨rfl, hx8⟩
    conv => whnf
    exact ⟨rfl, (((x03.trans hx5).trans hx6).trans hx7).trans hx8⟩
end Go.Proofs.Ytgipackjnncabaa
