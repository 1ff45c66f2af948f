/- The laws OctetPuts and OctetGets, walked. -/
import Derived.Test.YtgipackjnncabaaW02d
import Derived.Test.YtgipackjnncabaaFr
set_option linter.unusedVariables false
namespace Go.Proofs.Ytgipackjnncabaa
open Go.Vc Go.RowKit

/-- the law holds, and nothing that was there has turned -/
abbrev Law (w : World) : Ending → World → Prop := Ret fun v w' => v = .bool true ∧ Ext w w'

theorem octetPuts_walk {w : World} {a : Option Addr} {c : Nat} {bs : List (BitVec 8)} (h : Sl u8v w a bs) (width : Int) (n : Nat) (hn : n < 2 ^ 64) :
    Calls Try.prog 3 #[.slice a bs.length c, .int .i64 width, .int .u64 n] w (Law w) := by
  refine calls_of_vc lok Try.func3 ?_ rfl
  conv => whnf
  refine vcCond_split lok rfl (fun h1 => ?_) (fun h1 => ?_)
  · conv => whnf
    refine Calls.ret known02 ?_
    rintro _ w1 ⟨rfl, hx1⟩
    conv => whnf
    exact ⟨rfl, hx1⟩
  have hl := df h1
  conv => whnf
  refine Calls.ret (lent_calls h (by omega)) ?_
  rintro _ w1 ⟨a1, c1, rfl, ho1, hx1⟩
  have hs1 : Sl u8v w1 a1 bs := by simpa using ho1.sl.take bs.length
  have hc1 : bs.length + 1 ≤ c1 := by simpa using ho1.le.1
  conv => whnf
  refine Calls.ret (put_calls hs1 (by omega) width n hn) ?_
  rintro _ w2 ⟨a2, c2, rfl, ho2, hx2⟩
  conv => whnf
  refine Calls.ret (rput_calls (h.ext (hx1.trans hx2)) (by omega) width n hn) ?_
  rintro _ w3 ⟨a3, c3, rfl, ho3, hx3⟩
  have ho1' := ho1.ext (hx2.trans hx3)
  have h3 := h.ext ((hx1.trans hx2).trans hx3)
  have ho2' := ho2.ext hx3
  have hlen : (putF bs width n).1.length ≤ 2147483648 := by
    unfold putF
    split
    · simp
    · split
      · simp
      · simp [enc_len]; omega
  conv => whnf
  refine vcReg_go lok ?_
  conv => whnf
  refine ⟨_, run_toStr ho2'.sl, ?_⟩
  conv => whnf
  refine ⟨_, run_toStr ho3.sl, ?_⟩
  conv => whnf
  intro β hβ
  obtain rfl : β = true := by rw [str_eq hβ rfl rfl]; simp
  conv => whnf
  refine bcase (fun h5 => ?_) (fun h5 => absurd rfl (df h5))
  conv => whnf
  refine Calls.ret (kept_calls ho1'.sl h3 hc1 (by omega)) ?_
  rintro _ _ ⟨rfl, rfl⟩
  conv => whnf
  refine Calls.ret (spoil_calls ho2' (by have := hx1.size; have := hx2.size; have := hx3.size; omega) hlen) ?_
  rintro _ w4 ⟨rfl, hg4⟩
  have hx4 : Ext w1 w4 := hg4.extOf (hx2.trans hx3) (fun g hg => (ho2'.ge g hg).1)
  conv => whnf
  refine vcReg_go lok ?_
  conv => whnf
  refine Calls.ret (kept_calls (ho1.ext hx4).sl (h.ext (hx1.trans hx4)) hc1 (by omega)) ?_
  rintro _ _ ⟨rfl, rfl⟩
  conv => whnf
  refine Calls.ret known02 ?_
  rintro _ w5 ⟨rfl, hx5⟩
  conv => whnf
  exact ⟨rfl, (hx1.trans hx4).trans hx5⟩

theorem octetGets_walk {w : World} {a : Option Addr} {c : Nat} {bs : List (BitVec 8)} (h : Sl u8v w a bs) (at_ width : Int) (hat : -9223372036854775808 ≤ at_) :
    Calls Try.prog 4 #[.slice a bs.length c, .int .i64 at_, .int .i64 width] w (Law w) := by
  refine calls_of_vc lok Try.func4 ?_ rfl
  conv => whnf
  refine vcCond_split lok rfl (fun h1 => ?_) (fun h1 => ?_)
  · conv => whnf
    refine Calls.ret known02 ?_
    rintro _ w1 ⟨rfl, hx1⟩
    conv => whnf
    exact ⟨rfl, hx1⟩
  have hl := df h1
  conv => whnf
  refine Calls.ret (lent_calls h (by omega)) ?_
  rintro _ w1 ⟨a1, c1, rfl, ho1, hx1⟩
  have hs1 : Sl u8v w1 a1 bs := by simpa using ho1.sl.take bs.length
  have hc1 : bs.length + 1 ≤ c1 := by simpa using ho1.le.1
  conv => whnf
  refine Calls.ret (get_calls hs1 (by omega) at_ width hat) ?_
  rintro _ _ ⟨rfl, rfl⟩
  conv => whnf
  refine Calls.ret (rget_calls (h.ext hx1) (by omega) at_ width hat) ?_
  rintro _ _ ⟨rfl, rfl⟩
  conv => whnf
  refine vcReg_go lok ?_
  conv => whnf
  refine bcase (fun h5 => ?_) (fun h5 => absurd rfl (df h5))
  conv => whnf
  refine bcase (fun h5 => ?_) (fun h5 => absurd rfl (df h5))
  conv => whnf
  refine Calls.ret (kept_calls ho1.sl (h.ext hx1) hc1 (by omega)) ?_
  rintro _ _ ⟨rfl, rfl⟩
  conv => whnf
  refine Calls.ret known02 ?_
  rintro _ w5 ⟨rfl, hx5⟩
  conv => whnf
  exact ⟨rfl, hx1.trans hx5⟩

end Go.Proofs.Ytgipackjnncabaa
