/- The laws CrcSums, CrcSeals, CrcBack, CrcStarts, walked. -/
import Derived.Test.YtgipackjnncabaaW03b
set_option linter.unusedVariables false
namespace Go.Proofs.Ytgipackjnncabaa
open Go.Vc Go.RowKit

theorem int_eq {x y : BitVec 32} : ((x.toNat : Int) = (y.toNat : Int)) ↔ x = y := by
  constructor
  · intro h; exact BitVec.eq_of_toNat_eq (by omega)
  · rintro rfl; rfl

theorem crcSums_walk {w : World} {a : Option Addr} {c : Nat} {bs : List (BitVec 8)} (s : BitVec 32) (h : Sl u8v w a bs) :
    Calls Try.prog 10 #[.int .u32 s.toNat, .slice a bs.length c] w (Law w) := by
  refine calls_of_vc lok Try.func10 ?_ rfl
  conv => whnf
  refine vcCond_split lok rfl (fun h1 => ?_) (fun h1 => ?_)
  · conv => whnf
    refine Calls.ret (known03) ?_
    rintro _ w1 ⟨rfl, hx1⟩
    conv => whnf
    exact ⟨rfl, hx1⟩
  have h1 := df h1
  conv => whnf
  refine Calls.ret (lent_calls h (by omega)) ?_
  rintro _ w1 ⟨a1, c1, rfl, ho1, hx1⟩
  conv => whnf
  have hs1 : Sl u8v w1 a1 bs := by simpa using ho1.sl.take bs.length
  have hc1 : bs.length + 1 ≤ c1 := by simpa using ho1.le.1
  refine vcReg_go lok ?_
  conv => whnf
  refine Calls.ret (on_calls s hs1 (by omega)) ?_
  rintro _ w2 ⟨rfl, hx2⟩
  conv => whnf
  refine Calls.ret (ron_calls s (h.ext (hx1.trans hx2)) (by omega)) ?_
  rintro _ w3 ⟨rfl, hw3⟩
  conv => whnf
  subst hw3
  conv => whnf
  refine bcase (fun _ => ?_) (fun h5 => absurd rfl (df h5))
  conv => whnf
  refine Calls.ret (sum_calls (hs1.ext hx2) (by omega)) ?_
  rintro _ w4 ⟨rfl, hx4⟩
  conv => whnf
  refine Calls.ret (rsum_calls (h.ext ((hx1.trans hx2).trans hx4)) (by omega)) ?_
  rintro _ w5 ⟨rfl, hw5⟩
  conv => whnf
  subst hw5
  conv => whnf
  refine bcase (fun _ => ?_) (fun h5 => absurd rfl (df h5))
  conv => whnf
  refine Calls.ret (kept_calls (ho1.ext (hx2.trans hx4)).sl (h.ext ((hx1.trans hx2).trans hx4)) hc1 (by omega)) ?_
  rintro _ w5 ⟨rfl, hw5⟩
  conv => whnf
  subst hw5
  refine Calls.ret (known03) ?_
  rintro _ w6 ⟨rfl, hx6⟩
  conv => whnf
  exact ⟨rfl, ((hx1.trans hx2).trans hx4).trans hx6⟩

theorem crcStarts_walk {w : World} {a : Option Addr} {c : Nat} {bs : List (BitVec 8)} (x y : BitVec 32) (h : Sl u8v w a bs) :
    Calls Try.prog 17 #[.int .u32 x.toNat, .int .u32 y.toNat, .slice a bs.length c] w (Law w) := by
  refine calls_of_vc lok Try.func17 ?_ rfl
  conv => whnf
  refine vcCond_split lok rfl (fun h1 => ?_) (fun h1 => ?_)
  · conv => whnf
    refine Calls.ret (known03) ?_
    rintro _ w1 ⟨rfl, hx1⟩
    conv => whnf
    exact ⟨rfl, hx1⟩
  have h1 := df h1
  conv => whnf
  refine vcReg_go lok ?_
  conv => whnf
  refine Calls.ret (on_calls x h (by omega)) ?_
  rintro _ w2 ⟨rfl, hx2⟩
  conv => whnf
  refine Calls.ret (on_calls y (h.ext hx2) (by omega)) ?_
  rintro _ w3 ⟨rfl, hx3⟩
  conv => whnf
  have e : (decide (((onF x bs).toNat : Int) = ((onF y bs).toNat : Int)) == decide ((x.toNat : Int) = (y.toNat : Int))) = true := by
    rw [beq_iff_eq, decide_eq_decide, int_eq, int_eq, onF_inj]
  refine bcase (fun _ => ?_) (fun h5 => absurd (e.symm.trans h5) (by decide))
  conv => whnf
  refine Calls.ret (known03) ?_
  rintro _ w6 ⟨rfl, hx6⟩
  conv => whnf
  exact ⟨rfl, (hx2.trans hx3).trans hx6⟩

theorem open_seal (bs : List (BitVec 8)) : openF (sealF bs) = (bs, 0) := by
  have hl := sealF_len bs
  have e1 : (sealF bs).take ((sealF bs).length - 4) = bs := by
    rw [hl, show bs.length + 4 - 4 = bs.length by omega]
    exact List.take_left
  have e2 : (sealF bs).drop ((sealF bs).length - 4) = enc 4 (sumF bs).toNat := by
    rw [hl, show bs.length + 4 - 4 = bs.length by omega]
    exact List.drop_left
  unfold openF
  rw [if_neg (by omega), e1, e2, decN_enc, if_pos]
  apply BitVec.eq_of_toNat_eq
  have := (sumF bs).isLt
  rw [BitVec.toNat_ofNat, show (256 : Nat) ^ 4 = 2 ^ 32 from rfl, Nat.mod_mod, Nat.mod_eq_of_lt this]

theorem crcSeals_walk {w : World} {a : Option Addr} {c : Nat} {bs : List (BitVec 8)} (h : Sl u8v w a bs) (hc : bs.length ≤ c) :
    Calls Try.prog 11 #[.slice a bs.length c] w (Law w) := by
  refine calls_of_vc lok Try.func11 ?_ rfl
  conv => whnf
  refine vcCond_split lok rfl (fun h1 => ?_) (fun h1 => ?_)
  · conv => whnf
    refine Calls.ret (known03) ?_
    rintro _ w1 ⟨rfl, hx1⟩
    conv => whnf
    exact ⟨rfl, hx1⟩
  have h1 := df h1
  conv => whnf
  refine Calls.ret (lent_calls h (by omega)) ?_
  rintro _ w1 ⟨a1, c1, rfl, ho1, hx1⟩
  conv => whnf
  have hs1 : Sl u8v w1 a1 bs := by simpa using ho1.sl.take bs.length
  have hc1 : bs.length + 1 ≤ c1 := by simpa using ho1.le.1
  refine Calls.ret (seal_calls hs1 (by omega)) ?_
  rintro _ w2 ⟨a2, c2, rfl, ho2, hx2⟩
  conv => whnf
  refine Calls.ret (open_calls (hs1.ext hx2) (by omega) (by omega)) ?_
  rintro _ w3 ⟨a3, c3, rfl, ho3, hx3⟩
  conv => whnf
  refine Calls.ret (ropen_calls (h.ext ((hx1.trans hx2).trans hx3)) (by omega) hc) ?_
  rintro _ w4 ⟨a4, c4, rfl, ho4, hx4⟩
  conv => whnf
  have x04 := ((hx1.trans hx2).trans hx3).trans hx4
  have ho2' := ho2.ext (hx3.trans hx4)
  have ho3' := ho3.ext hx4
  have hsl := sealF_len bs
  have hol := open_len bs
  refine vcDraw_meet lok mixed (Ext w4) [3] [0, 1, 2, 3, 4, 5, 6, 7, 8, 9, 10, 11, 12, 13, 14, 15, 16, 17, 18]
    (fun _ : Unit => [(9, .bool true)]) (fun _ w3 => Ext w4 w3) [9] (fun _ => rfl) rfl (by kernel_rfl) (fun w5 hw5 => ⟨hw5 ▸ Ext.drew w4, ?_⟩) ?_
  · have x5 : Ext w4 w5 := hw5 ▸ Ext.drew w4
    conv => whnf
    refine ⟨_, fun w' hw' => run_toStr (ho2'.sl.ext hw'), ?_⟩
    conv => whnf
    refine Calls.ret (rseal_calls (h.ext (x04.trans x5)) (by omega)) ?_
    rintro _ w6 ⟨a6, c6, rfl, ho6, hx6⟩
    conv => whnf
    have x6 := x5.trans hx6
    refine ⟨fun w' => Ext w4 w' ∧ Sl u8v w' a6 (sealF bs), fun _ h => h.1, ⟨x6, ho6.sl⟩, ?_⟩
    conv => whnf
    refine ⟨_, fun w' hw' => run_toStr hw'.2, ?_⟩
    conv => whnf
    intro γ hγ
    have hγ2 : γ = true := by rw [str_eq hγ rfl rfl]; simp
    clear hγ
    subst hγ2
    conv => whnf
    refine ⟨_, fun w' hw' => run_toStr (ho3'.sl.ext hw'.1), ?_⟩
    conv => whnf
    refine ⟨_, fun w' hw' => run_toStr (ho4.sl.ext hw'.1), ?_⟩
    conv => whnf
    intro γ hγ
    have hγ2 : γ = true := by rw [str_eq hγ rfl rfl]; simp
    clear hγ
    subst hγ2
    conv => whnf
    exact ⟨(), ⟨by rw [decide_eq_true (rfl : (openF bs).2 = (openF bs).2)]; rfl, trivial⟩, x6⟩
  rintro _ w5 x5
  conv => whnf
  have z1 := hx1.size
  have z2 := hx2.size
  have z3 := hx3.size
  have z4 := hx4.size
  have z5 := x5.size
  refine Calls.ret (spoil_calls (ho2'.ext x5) (by omega) (by omega)) ?_
  rintro _ w6 ⟨rfl, hg6⟩
  conv => whnf
  have x16 : Ext w1 w6 := hg6.extOf (((hx2.trans hx3).trans hx4).trans x5) (fun g hg => (ho2'.ge g hg).1)
  have z6 := hg6.size
  have ho3'' : Own 5 u8v w2.heap.size w6 a3 c3 (openF bs).1 := hg6.keepOwn (ho3'.ext x5) (fun g hg h3 => by
    have h6 := (ho2.ge g h3).2
    have h7 := (ho3.ge g hg).1
    omega)
  refine Calls.ret (spoil_calls ho3'' (by omega) (by omega)) ?_
  rintro _ w7 ⟨rfl, hg7⟩
  conv => whnf
  have x17 : Ext w1 w7 := hg7.extOf x16 (fun g hg => by have := (ho3.ge g hg).1; omega)
  refine vcReg_go lok ?_
  conv => whnf
  refine Calls.ret (kept_calls (ho1.ext x17).sl (h.ext (hx1.trans x17)) hc1 (by omega)) ?_
  rintro _ w8 ⟨rfl, hw8⟩
  conv => whnf
  subst hw8
  refine Calls.ret (known03) ?_
  rintro _ w9 ⟨rfl, hx9⟩
  conv => whnf
  exact ⟨rfl, (hx1.trans x17).trans hx9⟩

theorem crcBack_walk {w : World} {a b e : Option Addr} {c d f : Nat} {xs ys zs : List (BitVec 8)} (h : Sl u8v w a xs) (hb : Sl u8v w b ys) (he : Sl u8v w e zs) :
    Calls Try.prog 13 #[.slice a xs.length c, .slice b ys.length d, .slice e zs.length f] w (Law w) := by
  refine calls_of_vc lok Try.func13 ?_ rfl
  conv => whnf
  refine vcReg_meet lok (fun β : Bool => [(22, .bool β)]) (fun β w' => w' = w ∧ β = decide (65536 < xs.length ∨ 65536 < ys.length ∨ 65536 < zs.length)) [22] (fun _ => rfl) rfl ?_ ?_
  · conv => whnf
    refine bcase (fun h1 => ?_) (fun h1 => ?_)
    · conv => whnf
      exact ⟨_, ⟨rfl, trivial⟩, rfl, by have := dt h1; simp; omega⟩
    · conv => whnf
      refine bcase (fun h2 => ?_) (fun h2 => ?_)
      · conv => whnf
        exact ⟨_, ⟨rfl, trivial⟩, rfl, by have := dt h2; simp; omega⟩
      · conv => whnf
        exact ⟨_, ⟨rfl, trivial⟩, rfl, by have := df h1; have := df h2; rw [decide_eq_decide]; omega⟩
  rintro β w' ⟨rfl, hβ⟩
  conv => whnf
  refine vcCond_split lok rfl (fun h1 => ?_) (fun h1 => ?_)
  · conv => whnf
    refine Calls.ret (known03) ?_
    rintro _ w1 ⟨rfl, hx1⟩
    conv => whnf
    exact ⟨rfl, hx1⟩
  rw [hβ] at h1
  have hl := df h1
  conv => whnf
  have g1 := (Own.nil 5 u8v w'.heap.size w').append (ty := 22) (d := c) e8.toElem (fun _ => rfl) h (by simp; omega) (Nat.le_refl _)
  obtain ⟨a1, c1, w1, hr1, ho1, hg1, _⟩ := g1
  refine ⟨_, _, hr1, ?_⟩
  have x1 : Ext w' w1 := hg1.extOf (Ext.refl _) (fun g hg => by cases hg)
  conv => whnf
  have g2 := ho1.append (ty := 22) (d := d) e8.toElem (fun _ => rfl) (hb.ext x1) (by simp; omega) x1.size
  obtain ⟨a2, c2, w2, hr2, ho2, hg2, _⟩ := g2
  refine ⟨_, _, hr2, ?_⟩
  have x2 : Ext w' w2 := hg2.extOf x1 (fun g hg => (ho1.ge g hg).1)
  conv => whnf
  have g3 := ho2.append (ty := 22) (d := f) e8.toElem (fun _ => rfl) (he.ext x2) (by simp; omega) x2.size
  obtain ⟨a3, c3, w3, hr3, ho3, hg3, _⟩ := g3
  refine ⟨_, _, hr3, ?_⟩
  have x3 : Ext w' w3 := hg3.extOf x2 (fun g hg => (ho2.ge g hg).1)
  rw [List.nil_append] at ho3 ⊢
  have hal : (xs ++ ys ++ zs).length ≤ 196608 := by simp; omega
  have ea : onF (onF (sumF xs) ys) zs = sumF (xs ++ ys ++ zs) := by unfold sumF; rw [onF_append, onF_append]
  generalize xs ++ ys ++ zs = all at *
  conv => whnf
  refine Calls.ret (seal_calls ho3.sl (by omega)) ?_
  rintro _ w4 ⟨a4, c4, rfl, ho4, hx4⟩
  conv => whnf
  have hsl := sealF_len all
  have g5 := open_calls ho4.sl (by omega) ho4.le.1
  rw [open_seal] at g5
  refine Calls.ret (g5) ?_
  rintro _ w5 ⟨a5, c5, rfl, ho5, hx5⟩
  conv => whnf
  have x5 := (x3.trans hx4).trans hx5
  refine vcReg_go lok ?_
  conv => whnf
  refine ⟨_, run_toStr ho5.sl, ?_⟩
  conv => whnf
  refine ⟨_, run_toStr (ho3.sl.ext (hx4.trans hx5)), ?_⟩
  conv => whnf
  intro γ hγ
  have hγ2 : γ = true := by rw [str_eq hγ rfl rfl]; simp
  clear hγ
  subst hγ2
  conv => whnf
  refine Calls.ret (sum_calls (h.ext x5) (by omega)) ?_
  rintro _ w6 ⟨rfl, hx6⟩
  conv => whnf
  refine Calls.ret (on_calls (sumF xs) (hb.ext (x5.trans hx6)) (by omega)) ?_
  rintro _ w7 ⟨rfl, hx7⟩
  conv => whnf
  refine Calls.ret (on_calls (onF (sumF xs) ys) (he.ext ((x5.trans hx6).trans hx7)) (by omega)) ?_
  rintro _ w8 ⟨rfl, hx8⟩
  conv => whnf
  rw [ea]
  have x8 := ((x5.trans hx6).trans hx7).trans hx8
  refine Calls.ret (sum_calls (ho3.sl.ext ((((hx4.trans hx5).trans hx6).trans hx7).trans hx8)) (by omega)) ?_
  rintro _ w9 ⟨rfl, hx9⟩
  conv => whnf
  refine bcase (fun _ => ?_) (fun h5 => absurd rfl (df h5))
  conv => whnf
  refine Calls.ret (known03) ?_
  rintro _ w10 ⟨rfl, hx10⟩
  conv => whnf
  exact ⟨rfl, (x8.trans hx9).trans hx10⟩
end Go.Proofs.Ytgipackjnncabaa
