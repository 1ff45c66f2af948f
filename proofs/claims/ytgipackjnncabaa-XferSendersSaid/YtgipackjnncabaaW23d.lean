/- Walks of layer 23, fourth part: the reference's unpacking, packets compared and handed over. -/
import Derived.Test.YtgipackjnncabaaW23c
set_option linter.unusedVariables false
namespace Go.Proofs.Ytgipackjnncabaa
open Go.Vc Go.RowKit

theorem getF_Z {x : List (BitVec 8)} {a k : Nat} (h1 : 1 ≤ k) (h2 : k ≤ 8) : (getF x a k).1 = getZ x a k := by
  unfold getF getZ
  by_cases h : a + k ≤ x.length
  · rw [if_neg (by omega), if_neg (by omega), if_pos h, Int.toNat_natCast, Int.toNat_natCast]
  · rw [if_neg h]
    split
    · rfl
    · split
      · rfl
      · omega
theorem getZ_lt {x : List (BitVec 8)} {a k : Nat} : getZ x a k < 256 ^ k := by
  unfold getZ
  split
  · rename_i h
    exact dec_lt x a k h
  · exact Nat.pow_pos (by decide)

/-- the reference's get -/
theorem rgetz_calls {w : World} {a : Option Addr} {c : Nat} {x : List (BitVec 8)} (h : Sl u8v w a x) (hl : x.length ≤ 16777216) (at_ k : Nat) (h1 : 1 ≤ k) (h2 : k ≤ 8) :
    Calls Try.prog 164 #[.slice a x.length c, .int .i64 at_, .int .i64 k] w (Ret fun v w' => v = .int .u64 (getZ x at_ k) ∧ w' = w) := by
  refine calls_of_vc lok Try.func164 ?_ rfl
  conv => whnf
  have gq := rget_calls (c := c) h (by omega) (at_ : Int) (k : Int) (by omega)
  refine Calls.ret (gq) ?_
  rintro _ w1 ⟨rfl, hw1⟩
  conv => whnf
  rw [getF_Z h1 h2]
  exact ⟨rfl, hw1⟩

set_option maxHeartbeats 4000000 in
/-- the reference's Unpack -/
theorem runpack_calls {w : World} {a : Option Addr} {c : Nat} {bs : List (BitVec 8)} (h : Sl u8v w a bs) (hl : bs.length ≤ 16777216) (hc : bs.length ≤ c) :
    Calls Try.prog 108 #[.slice a bs.length c] w (Ret (PkPost (unpackF bs) w)) := by
  refine calls_of_vc lok Try.func108 ?_ rfl
  conv => whnf
  intro w1 hw1
  have hb1 : Blk w1 w.heap.size 70 (Pk.zero.cells none 0) := by rw [hw1]; exact Blk.new w 70 _
  have x1 : Ext w w1 := by rw [hw1]; exact Ext.new _ _
  clear hw1
  conv => whnf
  refine Calls.ret (ropen_calls (h.ext x1) hl hc) ?_
  rintro _ w2 ⟨a2, c2, rfl, ho2, x2⟩
  conv => whnf
  have hol := open_len bs
  have hoc := ho2.le.1
  have z1 := hb1.lt
  have z2 := x2.size
  have x02 := x1.trans x2
  have hb12 := hb1.ext x2
  have href := unpack_ref bs
  have huf : (openF bs).2 ≠ 0 → unpackF bs = (Pk.zero, (openF bs).2) := fun h0 => by unfold unpackF; rw [if_neg h0]
  have hxl : (openF bs).1.length ≤ 16777216 := by omega
  generalize (openF bs).1 = x at *
  generalize (openF bs).2 = e at *
  generalize hbr : w.heap.size = br at *
  conv => whnf
  refine vcCond_split lok rfl (fun k1 => ?_) (fun k1 => ?_)
  · have k1 := ne_true k1
    rw [huf k1]
    conv => whnf
    refine ⟨_, fun w => run_build w 70 _ _ built70z, ?_⟩
    conv => whnf
    have k15 := Blk.storeAgg lok hb12 (t := 70) (us := Pk.zero.cells none 0) rfl 0 (Nat.le_refl 7) (Pk.one _ _ _)
    obtain ⟨w15, hr15, hb15, g15⟩ := k15
    have hb15 : Blk w15 br 70 (Pk.zero.cells none 0) := hb15
    refine ⟨w15, hr15, ?_⟩
    conv => whnf
    refine ⟨Pk.zero.cells none 0, rfl, hb15.cells, ?_⟩
    conv => whnf
    exact ⟨none, 0, rfl, Own.nil _ _ _ _, g15.extOf x02 (fun g hg => by cases hg; omega)⟩
  have k1 := ne_false k1
  rw [href k1]
  conv => whnf
  refine Calls.ret (rgetz_calls ho2.sl hxl 0 1 (by decide) (by decide)) ?_
  rintro _ w3 ⟨rfl, hw3⟩
  conv => whnf
  subst hw3
  have t1 := getZ_lt (x := x) (a := 0) (k := 1)
  intro z hz
  replace hz := hz.trans (wi64n (n := getZ x 0 1) (by have : (256 : Nat) ^ 1 = 256 := rfl; omega))
  subst hz
  conv => whnf
  refine Calls.ret (rgetz_calls ho2.sl hxl 1 4 (by decide) (by decide)) ?_
  rintro _ w4 ⟨rfl, hw4⟩
  conv => whnf
  subst hw4
  intro z hz
  replace hz := hz.trans (wu32n)
  subst hz
  conv => whnf
  have eR : rawF x = (if getZ x 0 1 = 1 then ⟨1, BitVec.ofNat 32 (getZ x 1 4), getZ x 5 2, 0, 0, 0#32, []⟩ else if getZ x 0 1 = 2 then ⟨2, BitVec.ofNat 32 (getZ x 1 4), 0, getZ x 5 1, 0, 0#32, x.drop 6⟩
    else if getZ x 0 1 = 3 then ⟨3, BitVec.ofNat 32 (getZ x 1 4), 0, 0, getZ x 9 1, BitVec.ofNat 32 (getZ x 5 4), []⟩ else ⟨getZ x 0 1, BitVec.ofNat 32 (getZ x 1 4), 0, 0, 0, 0#32, []⟩) := rfl
  generalize getZ x 0 1 = kn at *
  generalize getZ x 1 4 = vn at *
  refine ⟨_, fun w => run_build w 70 _ _ (built70 kn (BitVec.ofNat 32 vn).toNat), ?_⟩
  conv => whnf
  intro w5 hw5
  have hb5 : Blk w5 w4.heap.size 70 (Pk.zero.cells none 0) := by rw [hw5]; exact Blk.new w4 70 _
  have x5 : Ext w4 w5 := by rw [hw5]; exact Ext.new _ _
  clear hw5
  conv => whnf
  have k6 := Blk.storeAgg lok hb5 (t := 70) (us := (⟨kn, BitVec.ofNat 32 vn, 0, 0, 0, 0#32, []⟩ : Pk).cells none 0) rfl 0 (Nat.le_refl 7) (Pk.one _ _ _)
  obtain ⟨w6, hr6, hb6, g6⟩ := k6
  have hb6 : Blk w6 w4.heap.size 70 ((⟨kn, BitVec.ofNat 32 vn, 0, 0, 0, 0#32, []⟩ : Pk).cells none 0) := hb6
  have x6 : Ext w4 w6 := g6.extOf x5 (fun g hg => by cases hg; exact Nat.le_refl _)
  refine ⟨w6, hr6, ?_⟩
  have hb16 := hb12.ext x6
  have x06 := x02.trans x6
  have zz := hb12.lt
  have ho6 := ho2.ext x6
  clear hr6 g6 hb5 x5
  generalize hbp : w4.heap.size = bp at *
  conv => whnf
  refine ⟨_, hb6.cell0 rfl, ?_⟩
  conv => whnf
  refine vcCond_meet (fun t : Option Addr × Nat => [(2, .pointer (some ⟨br, 0, none⟩)), (6, .pointer (some ⟨bp, 0, none⟩)), (0, .slice a bs.length c)])
    (fun t w' => Blk w' bp 70 ((rawF x).cells t.1 t.2) ∧ Own 5 u8v (br + 1) w' t.1 t.2 (rawF x).data ∧ Blk w' br 70 (Pk.zero.cells none 0) ∧ Ext w w') ?_ ?_
  · refine vcCond_split lok rfl (fun k1 => ?_) (fun k1 => ?_)
    · have k1 : kn = 1 := by have q : (kn : Int) = 1 := dt k1; omega
      rw [if_pos k1] at eR
      conv => whnf
      refine Calls.ret (rgetz_calls ho6.sl hxl 5 2 (by decide) (by decide)) ?_
      rintro _ w7 ⟨rfl, hw7⟩
      conv => whnf
      subst hw7
      have t3 := getZ_lt (x := x) (a := 5) (k := 2)
      intro z hz
      replace hz := hz.trans (wi64n (n := getZ x 5 2) (by have : (256 : Nat) ^ 2 = 65536 := rfl; omega))
      subst hz
      conv => whnf
      refine ⟨hb6.can 2 (by simp [Pk.cells]) _ rfl, fun w8 hw8 => ?_⟩
      have hb8 : Blk w8 bp 70 ((⟨kn, BitVec.ofNat 32 vn, getZ x 5 2, 0, 0, 0#32, []⟩ : Pk).cells none 0) := by rw [hw8]; exact hb6.set 2 _
      have g8 := gr_of_set hw8
      rw [k1] at hb8
      rw [eR]
      exact ⟨(none, 0), ⟨rfl, rfl, rfl, trivial⟩, hb8, Own.nil _ _ _ _, hb16.keep (g8.block _ hb16.lt (fun q => by have q' := Option.some.inj q; omega)), g8.extOf x06 (fun g hg => by cases hg; omega)⟩
    · have k1 : ¬ kn = 1 := by have q : ¬ (kn : Int) = 1 := df k1; omega
      rw [if_neg k1] at eR
      conv => whnf
      refine vcCond_split lok rfl (fun k2 => ?_) (fun k2 => ?_)
      · have k2 : kn = 2 := by have q : (kn : Int) = 2 := dt k2; omega
        rw [if_pos k2] at eR
        conv => whnf
        refine Calls.ret (rgetz_calls ho6.sl hxl 5 1 (by decide) (by decide)) ?_
        rintro _ w7 ⟨rfl, hw7⟩
        conv => whnf
        subst hw7
        have t3 := getZ_lt (x := x) (a := 5) (k := 1)
        intro z hz
        replace hz := hz.trans (wi64n (n := getZ x 5 1) (by have : (256 : Nat) ^ 1 = 256 := rfl; omega))
        subst hz
        conv => whnf
        refine ⟨hb6.can 3 (by simp [Pk.cells]) _ rfl, fun w8 hw8 => ?_⟩
        have hb8 : Blk w8 bp 70 ((⟨kn, BitVec.ofNat 32 vn, 0, getZ x 5 1, 0, 0#32, []⟩ : Pk).cells none 0) := by rw [hw8]; exact hb6.set 3 _
        have g8 := gr_of_set hw8
        have hb18 : Blk w8 br 70 (Pk.zero.cells none 0) := hb16.keep (g8.block _ hb16.lt (fun q => by have q' := Option.some.inj q; omega))
        have x8 : Ext w w8 := g8.extOf x06 (fun g hg => by cases hg; omega)
        have ho8 := g8.keepOwn ho6 (fun g hg q => by have q' := Option.some.inj q; have := (ho2.ge g hg).2; omega)
        clear hw8
        rw [k2] at hb8
        conv => whnf
        refine vcCond_split lok rfl (fun k3 => ?_) (fun k3 => ?_)
        · have k3 := dt k3
          conv => whnf
          refine vcDraw_meet lok mixed (fun w' => w' = w8.drew) [] [0, 1, 2, 3, 4, 5, 6]
            (fun _ : Unit => []) (fun _ w' => ∃ a9 c9, Blk w' bp 70 ((⟨2, BitVec.ofNat 32 vn, 0, getZ x 5 1, 0, 0#32, x.drop 6⟩ : Pk).cells a9 c9) ∧ Own 5 u8v (br + 1) w' a9 c9 (x.drop 6) ∧ Blk w' br 70 (Pk.zero.cells none 0) ∧ Ext w w') [] (fun _ => rfl) rfl (by kernel_rfl) (fun w9 hw9 => ⟨hw9, ?_⟩) ?_
          · have x9 : Ext w8 w9 := hw9 ▸ Ext.drew w8
            have hb9 := hb8.ext x9
            have hb19 := hb18.ext x9
            conv => whnf
            refine ⟨_, fun w' hw' => by rw [hw', ← hw9]; exact hb9.cell (i := 6) rfl, ?_⟩
            conv => whnf
            refine ⟨⟨by omega, by omega, by omega⟩, ?_⟩
            intro aa haa
            have hsl : Sl u8v w9 aa (x.drop 6) := by rw [haa]; exact (ho8.sl.ext x9).drop 6 c2 hoc
            clear haa
            have k15 := (Own.nil 5 u8v (br + 1) w9).append (ty := 22) (d := c2 - 6) e8.toElem (fun _ => rfl) hsl (by rw [List.length_drop]; simp; omega) hb19.lt
            rw [List.length_drop, List.nil_append] at k15
            obtain ⟨a15, c15, w15, hr15, ho15, g15, hbl15⟩ := k15
            conv => whnf
            refine ⟨_, _, hr15, ?_⟩
            have x15 : Ext w9 w15 := g15.extOf (Ext.refl _) (fun g hg => by cases hg)
            have hb15 := hb9.ext x15
            have hb115 := hb19.ext x15
            conv => whnf
            refine ⟨hb15.can 6 (by simp [Pk.cells]) _ rfl, fun w16 hw16 => ?_⟩
            have hb16' : Blk w16 bp 70 ((⟨2, BitVec.ofNat 32 vn, 0, getZ x 5 1, 0, 0#32, x.drop 6⟩ : Pk).cells a15 c15) := by
              rw [hw16]
              have := hb15.set 6 (.slice a15 (x.length - 6) c15)
              rw [← List.length_drop] at this
              exact this
            have g16 := gr_of_set hw16
            have ho16 : Own 5 u8v (br + 1) w16 a15 c15 (x.drop 6) := g16.keepOwn ho15 (fun g hg q => by
              cases q
              rcases hbl15 with hbl | hbl
              · rw [hg] at hbl; cases hbl
              · rw [hg] at hbl
                have e5 := Option.some.inj hbl
                have := hb9.lt
                omega)
            exact ⟨(), trivial, a15, c15, hb16', ho16, hb115.keep (g16.block _ hb115.lt (fun q => by have q' := Option.some.inj q; omega)), g16.extOf ((x8.trans x9).trans x15) (fun g hg => by cases hg; omega)⟩
          rintro _ w9 ⟨a9, c9, hb9, ho9, hb19, x9⟩
          conv => whnf
          rw [eR]
          exact ⟨(a9, c9), ⟨rfl, rfl, rfl, trivial⟩, hb9, ho9, hb19, x9⟩
        · have k3 := df k3
          conv => whnf
          have hnil : x.drop 6 = [] := List.drop_of_length_le (by omega)
          rw [hnil] at eR
          rw [eR]
          exact ⟨(none, 0), ⟨rfl, rfl, rfl, trivial⟩, hb8, Own.nil _ _ _ _, hb18, x8⟩
      · have k2 : ¬ kn = 2 := by have q : ¬ (kn : Int) = 2 := df k2; omega
        rw [if_neg k2] at eR
        conv => whnf
        refine vcCond_split lok rfl (fun k3 => ?_) (fun k3 => ?_)
        · have k3 : kn = 3 := by have q : (kn : Int) = 3 := dt k3; omega
          rw [if_pos k3] at eR
          conv => whnf
          refine Calls.ret (rgetz_calls ho6.sl hxl 5 4 (by decide) (by decide)) ?_
          rintro _ w7 ⟨rfl, hw7⟩
          conv => whnf
          subst hw7
          intro z hz
          replace hz := hz.trans (wu32n)
          subst hz
          conv => whnf
          refine ⟨hb6.can 5 (by simp [Pk.cells]) _ rfl, fun w8 hw8 => ?_⟩
          have hb8 : Blk w8 bp 70 ((⟨kn, BitVec.ofNat 32 vn, 0, 0, 0, BitVec.ofNat 32 (getZ x 5 4), []⟩ : Pk).cells none 0) := by rw [hw8]; exact hb6.set 5 _
          have g8 := gr_of_set hw8
          have hb18 : Blk w8 br 70 (Pk.zero.cells none 0) := hb16.keep (g8.block _ hb16.lt (fun q => by have q' := Option.some.inj q; omega))
          have x8 : Ext w w8 := g8.extOf x06 (fun g hg => by cases hg; omega)
          have ho8 := g8.keepOwn ho6 (fun g hg q => by have q' := Option.some.inj q; have := (ho2.ge g hg).2; omega)
          clear hw8
          conv => whnf
          refine Calls.ret (rgetz_calls ho8.sl hxl 9 1 (by decide) (by decide)) ?_
          rintro _ w9 ⟨rfl, hw9⟩
          conv => whnf
          subst hw9
          have t5 := getZ_lt (x := x) (a := 9) (k := 1)
          intro z hz
          replace hz := hz.trans (wi64n (n := getZ x 9 1) (by have : (256 : Nat) ^ 1 = 256 := rfl; omega))
          subst hz
          conv => whnf
          refine ⟨hb8.can 4 (by simp [Pk.cells]) _ rfl, fun w10 hw10 => ?_⟩
          have hb10 : Blk w10 bp 70 ((⟨kn, BitVec.ofNat 32 vn, 0, 0, getZ x 9 1, BitVec.ofNat 32 (getZ x 5 4), []⟩ : Pk).cells none 0) := by rw [hw10]; exact hb8.set 4 _
          have g10 := gr_of_set hw10
          rw [k3] at hb10
          rw [eR]
          exact ⟨(none, 0), ⟨rfl, rfl, rfl, trivial⟩, hb10, Own.nil _ _ _ _, hb18.keep (g10.block _ hb18.lt (fun q => by have q' := Option.some.inj q; omega)), g10.extOf x8 (fun g hg => by cases hg; omega)⟩
        · have k3 : ¬ kn = 3 := by have q : ¬ (kn : Int) = 3 := df k3; omega
          rw [if_neg k3] at eR
          rw [eR]
          exact ⟨(none, 0), ⟨rfl, rfl, rfl, trivial⟩, hb6, Own.nil _ _ _ _, hb16, x06⟩
  rintro ⟨ap, cp⟩ w7 ⟨hb7, ho7, hb17, x7⟩
  clear eR href huf
  generalize rawF x = p at *
  have hb7 : Blk w7 bp 70 (p.cells ap cp) := hb7
  have ho7 : Own 5 u8v (br + 1) w7 ap cp p.data := ho7
  conv => whnf
  refine ⟨p.cells ap cp, rfl, hb7.cells, ?_⟩
  conv => whnf
  refine Calls.ret (rpack_calls p ho7.sl) ?_
  rintro _ w8 ⟨a8, c8, rfl, ho8, x8⟩
  conv => whnf
  have hb18 := hb17.ext x8
  have hb8 := hb7.ext x8
  have x08 := x7.trans x8
  have zz2 := hb18.lt
  conv => whnf
  refine vcReg_meet lok (fun β : Bool => [(70, .bool β)]) (fun β w' => w' = w8 ∧ β = !decide (canP p = true ∧ sealF (bodyF p) = bs)) [70] (fun _ => rfl) rfl ?_ ?_
  · have hpk : (canP p = false ∧ packF p = ([], 1)) ∨ (canP p = true ∧ packF p = (sealF (bodyF p), 0)) := by
      unfold packF
      cases canP p <;> simp
    rcases hpk with ⟨hcp, ep⟩ | ⟨hcp, ep⟩
    · rw [ep]
      conv => whnf
      exact ⟨_, ⟨rfl, trivial⟩, rfl, by rw [decide_eq_false (fun q => by rw [hcp] at q; cases q.1)]; rfl⟩
    · rw [ep] at ho8 ⊢
      conv => whnf
      refine ⟨_, run_toStr ho8.sl, ?_⟩
      conv => whnf
      refine ⟨_, run_toStr (h.ext x08), ?_⟩
      conv => whnf
      intro γ hγ
      have hγ2 := str_eq hγ rfl rfl
      clear hγ
      subst hγ2
      conv => whnf
      refine ⟨_, ⟨rfl, trivial⟩, rfl, ?_⟩
      congr 1
      rw [decide_eq_decide]
      exact ⟨fun q => ⟨hcp, q⟩, fun q => q.2⟩
  rintro β w9 ⟨hw9, hβ⟩
  subst hw9
  conv => whnf
  refine vcCond_split lok rfl (fun k9 => ?_) (fun k9 => ?_)
  · rw [k9] at hβ
    have hno : ¬ (canP p = true ∧ sealF (bodyF p) = bs) := by intro q; rw [decide_eq_true q] at hβ; cases hβ
    rw [if_neg hno]
    conv => whnf
    refine ⟨_, fun w => run_build w 70 _ _ built70z, ?_⟩
    conv => whnf
    have k15 := Blk.storeAgg lok hb18 (t := 70) (us := Pk.zero.cells none 0) rfl 0 (Nat.le_refl 7) (Pk.one _ _ _)
    obtain ⟨w15, hr15, hb15, g15⟩ := k15
    have hb15 : Blk w15 br 70 (Pk.zero.cells none 0) := hb15
    refine ⟨w15, hr15, ?_⟩
    conv => whnf
    refine ⟨Pk.zero.cells none 0, rfl, hb15.cells, ?_⟩
    conv => whnf
    exact ⟨none, 0, rfl, Own.nil _ _ _ _, g15.extOf x08 (fun g hg => by cases hg; omega)⟩
  · rw [k9] at hβ
    have hyes : canP p = true ∧ sealF (bodyF p) = bs := by
      by_cases q : canP p = true ∧ sealF (bodyF p) = bs
      · exact q
      · rw [decide_eq_false q] at hβ; cases hβ
    rw [if_pos hyes]
    conv => whnf
    refine ⟨p.cells ap cp, rfl, hb8.cells, ?_⟩
    conv => whnf
    have k15 := Blk.storeAgg lok hb18 (t := 70) (us := p.cells ap cp) rfl 0 (Nat.le_refl 7) (Pk.one _ _ _)
    obtain ⟨w15, hr15, hb15, g15⟩ := k15
    have hb15 : Blk w15 br 70 (p.cells ap cp) := hb15
    refine ⟨w15, hr15, ?_⟩
    conv => whnf
    refine ⟨p.cells ap cp, rfl, hb15.cells, ?_⟩
    conv => whnf
    have hne : ∀ g, blockOf ap = some g → g ≠ br := fun g hg => by have := (ho7.ge g hg).1; omega
    exact ⟨ap, cp, rfl, (by rw [hbr]; exact (g15.keepOwn (ho7.ext x8) (fun g hg q => by cases q; exact hne _ hg rfl)).base (Nat.le_succ _)), g15.extOf x08 (fun g hg => by cases hg; omega)⟩

/-- two packets that are alike -/
theorem psame_calls {w : World} (p : Pk) {a b : Option Addr} {c d : Nat} (ha : Sl u8v w a p.data) (hb : Sl u8v w b p.data) :
    Calls Try.prog 109 #[.agg (p.cells a c).toArray, .agg (p.cells b d).toArray] w (Ret fun v w' => v = .bool true ∧ Ext w w') := by
  refine calls_of_vc lok Try.func109 ?_ rfl
  conv => whnf
  intro w1 hw1
  have hb1 : Blk w1 w.heap.size 70 (p.cells a c) := by rw [hw1]; exact Blk.new w 70 _
  have x1 : Ext w w1 := by rw [hw1]; exact Ext.new _ _
  clear hw1
  conv => whnf
  intro w2 hw2
  have hb2 : Blk w2 w1.heap.size 70 (p.cells b d) := by rw [hw2]; exact Blk.new w1 70 _
  have x2 : Ext w1 w2 := by rw [hw2]; exact Ext.new _ _
  clear hw2
  have hb12 := hb1.ext x2
  have x02 := x1.trans x2
  have eI : ∀ n : Int, decide (n = n) = true := fun n => decide_eq_true rfl
  conv => whnf
  refine vcReg_go lok ?_
  conv => whnf
  refine ⟨_, hb12.cell0 rfl, ?_⟩
  conv => whnf
  refine ⟨_, hb2.cell0 rfl, ?_⟩
  conv => whnf
  refine bcase (fun _ => ?_) (fun h5 => absurd rfl (df h5))
  conv => whnf
  refine ⟨_, hb12.cell (i := 1) rfl, ?_⟩
  conv => whnf
  refine ⟨_, hb2.cell (i := 1) rfl, ?_⟩
  conv => whnf
  refine bcase (fun _ => ?_) (fun h5 => absurd rfl (df h5))
  conv => whnf
  refine ⟨_, hb12.cell (i := 2) rfl, ?_⟩
  conv => whnf
  refine ⟨_, hb2.cell (i := 2) rfl, ?_⟩
  conv => whnf
  refine bcase (fun _ => ?_) (fun h5 => absurd rfl (df h5))
  conv => whnf
  refine ⟨_, hb12.cell (i := 3) rfl, ?_⟩
  conv => whnf
  refine ⟨_, hb2.cell (i := 3) rfl, ?_⟩
  conv => whnf
  refine bcase (fun _ => ?_) (fun h5 => absurd rfl (df h5))
  conv => whnf
  refine ⟨_, hb12.cell (i := 4) rfl, ?_⟩
  conv => whnf
  refine ⟨_, hb2.cell (i := 4) rfl, ?_⟩
  conv => whnf
  refine bcase (fun _ => ?_) (fun h5 => absurd rfl (df h5))
  conv => whnf
  refine ⟨_, hb12.cell (i := 5) rfl, ?_⟩
  conv => whnf
  refine ⟨_, hb2.cell (i := 5) rfl, ?_⟩
  conv => whnf
  refine bcase (fun _ => ?_) (fun h5 => absurd rfl (df h5))
  conv => whnf
  refine ⟨_, hb12.cell (i := 6) rfl, ?_⟩
  conv => whnf
  refine ⟨_, run_toStr (ha.ext x02), ?_⟩
  conv => whnf
  refine ⟨_, hb2.cell (i := 6) rfl, ?_⟩
  conv => whnf
  refine ⟨_, run_toStr (hb.ext x02), ?_⟩
  conv => whnf
  intro γ hγ
  have hγ2 : γ = true := by rw [str_eq hγ rfl rfl]; simp
  clear hγ
  subst hγ2
  conv => whnf
  exact ⟨rfl, x02⟩

theorem built112p (p : Pk) (a : Option Addr) (c : Nat) : Try.prog.built 112 [(0, .int .i64 p.kind), (1, u32v p.ver), (2, .int .i64 p.size), (3, .int .i64 p.chunk), (4, .int .i64 p.state), (5, u32v p.hav), (6, .slice a p.data.length c)] = some (p.cells a c).toArray := by kernel_rfl
theorem built70p (p : Pk) (a : Option Addr) (c : Nat) : Try.prog.built 70 [(0, .int .i64 p.kind), (1, u32v p.ver), (2, .int .i64 p.size), (3, .int .i64 p.chunk), (4, .int .i64 p.state), (5, u32v p.hav), (6, .slice a p.data.length c)] = some (p.cells a c).toArray := by kernel_rfl

/-- a packet handed over -/
theorem given_calls {w : World} (p : Pk) (a : Option Addr) (c : Nat) : Calls Try.prog 105 #[.agg (p.cells a c).toArray] w (Ret fun v w' => v = .agg (p.cells a c).toArray ∧ Ext w w') := by
  refine calls_of_vc lok Try.func105 ?_ rfl
  conv => whnf
  intro w1 hw1
  have hb1 : Blk w1 w.heap.size 70 (p.cells a c) := by rw [hw1]; exact Blk.new w 70 _
  have x1 : Ext w w1 := by rw [hw1]; exact Ext.new _ _
  clear hw1
  conv => whnf
  intro w2 hw2
  have hb2 : Blk w2 w1.heap.size 112 (Pk.zero.cells none 0) := by rw [hw2]; exact Blk.new w1 112 _
  have x2 : Ext w1 w2 := by rw [hw2]; exact Ext.new _ _
  clear hw2
  have hb12 := hb1.ext x2
  have z1 := x1.size
  conv => whnf
  refine ⟨_, hb12.cell0 rfl, ?_⟩
  conv => whnf
  refine ⟨_, hb12.cell (i := 1) rfl, ?_⟩
  conv => whnf
  refine ⟨_, hb12.cell (i := 2) rfl, ?_⟩
  conv => whnf
  refine ⟨_, hb12.cell (i := 3) rfl, ?_⟩
  conv => whnf
  refine ⟨_, hb12.cell (i := 4) rfl, ?_⟩
  conv => whnf
  refine ⟨_, hb12.cell (i := 5) rfl, ?_⟩
  conv => whnf
  refine ⟨_, hb12.cell (i := 6) rfl, ?_⟩
  conv => whnf
  refine ⟨_, fun w => run_build w 112 _ _ (built112p p a c), ?_⟩
  conv => whnf
  have k3 := Blk.storeAgg lok hb2 (t := 112) (us := p.cells a c) rfl 0 (Nat.le_refl 7) (Pk.one _ _ _)
  obtain ⟨w3, hr3, hb3, g3⟩ := k3
  have hb3 : Blk w3 w1.heap.size 112 (p.cells a c) := hb3
  refine ⟨w3, hr3, ?_⟩
  conv => whnf
  refine ⟨p.cells a c, rfl, hb3.cells, ?_⟩
  conv => whnf
  exact ⟨rfl, g3.extOf (x1.trans x2) (fun g hg => by cases hg; omega)⟩
theorem taken_calls {w : World} (p : Pk) (a : Option Addr) (c : Nat) : Calls Try.prog 110 #[.agg (p.cells a c).toArray] w (Ret fun v w' => v = .agg (p.cells a c).toArray ∧ Ext w w') := by
  refine calls_of_vc lok Try.func110 ?_ rfl
  conv => whnf
  intro w1 hw1
  have hb1 : Blk w1 w.heap.size 112 (p.cells a c) := by rw [hw1]; exact Blk.new w 112 _
  have x1 : Ext w w1 := by rw [hw1]; exact Ext.new _ _
  clear hw1
  conv => whnf
  intro w2 hw2
  have hb2 : Blk w2 w1.heap.size 70 (Pk.zero.cells none 0) := by rw [hw2]; exact Blk.new w1 70 _
  have x2 : Ext w1 w2 := by rw [hw2]; exact Ext.new _ _
  clear hw2
  have hb12 := hb1.ext x2
  have z1 := x1.size
  conv => whnf
  refine ⟨_, hb12.cell0 rfl, ?_⟩
  conv => whnf
  refine ⟨_, hb12.cell (i := 1) rfl, ?_⟩
  conv => whnf
  refine ⟨_, hb12.cell (i := 2) rfl, ?_⟩
  conv => whnf
  refine ⟨_, hb12.cell (i := 3) rfl, ?_⟩
  conv => whnf
  refine ⟨_, hb12.cell (i := 4) rfl, ?_⟩
  conv => whnf
  refine ⟨_, hb12.cell (i := 5) rfl, ?_⟩
  conv => whnf
  refine ⟨_, hb12.cell (i := 6) rfl, ?_⟩
  conv => whnf
  refine ⟨_, fun w => run_build w 70 _ _ (built70p p a c), ?_⟩
  conv => whnf
  have k3 := Blk.storeAgg lok hb2 (t := 70) (us := p.cells a c) rfl 0 (Nat.le_refl 7) (Pk.one _ _ _)
  obtain ⟨w3, hr3, hb3, g3⟩ := k3
  have hb3 : Blk w3 w1.heap.size 70 (p.cells a c) := hb3
  refine ⟨w3, hr3, ?_⟩
  conv => whnf
  refine ⟨p.cells a c, rfl, hb3.cells, ?_⟩
  conv => whnf
  exact ⟨rfl, g3.extOf (x1.trans x2) (fun g hg => by cases hg; omega)⟩
end Go.Proofs.Ytgipackjnncabaa
