/- Own texts of this claim, joined: W03b, L03a, Pl23, Pl06, W06a, W06b. -/
import Derived.Test.YtgipackjnncabaaK16c
import Derived.Laws.Tables

/- Walks of layer 3, second part: sums of bytes, sealed bytes. -/
set_option linter.unusedVariables false
namespace Go.Proofs.Ytgipackjnncabaa
open Go.Vc Go.RowKit

theorem sum_calls {w : World} {a : Option Addr} {c : Nat} {bs : List (BitVec 8)} (h : Sl u8v w a bs) (hl : bs.length ≤ 2147483648) :
    Calls Try.prog 64 #[.slice a bs.length c] w (Ret fun v w' => v = .int .u32 (sumF bs).toNat ∧ Ext w w') := by
  refine calls_of_vc lok Try.func64 ?_ rfl
  conv => whnf
  refine Calls.ret (on_calls 0#32 h hl) ?_
  rintro _ w1 ⟨rfl, hx1⟩
  conv => whnf
  exact ⟨rfl, hx1⟩
theorem rsum_calls {w : World} {a : Option Addr} {c : Nat} {bs : List (BitVec 8)} (h : Sl u8v w a bs) (hl : bs.length ≤ 2147483648) :
    Calls Try.prog 65 #[.slice a bs.length c] w (Ret fun v w' => v = .int .u32 (sumF bs).toNat ∧ w' = w) := by
  refine calls_of_vc lok Try.func65 ?_ rfl
  conv => whnf
  refine Calls.ret (ron_calls 0#32 h hl) ?_
  rintro _ w1 ⟨rfl, hx1⟩
  conv => whnf
  exact ⟨rfl, hx1⟩

/-- sealed bytes -/
def sealF (bs : List (BitVec 8)) : List (BitVec 8) := bs ++ enc 4 (sumF bs).toNat
theorem sealF_len (bs : List (BitVec 8)) : (sealF bs).length = bs.length + 4 := by simp [sealF, enc_len]
theorem put_seal (bs : List (BitVec 8)) : putF bs 4 (sumF bs).toNat = (sealF bs, 0) := by
  have := (sumF bs).isLt
  unfold putF
  rw [if_neg (by omega), if_neg (by show ¬ 256 ^ 4 ≤ (sumF bs).toNat; omega)]
  rfl

theorem seal_calls {w : World} {a : Option Addr} {c : Nat} {bs : List (BitVec 8)} (h : Sl u8v w a bs) (hl : bs.length ≤ 16777216) :
    Calls Try.prog 66 #[.slice a bs.length c] w (Ret (BytesPost (sealF bs) w)) := by
  refine calls_of_vc lok Try.func66 ?_ rfl
  conv => whnf
  refine Calls.ret (sum_calls h (by omega)) ?_
  rintro _ w1 ⟨rfl, hx1⟩
  conv => whnf
  have hsl := (sumF bs).isLt
  intro z hz
  have hz7 : z = ((sumF bs).toNat : Int) := by rw [hz, wu64]; omega
  clear hz
  subst hz7
  conv => whnf
  have g := put_calls (c := c) (h.ext hx1) hl 4 (sumF bs).toNat (by omega)
  rw [put_seal] at g
  refine Calls.ret (g) ?_
  rintro _ w2 ⟨a2, c2, rfl, ho2, hx2⟩
  conv => whnf
  exact ⟨a2, c2, rfl, ho2.base hx1.size, hx1.trans hx2⟩
theorem rseal_calls {w : World} {a : Option Addr} {c : Nat} {bs : List (BitVec 8)} (h : Sl u8v w a bs) (hl : bs.length ≤ 16777216) :
    Calls Try.prog 69 #[.slice a bs.length c] w (Ret (BytesPost (sealF bs) w)) := by
  refine calls_of_vc lok Try.func69 ?_ rfl
  conv => whnf
  refine Calls.ret (rsum_calls h (by omega)) ?_
  rintro _ w1 ⟨rfl, hw1⟩
  conv => whnf
  subst hw1
  have hsl := (sumF bs).isLt
  intro z hz
  have hz11 : z = ((sumF bs).toNat : Int) := by rw [hz, wu64]; omega
  clear hz
  subst hz11
  conv => whnf
  have g := rput_calls (c := c) h hl 4 (sumF bs).toNat (by omega)
  rw [put_seal] at g
  refine Calls.ret (g) ?_
  rintro _ w2 ⟨a2, c2, rfl, ho2, hx2⟩
  conv => whnf
  exact ⟨a2, c2, rfl, ho2, hx2⟩

/-- what was sealed, and an error's number -/
def openF (bs : List (BitVec 8)) : List (BitVec 8) × Int :=
  if bs.length < 4 then ([], 2) else if sumF (bs.take (bs.length - 4)) = BitVec.ofNat 32 (decN (bs.drop (bs.length - 4))) then (bs.take (bs.length - 4), 0) else ([], 5)

theorem open_len (bs : List (BitVec 8)) : (openF bs).1.length ≤ bs.length := by
  unfold openF
  split
  · simp
  · split
    · simp
    · simp

theorem open_calls {w : World} {a : Option Addr} {c : Nat} {bs : List (BitVec 8)} (h : Sl u8v w a bs) (hl : bs.length ≤ 16777216) (hc : bs.length ≤ c) :
    Calls Try.prog 67 #[.slice a bs.length c] w (Ret (PutPost (openF bs) w)) := by
  refine calls_of_vc lok Try.func67 ?_ rfl
  conv => whnf
  refine ⟨by omega, ?_⟩
  conv => whnf
  refine vcCond_split lok rfl (fun h1 => ?_) (fun h1 => ?_)
  · have h1 := dt h1
    conv => whnf
    have e : openF bs = ([], 2) := if_pos (by omega)
    rw [e]
    exact ⟨none, 0, rfl, Own.nil _ _ _ _, Ext.refl _⟩
  have h1 := df h1
  conv => whnf
  have hn4 : ¬ bs.length < 4 := by omega
  have en : (bs.length : Int) - 4 = ((bs.length - 4 : Nat) : Int) := by omega
  rw [en]
  have eg : getF bs ((bs.length - 4 : Nat) : Int) 4 = (decN (bs.drop (bs.length - 4)), 0) := by
    unfold getF
    rw [if_neg (by omega), if_neg (by omega), Int.toNat_natCast, show (4 : Int).toNat = 4 from rfl]
    have e2 : (bs.drop (bs.length - 4)).take 4 = bs.drop (bs.length - 4) := List.take_of_length_le (by rw [List.length_drop]; omega)
    rw [e2]
  have g := get_calls (c := c) h (by omega) ((bs.length - 4 : Nat) : Int) 4 (by omega)
  rw [eg] at g
  refine Calls.ret (g) ?_
  rintro _ w1 ⟨rfl, hw1⟩
  conv => whnf
  subst hw1
  have hd := decN_lt (bs.drop (bs.length - 4))
  rw [show (bs.drop (bs.length - 4)).length = 4 by rw [List.length_drop]; omega, show (256 : Nat) ^ 4 = 4294967296 from rfl] at hd
  have ew : decN (bs.drop (bs.length - 4)) = (BitVec.ofNat 32 (decN (bs.drop (bs.length - 4)))).toNat := by rw [BitVec.toNat_ofNat]; omega
  intro z hz
  have hz19 : z = ((decN (bs.drop (bs.length - 4)) : Nat) : Int) := by rw [hz, wu32]; omega
  clear hz
  subst hz19
  conv => whnf
  refine ⟨by omega, ?_⟩
  conv => whnf
  have hlt : (bs.take (bs.length - 4)).length = bs.length - 4 := by rw [List.length_take]; omega
  have g2 := sum_calls (c := c) (h.take (bs.length - 4)) (by omega)
  rw [hlt] at g2
  refine Calls.ret (g2) ?_
  rintro _ w2 ⟨rfl, hx2⟩
  conv => whnf
  refine vcCond_split lok rfl (fun h2 => ?_) (fun h2 => ?_)
  · have h2 := ne_true h2
    have e : openF bs = ([], 5) := by
      unfold openF
      rw [if_neg hn4, if_neg (fun e => h2 (by rw [e, ← ew]))]
    rw [e]
    conv => whnf
    exact ⟨none, 0, rfl, Own.nil _ _ _ _, hx2⟩
  · have h2 := ne_false h2
    have e : openF bs = (bs.take (bs.length - 4), 0) := by
      unfold openF
      rw [if_neg hn4, if_pos (BitVec.eq_of_toNat_eq (by omega))]
    rw [e]
    conv => whnf
    refine ⟨by omega, ?_⟩
    conv => whnf
    have g3 := (Own.nil 5 u8v w1.heap.size w2).append (ty := 22) (d := c) e8.toElem (fun _ => rfl) ((h.take (bs.length - 4)).ext hx2) (by simp; omega) hx2.size
    rw [hlt] at g3
    obtain ⟨a3, c3, w3, hr3, ho3, hg3, _⟩ := g3
    refine ⟨_, _, hr3, ?_⟩
    conv => whnf
    exact ⟨a3, c3, rfl, ho3, hg3.extOf hx2 (fun g hg => by cases hg)⟩

theorem seal_eq {bs : List (BitVec 8)} (h4 : ¬ bs.length < 4) : sealF (bs.take (bs.length - 4)) = bs ↔ sumF (bs.take (bs.length - 4)) = BitVec.ofNat 32 (decN (bs.drop (bs.length - 4))) := by
  have hd : (bs.drop (bs.length - 4)).length = 4 := by rw [List.length_drop]; omega
  have hlt : (bs.take (bs.length - 4)).length = bs.length - 4 := by rw [List.length_take]; omega
  constructor
  · intro h
    have h2 : enc 4 (sumF (bs.take (bs.length - 4))).toNat = bs.drop (bs.length - 4) := by
      have h3 : (sealF (bs.take (bs.length - 4))).drop (bs.length - 4) = bs.drop (bs.length - 4) := by rw [h]
      unfold sealF at h3
      rwa [List.drop_append_of_le_length (by omega), List.drop_of_length_le (by omega), List.nil_append] at h3
    rw [← h2, decN_enc]
    apply BitVec.eq_of_toNat_eq
    have := (sumF (bs.take (bs.length - 4))).isLt
    rw [BitVec.toNat_ofNat, show (256 : Nat) ^ 4 = 2 ^ 32 from rfl, Nat.mod_mod, Nat.mod_eq_of_lt this]
  · intro h
    unfold sealF
    have hlt2 := decN_lt (bs.drop (bs.length - 4))
    rw [hd] at hlt2
    have e := enc_decN (bs.drop (bs.length - 4))
    rw [hd] at e
    rw [h, BitVec.toNat_ofNat, Nat.mod_eq_of_lt hlt2, e, List.take_append_drop]

/-- its reference -/
theorem ropen_calls {w : World} {a : Option Addr} {c : Nat} {bs : List (BitVec 8)} (h : Sl u8v w a bs) (hl : bs.length ≤ 16777216) (hc : bs.length ≤ c) :
    Calls Try.prog 68 #[.slice a bs.length c] w (Ret (PutPost (openF bs) w)) := by
  refine calls_of_vc lok Try.func68 ?_ rfl
  conv => whnf
  refine vcCond_split lok rfl (fun h1 => ?_) (fun h1 => ?_)
  · have h1 := dt h1
    conv => whnf
    have e : openF bs = ([], 2) := if_pos (by omega)
    rw [e]
    exact ⟨none, 0, rfl, Own.nil _ _ _ _, Ext.refl _⟩
  have h1 := df h1
  conv => whnf
  have hn4 : ¬ bs.length < 4 := by omega
  refine ⟨by omega, ?_⟩
  conv => whnf
  have en : (bs.length : Int) - 4 = ((bs.length - 4 : Nat) : Int) := by omega
  rw [en]
  have hlt : (bs.take (bs.length - 4)).length = bs.length - 4 := by rw [List.length_take]; omega
  refine vcDraw_meet lok mixed (Ext w) [3] [0, 1, 2, 5, 6, 3, 4, 7] (fun β : Bool => [(19, .bool β)]) (fun β w3 => Ext w w3 ∧ β = !decide (sealF (bs.take (bs.length - 4)) = bs)) [19] (fun _ => rfl) rfl (by kernel_rfl) (fun w1 hw1 => ⟨hw1 ▸ Ext.drew w, ?_⟩) ?_
  · have x1 : Ext w w1 := hw1 ▸ Ext.drew w
    conv => whnf
    refine ⟨by omega, ?_⟩
    conv => whnf
    refine ⟨_, fun w5 hw5 => run_toStr (h.ext hw5), ?_⟩
    conv => whnf
    have g2 := rseal_calls (c := c) ((h.ext x1).take (bs.length - 4)) (by omega)
    rw [hlt] at g2
    refine Calls.ret (g2) ?_
    rintro _ w2 ⟨a2, c2, rfl, ho2, hx2⟩
    conv => whnf
    refine ⟨fun w' => Ext w w' ∧ Sl u8v w' a2 (sealF (bs.take (bs.length - 4))), fun _ h => h.1, ⟨x1.trans hx2, ho2.sl⟩, ?_⟩
    conv => whnf
    refine ⟨_, fun w5 hw5 => run_toStr hw5.2, ?_⟩
    conv => whnf
    intro γ hγ
    have hγ2 := str_eq hγ rfl rfl
    clear hγ
    subst hγ2
    conv => whnf
    exact ⟨_, ⟨rfl, trivial⟩, x1.trans hx2, rfl⟩
  rintro β w1 ⟨x1, hβ⟩
  conv => whnf
  refine vcCond_split lok rfl (fun h2 => ?_) (fun h2 => ?_)
  · rw [h2] at hβ
    have e : openF bs = ([], 5) := by
      unfold openF
      rw [if_neg hn4, if_neg (fun e => by rw [decide_eq_true ((seal_eq hn4).2 e)] at hβ; cases hβ)]
    rw [e]
    conv => whnf
    exact ⟨none, 0, rfl, Own.nil _ _ _ _, x1⟩
  · rw [h2] at hβ
    have e3 : sealF (bs.take (bs.length - 4)) = bs := by simpa using hβ.symm
    have e : openF bs = (bs.take (bs.length - 4), 0) := by
      unfold openF
      rw [if_neg hn4, if_pos ((seal_eq hn4).1 e3)]
    rw [e]
    conv => whnf
    refine ⟨by omega, ?_⟩
    conv => whnf
    have g3 := (Own.nil 5 u8v w.heap.size w1).append (ty := 22) (d := c) e8.toElem (fun _ => rfl) ((h.take (bs.length - 4)).ext x1) (by simp; omega) x1.size
    rw [hlt] at g3
    obtain ⟨a3, c3, w3, hr3, ho3, hg3, _⟩ := g3
    refine ⟨_, _, hr3, ?_⟩
    conv => whnf
    exact ⟨a3, c3, rfl, ho3, hg3.extOf x1 (fun g hg => by cases hg)⟩

/-- the fixed calls -/
theorem known03 {w : World} : Calls Try.prog 61 #[] w (Ret fun v w' => v = .bool true ∧ Ext w w') := by
  refine calls_of_vc (args := []) lok Try.func61 ?_ rfl
  conv => whnf
  have e1 : openF [0#8, 0#8, 0#8, 0#8] = ([], 0) := by decide +kernel
  have e2 : openF [0#8, 0#8, 0#8, 1#8] = ([], 5) := by decide +kernel
  have e3 : sumF [49#8, 50#8, 51#8, 52#8, 53#8, 54#8, 55#8, 56#8, 57#8] = 3421780262#32 := by decide +kernel
  refine ⟨_, _, run_buildN e8.toElem ([0#8, 0#8, 0#8, 0#8].map u8v) (by simp [u8v, Value.oneCell']) (by simp) w, ?_⟩
  conv => whnf
  have x1 : Ext w (w.alloc (.cells ([0#8, 0#8, 0#8, 0#8].map u8v).toArray 5)) := Ext.new _ _
  have s1 : Sl u8v (w.alloc (.cells ([0#8, 0#8, 0#8, 0#8].map u8v).toArray 5)) (some ⟨w.heap.size, 0, none⟩) [0#8, 0#8, 0#8, 0#8] := Sl.lit _ _
  have g1 := open_calls (c := 4) s1 (by decide) (by decide)
  rw [e1] at g1
  refine Calls.ret (g1) ?_
  rintro _ w2 ⟨a2, c2, rfl, ho2, hx2⟩
  conv => whnf
  have x2 := x1.trans hx2
  refine ⟨_, _, run_buildN e8.toElem ([0#8, 0#8, 0#8, 1#8].map u8v) (by simp [u8v, Value.oneCell']) (by simp) w2, ?_⟩
  conv => whnf
  have x3 := x2.trans (Ext.new w2 (.cells ([0#8, 0#8, 0#8, 1#8].map u8v).toArray 5))
  have s3 : Sl u8v (w2.alloc (.cells ([0#8, 0#8, 0#8, 1#8].map u8v).toArray 5)) (some ⟨w2.heap.size, 0, none⟩) [0#8, 0#8, 0#8, 1#8] := Sl.lit _ _
  have g3 := open_calls (c := 4) s3 (by decide) (by decide)
  rw [e2] at g3
  refine Calls.ret (g3) ?_
  rintro _ w4 ⟨a4, c4, rfl, ho4, hx4⟩
  conv => whnf
  have x4 := x3.trans hx4
  refine vcReg_go lok ?_
  conv => whnf
  refine ⟨_, _, run_buildN e8.toElem ([49#8, 50#8, 51#8, 52#8, 53#8, 54#8, 55#8, 56#8, 57#8].map u8v) (by simp [u8v, Value.oneCell']) (by simp) w4, ?_⟩
  conv => whnf
  have g5 := run_convLit und22 und5 [49#8, 50#8, 51#8, 52#8, 53#8, 54#8, 55#8, 56#8, 57#8] w4 9 9
  obtain ⟨w5, hr5, hs5, hx5⟩ := g5
  refine ⟨_, _, hr5, ?_⟩
  conv => whnf
  have g6 := sum_calls (c := 9) hs5 (by decide)
  rw [e3] at g6
  refine Calls.ret (g6) ?_
  rintro _ w6 ⟨rfl, hx6⟩
  conv => whnf
  have x6 := (x4.trans hx5).trans hx6
  have g7 := seal_calls (c := 0) (Sl.nil u8v w6 none) (by decide)
  refine Calls.ret (g7) ?_
  rintro _ w7 ⟨a7, c7, rfl, ho7, hx7⟩
  conv => whnf
  exact ⟨rfl, x6.trans hx7⟩
end Go.Proofs.Ytgipackjnncabaa

/- The laws CrcSums, CrcSeals, CrcBack, CrcStarts, walked. -/
set_option linter.unusedVariables false
namespace Go.Proofs.Ytgipackjnncabaa
open Go.Vc Go.RowKit

theorem int_eq {x y : BitVec 32} : ((x.toNat : Int) = (y.toNat : Int)) ↔ x = y := by
  constructor
  · intro h; exact BitVec.eq_of_toNat_eq (by omega)
  · rintro rfl; rfl

theorem crcSums_walk {w : World} {a : Option Addr} {c : Nat} {bs : List (BitVec 8)} (s : BitVec 32) (h : Sl u8v w a bs) :
    Calls Try.prog 10 #[.int .u32 s.toNat, .slice a bs.length c] w (Law w) := by
  refine calls_of_vc lok Try.func10 ?_ rfl
  conv => whnf
  refine vcCond_split lok rfl (fun h1 => ?_) (fun h1 => ?_)
  · conv => whnf
    refine Calls.ret (known03) ?_
    rintro _ w1 ⟨rfl, hx1⟩
    conv => whnf
    exact ⟨rfl, hx1⟩
  have h1 := df h1
  conv => whnf
  refine Calls.ret (lent_calls h (by omega)) ?_
  rintro _ w1 ⟨a1, c1, rfl, ho1, hx1⟩
  conv => whnf
  have hs1 : Sl u8v w1 a1 bs := by simpa using ho1.sl.take bs.length
  have hc1 : bs.length + 1 ≤ c1 := by simpa using ho1.le.1
  refine vcReg_go lok ?_
  conv => whnf
  refine Calls.ret (on_calls s hs1 (by omega)) ?_
  rintro _ w2 ⟨rfl, hx2⟩
  conv => whnf
  refine Calls.ret (ron_calls s (h.ext (hx1.trans hx2)) (by omega)) ?_
  rintro _ w3 ⟨rfl, hw3⟩
  conv => whnf
  subst hw3
  conv => whnf
  refine bcase (fun _ => ?_) (fun h5 => absurd rfl (df h5))
  conv => whnf
  refine Calls.ret (sum_calls (hs1.ext hx2) (by omega)) ?_
  rintro _ w4 ⟨rfl, hx4⟩
  conv => whnf
  refine Calls.ret (rsum_calls (h.ext ((hx1.trans hx2).trans hx4)) (by omega)) ?_
  rintro _ w5 ⟨rfl, hw5⟩
  conv => whnf
  subst hw5
  conv => whnf
  refine bcase (fun _ => ?_) (fun h5 => absurd rfl (df h5))
  conv => whnf
  refine Calls.ret (kept_calls (ho1.ext (hx2.trans hx4)).sl (h.ext ((hx1.trans hx2).trans hx4)) hc1 (by omega)) ?_
  rintro _ w5 ⟨rfl, hw5⟩
  conv => whnf
  subst hw5
  refine Calls.ret (known03) ?_
  rintro _ w6 ⟨rfl, hx6⟩
  conv => whnf
  exact ⟨rfl, ((hx1.trans hx2).trans hx4).trans hx6⟩

theorem crcStarts_walk {w : World} {a : Option Addr} {c : Nat} {bs : List (BitVec 8)} (x y : BitVec 32) (h : Sl u8v w a bs) :
    Calls Try.prog 17 #[.int .u32 x.toNat, .int .u32 y.toNat, .slice a bs.length c] w (Law w) := by
  refine calls_of_vc lok Try.func17 ?_ rfl
  conv => whnf
  refine vcCond_split lok rfl (fun h1 => ?_) (fun h1 => ?_)
  · conv => whnf
    refine Calls.ret (known03) ?_
    rintro _ w1 ⟨rfl, hx1⟩
    conv => whnf
    exact ⟨rfl, hx1⟩
  have h1 := df h1
  conv => whnf
  refine vcReg_go lok ?_
  conv => whnf
  refine Calls.ret (on_calls x h (by omega)) ?_
  rintro _ w2 ⟨rfl, hx2⟩
  conv => whnf
  refine Calls.ret (on_calls y (h.ext hx2) (by omega)) ?_
  rintro _ w3 ⟨rfl, hx3⟩
  conv => whnf
  have e : (decide (((onF x bs).toNat : Int) = ((onF y bs).toNat : Int)) == decide ((x.toNat : Int) = (y.toNat : Int))) = true := by
    rw [beq_iff_eq, decide_eq_decide, int_eq, int_eq, onF_inj]
  refine bcase (fun _ => ?_) (fun h5 => absurd (e.symm.trans h5) (by decide))
  conv => whnf
  refine Calls.ret (known03) ?_
  rintro _ w6 ⟨rfl, hx6⟩
  conv => whnf
  exact ⟨rfl, (hx2.trans hx3).trans hx6⟩

theorem open_seal (bs : List (BitVec 8)) : openF (sealF bs) = (bs, 0) := by
  have hl := sealF_len bs
  have e1 : (sealF bs).take ((sealF bs).length - 4) = bs := by
    rw [hl, show bs.length + 4 - 4 = bs.length by omega]
    exact List.take_left
  have e2 : (sealF bs).drop ((sealF bs).length - 4) = enc 4 (sumF bs).toNat := by
    rw [hl, show bs.length + 4 - 4 = bs.length by omega]
    exact List.drop_left
  unfold openF
  rw [if_neg (by omega), e1, e2, decN_enc, if_pos]
  apply BitVec.eq_of_toNat_eq
  have := (sumF bs).isLt
  rw [BitVec.toNat_ofNat, show (256 : Nat) ^ 4 = 2 ^ 32 from rfl, Nat.mod_mod, Nat.mod_eq_of_lt this]

theorem crcSeals_walk {w : World} {a : Option Addr} {c : Nat} {bs : List (BitVec 8)} (h : Sl u8v w a bs) (hc : bs.length ≤ c) :
    Calls Try.prog 11 #[.slice a bs.length c] w (Law w) := by
  refine calls_of_vc lok Try.func11 ?_ rfl
  conv => whnf
  refine vcCond_split lok rfl (fun h1 => ?_) (fun h1 => ?_)
  · conv => whnf
    refine Calls.ret (known03) ?_
    rintro _ w1 ⟨rfl, hx1⟩
    conv => whnf
    exact ⟨rfl, hx1⟩
  have h1 := df h1
  conv => whnf
  refine Calls.ret (lent_calls h (by omega)) ?_
  rintro _ w1 ⟨a1, c1, rfl, ho1, hx1⟩
  conv => whnf
  have hs1 : Sl u8v w1 a1 bs := by simpa using ho1.sl.take bs.length
  have hc1 : bs.length + 1 ≤ c1 := by simpa using ho1.le.1
  refine Calls.ret (seal_calls hs1 (by omega)) ?_
  rintro _ w2 ⟨a2, c2, rfl, ho2, hx2⟩
  conv => whnf
  refine Calls.ret (open_calls (hs1.ext hx2) (by omega) (by omega)) ?_
  rintro _ w3 ⟨a3, c3, rfl, ho3, hx3⟩
  conv => whnf
  refine Calls.ret (ropen_calls (h.ext ((hx1.trans hx2).trans hx3)) (by omega) hc) ?_
  rintro _ w4 ⟨a4, c4, rfl, ho4, hx4⟩
  conv => whnf
  have x04 := ((hx1.trans hx2).trans hx3).trans hx4
  have ho2' := ho2.ext (hx3.trans hx4)
  have ho3' := ho3.ext hx4
  have hsl := sealF_len bs
  have hol := open_len bs
  refine vcDraw_meet lok mixed (Ext w4) [3] [0, 1, 2, 3, 4, 5, 6, 7, 8, 9, 10, 11, 12, 13, 14, 15, 16, 17, 18]
    (fun _ : Unit => [(9, .bool true)]) (fun _ w3 => Ext w4 w3) [9] (fun _ => rfl) rfl (by kernel_rfl) (fun w5 hw5 => ⟨hw5 ▸ Ext.drew w4, ?_⟩) ?_
  · have x5 : Ext w4 w5 := hw5 ▸ Ext.drew w4
    conv => whnf
    refine ⟨_, fun w' hw' => run_toStr (ho2'.sl.ext hw'), ?_⟩
    conv => whnf
    refine Calls.ret (rseal_calls (h.ext (x04.trans x5)) (by omega)) ?_
    rintro _ w6 ⟨a6, c6, rfl, ho6, hx6⟩
    conv => whnf
    have x6 := x5.trans hx6
    refine ⟨fun w' => Ext w4 w' ∧ Sl u8v w' a6 (sealF bs), fun _ h => h.1, ⟨x6, ho6.sl⟩, ?_⟩
    conv => whnf
    refine ⟨_, fun w' hw' => run_toStr hw'.2, ?_⟩
    conv => whnf
    intro γ hγ
    have hγ2 : γ = true := by rw [str_eq hγ rfl rfl]; simp
    clear hγ
    subst hγ2
    conv => whnf
    refine ⟨_, fun w' hw' => run_toStr (ho3'.sl.ext hw'.1), ?_⟩
    conv => whnf
    refine ⟨_, fun w' hw' => run_toStr (ho4.sl.ext hw'.1), ?_⟩
    conv => whnf
    intro γ hγ
    have hγ2 : γ = true := by rw [str_eq hγ rfl rfl]; simp
    clear hγ
    subst hγ2
    conv => whnf
    exact ⟨(), ⟨by rw [decide_eq_true (rfl : (openF bs).2 = (openF bs).2)]; rfl, trivial⟩, x6⟩
  rintro _ w5 x5
  conv => whnf
  have z1 := hx1.size
  have z2 := hx2.size
  have z3 := hx3.size
  have z4 := hx4.size
  have z5 := x5.size
  refine Calls.ret (spoil_calls (ho2'.ext x5) (by omega) (by omega)) ?_
  rintro _ w6 ⟨rfl, hg6⟩
  conv => whnf
  have x16 : Ext w1 w6 := hg6.extOf (((hx2.trans hx3).trans hx4).trans x5) (fun g hg => (ho2'.ge g hg).1)
  have z6 := hg6.size
  have ho3'' : Own 5 u8v w2.heap.size w6 a3 c3 (openF bs).1 := hg6.keepOwn (ho3'.ext x5) (fun g hg h3 => by
    have h6 := (ho2.ge g h3).2
    have h7 := (ho3.ge g hg).1
    omega)
  refine Calls.ret (spoil_calls ho3'' (by omega) (by omega)) ?_
  rintro _ w7 ⟨rfl, hg7⟩
  conv => whnf
  have x17 : Ext w1 w7 := hg7.extOf x16 (fun g hg => by have := (ho3.ge g hg).1; omega)
  refine vcReg_go lok ?_
  conv => whnf
  refine Calls.ret (kept_calls (ho1.ext x17).sl (h.ext (hx1.trans x17)) hc1 (by omega)) ?_
  rintro _ w8 ⟨rfl, hw8⟩
  conv => whnf
  subst hw8
  refine Calls.ret (known03) ?_
  rintro _ w9 ⟨rfl, hx9⟩
  conv => whnf
  exact ⟨rfl, (hx1.trans x17).trans hx9⟩

theorem crcBack_walk {w : World} {a b e : Option Addr} {c d f : Nat} {xs ys zs : List (BitVec 8)} (h : Sl u8v w a xs) (hb : Sl u8v w b ys) (he : Sl u8v w e zs) :
    Calls Try.prog 13 #[.slice a xs.length c, .slice b ys.length d, .slice e zs.length f] w (Law w) := by
  refine calls_of_vc lok Try.func13 ?_ rfl
  conv => whnf
  refine vcReg_meet lok (fun β : Bool => [(22, .bool β)]) (fun β w' => w' = w ∧ β = decide (65536 < xs.length ∨ 65536 < ys.length ∨ 65536 < zs.length)) [22] (fun _ => rfl) rfl ?_ ?_
  · conv => whnf
    refine bcase (fun h1 => ?_) (fun h1 => ?_)
    · conv => whnf
      exact ⟨_, ⟨rfl, trivial⟩, rfl, by have := dt h1; simp; omega⟩
    · conv => whnf
      refine bcase (fun h2 => ?_) (fun h2 => ?_)
      · conv => whnf
        exact ⟨_, ⟨rfl, trivial⟩, rfl, by have := dt h2; simp; omega⟩
      · conv => whnf
        exact ⟨_, ⟨rfl, trivial⟩, rfl, by have := df h1; have := df h2; rw [decide_eq_decide]; omega⟩
  rintro β w' ⟨rfl, hβ⟩
  conv => whnf
  refine vcCond_split lok rfl (fun h1 => ?_) (fun h1 => ?_)
  · conv => whnf
    refine Calls.ret (known03) ?_
    rintro _ w1 ⟨rfl, hx1⟩
    conv => whnf
    exact ⟨rfl, hx1⟩
  rw [hβ] at h1
  have hl := df h1
  conv => whnf
  have g1 := (Own.nil 5 u8v w'.heap.size w').append (ty := 22) (d := c) e8.toElem (fun _ => rfl) h (by simp; omega) (Nat.le_refl _)
  obtain ⟨a1, c1, w1, hr1, ho1, hg1, _⟩ := g1
  refine ⟨_, _, hr1, ?_⟩
  have x1 : Ext w' w1 := hg1.extOf (Ext.refl _) (fun g hg => by cases hg)
  conv => whnf
  have g2 := ho1.append (ty := 22) (d := d) e8.toElem (fun _ => rfl) (hb.ext x1) (by simp; omega) x1.size
  obtain ⟨a2, c2, w2, hr2, ho2, hg2, _⟩ := g2
  refine ⟨_, _, hr2, ?_⟩
  have x2 : Ext w' w2 := hg2.extOf x1 (fun g hg => (ho1.ge g hg).1)
  conv => whnf
  have g3 := ho2.append (ty := 22) (d := f) e8.toElem (fun _ => rfl) (he.ext x2) (by simp; omega) x2.size
  obtain ⟨a3, c3, w3, hr3, ho3, hg3, _⟩ := g3
  refine ⟨_, _, hr3, ?_⟩
  have x3 : Ext w' w3 := hg3.extOf x2 (fun g hg => (ho2.ge g hg).1)
  rw [List.nil_append] at ho3 ⊢
  have hal : (xs ++ ys ++ zs).length ≤ 196608 := by simp; omega
  have ea : onF (onF (sumF xs) ys) zs = sumF (xs ++ ys ++ zs) := by unfold sumF; rw [onF_append, onF_append]
  generalize xs ++ ys ++ zs = all at *
  conv => whnf
  refine Calls.ret (seal_calls ho3.sl (by omega)) ?_
  rintro _ w4 ⟨a4, c4, rfl, ho4, hx4⟩
  conv => whnf
  have hsl := sealF_len all
  have g5 := open_calls ho4.sl (by omega) ho4.le.1
  rw [open_seal] at g5
  refine Calls.ret (g5) ?_
  rintro _ w5 ⟨a5, c5, rfl, ho5, hx5⟩
  conv => whnf
  have x5 := (x3.trans hx4).trans hx5
  refine vcReg_go lok ?_
  conv => whnf
  refine ⟨_, run_toStr ho5.sl, ?_⟩
  conv => whnf
  refine ⟨_, run_toStr (ho3.sl.ext (hx4.trans hx5)), ?_⟩
  conv => whnf
  intro γ hγ
  have hγ2 : γ = true := by rw [str_eq hγ rfl rfl]; simp
  clear hγ
  subst hγ2
  conv => whnf
  refine Calls.ret (sum_calls (h.ext x5) (by omega)) ?_
  rintro _ w6 ⟨rfl, hx6⟩
  conv => whnf
  refine Calls.ret (on_calls (sumF xs) (hb.ext (x5.trans hx6)) (by omega)) ?_
  rintro _ w7 ⟨rfl, hx7⟩
  conv => whnf
  refine Calls.ret (on_calls (onF (sumF xs) ys) (he.ext ((x5.trans hx6).trans hx7)) (by omega)) ?_
  rintro _ w8 ⟨rfl, hx8⟩
  conv => whnf
  rw [ea]
  have x8 := ((x5.trans hx6).trans hx7).trans hx8
  refine Calls.ret (sum_calls (ho3.sl.ext ((((hx4.trans hx5).trans hx6).trans hx7).trans hx8)) (by omega)) ?_
  rintro _ w9 ⟨rfl, hx9⟩
  conv => whnf
  refine bcase (fun _ => ?_) (fun h5 => absurd rfl (df h5))
  conv => whnf
  refine Calls.ret (known03) ?_
  rintro _ w10 ⟨rfl, hx10⟩
  conv => whnf
  exact ⟨rfl, (x8.trans hx9).trans hx10⟩
end Go.Proofs.Ytgipackjnncabaa

/- Plain laws of layer 23: packets as bytes. No program in sight. -/
set_option linter.unusedSimpArgs false
set_option linter.unusedVariables false
namespace Go.Proofs.Ytgipackjnncabaa

structure Pk where
  kind : Int
  ver : BitVec 32
  size : Int
  chunk : Int
  state : Int
  hav : BitVec 32
  data : List (BitVec 8)

def Pk.zero : Pk := ⟨0, 0#32, 0, 0, 0, 0#32, []⟩

/-- can there be such a packet? -/
def canP (p : Pk) : Bool := decide (
  (p.kind = 1 ∧ (1 ≤ p.size ∧ p.size ≤ 2048) ∧ p.chunk = 0 ∧ p.state = 0 ∧ p.hav = 0#32 ∧ p.data.length = 0) ∨
  (p.kind = 2 ∧ p.size = 0 ∧ (0 ≤ p.chunk ∧ p.chunk ≤ 31) ∧ p.state = 0 ∧ p.hav = 0#32 ∧ (1 ≤ p.data.length ∧ p.data.length ≤ 64)) ∨
  (p.kind = 3 ∧ p.size = 0 ∧ p.chunk = 0 ∧ (0 ≤ p.state ∧ p.state ≤ 2) ∧ p.data.length = 0))

/-- a packet's bytes, its sum not with them -/
def bodyF (p : Pk) : List (BitVec 8) :=
  enc 1 p.kind.toNat ++ (enc 4 p.ver.toNat ++
    (if p.kind = 1 then enc 2 p.size.toNat else if p.kind = 2 then enc 1 p.chunk.toNat ++ p.data else enc 4 p.hav.toNat ++ enc 1 p.state.toNat))
def packF (p : Pk) : List (BitVec 8) × Int := if canP p = true then (sealF (bodyF p), 0) else ([], 1)

/-- a number is got, the place and the error go on -/
def getS (x : List (BitVec 8)) (s : Nat × Int) (k : Nat) : Nat × (Nat × Int) := if s.1 + k ≤ x.length then (decN ((x.drop s.1).take k), (s.1 + k, s.2)) else (0, (s.1, 4))

def upF (x : List (BitVec 8)) : Pk × (Nat × Int) :=
  let k := getS x (0, 0) 1
  let v := getS x k.2 4
  if k.1 = 1 then
    let n := getS x v.2 2
    (⟨1, BitVec.ofNat 32 v.1, n.1, 0, 0, 0#32, []⟩, n.2)
  else if k.1 = 2 then
    let n := getS x v.2 1
    (⟨2, BitVec.ofNat 32 v.1, 0, n.1, 0, 0#32, x.drop n.2.1⟩, (x.length, n.2.2))
  else if k.1 = 3 then
    let h := getS x v.2 4
    let st := getS x h.2 1
    (⟨3, BitVec.ofNat 32 v.1, 0, 0, st.1, BitVec.ofNat 32 h.1, []⟩, st.2)
  else (⟨k.1, BitVec.ofNat 32 v.1, 0, 0, 0, 0#32, []⟩, v.2)

def okUp (x : List (BitVec 8)) : Bool := decide ((upF x).2.2 = 0 ∧ (upF x).2.1 = x.length) && canP (upF x).1
def unpackF (b : List (BitVec 8)) : Pk × Int :=
  if (openF b).2 = 0 then (if okUp (openF b).1 = true then ((upF (openF b).1).1, 0) else (Pk.zero, 4)) else (Pk.zero, (openF b).2)

/-- the reference's reading: naught where there is nothing -/
def getZ (x : List (BitVec 8)) (at_ k : Nat) : Nat := if at_ + k ≤ x.length then decN ((x.drop at_).take k) else 0
def rawF (x : List (BitVec 8)) : Pk :=
  let k := getZ x 0 1
  let v := BitVec.ofNat 32 (getZ x 1 4)
  if k = 1 then ⟨1, v, getZ x 5 2, 0, 0, 0#32, []⟩
  else if k = 2 then ⟨2, v, 0, getZ x 5 1, 0, 0#32, x.drop 6⟩
  else if k = 3 then ⟨3, v, 0, 0, getZ x 9 1, BitVec.ofNat 32 (getZ x 5 4), []⟩
  else ⟨k, v, 0, 0, 0, 0#32, []⟩

theorem take_enc (k n : Nat) (r : List (BitVec 8)) : (enc k n ++ r).take k = enc k n := by
  have : (enc k n).length = k := enc_len k n
  rw [List.take_append_of_le_length (by omega), List.take_of_length_le (by omega)]
theorem drop_enc (k n : Nat) (r : List (BitVec 8)) : (enc k n ++ r).drop k = r := by
  have h : (enc k n).length = k := enc_len k n
  rw [List.drop_append_of_le_length (by omega), List.drop_of_length_le (by omega), List.nil_append]
theorem dec_enc {k n : Nat} (h : n < 256 ^ k) : decN (enc k n) = n := by rw [decN_enc, Nat.mod_eq_of_lt h]

theorem ver_lt (v : BitVec 32) : v.toNat < 256 ^ 4 := v.isLt
theorem ver_back (v : BitVec 32) : BitVec.ofNat 32 v.toNat = v := by rw [BitVec.ofNat_toNat, BitVec.setWidth_eq]

/-- the parts of a body, by their places -/
theorem body_parts (a b : Nat) (r : List (BitVec 8)) :
    (enc 1 a ++ (enc 4 b ++ r)).length = 5 + r.length ∧ ((enc 1 a ++ (enc 4 b ++ r)).drop 0).take 1 = enc 1 a ∧ ((enc 1 a ++ (enc 4 b ++ r)).drop 1).take 4 = enc 4 b ∧ (enc 1 a ++ (enc 4 b ++ r)).drop 5 = r := by
  refine ⟨by simp [enc_len]; omega, ?_, ?_, ?_⟩
  · rw [List.drop_zero, take_enc]
  · rw [drop_enc, take_enc]
  · rw [show (5 : Nat) = 1 + 4 from rfl, ← List.drop_drop, drop_enc, drop_enc]

theorem canP_cases {p : Pk} (h : canP p = true) :
    (p = ⟨1, p.ver, p.size, 0, 0, 0#32, []⟩ ∧ ∃ n : Nat, p.size = n ∧ 1 ≤ n ∧ n ≤ 2048) ∨ (p = ⟨2, p.ver, 0, p.chunk, 0, 0#32, p.data⟩ ∧ (∃ n : Nat, p.chunk = n ∧ n ≤ 31) ∧ 1 ≤ p.data.length ∧ p.data.length ≤ 64) ∨
      (p = ⟨3, p.ver, 0, 0, p.state, p.hav, []⟩ ∧ ∃ n : Nat, p.state = n ∧ n ≤ 2) := by
  have h := of_decide_eq_true h
  obtain ⟨k, v, s, c, t, hv, d⟩ := p
  simp only at h ⊢
  rcases h with ⟨h1, h2, h3, h4, h5, h6⟩ | ⟨h1, h2, h3, h4, h5, h6⟩ | ⟨h1, h2, h3, h4, h5⟩
  · have hd : d = [] := List.eq_nil_of_length_eq_zero h6
    subst h1 h3 h4 h5 hd
    exact .inl ⟨rfl, s.toNat, by omega, by omega, by omega⟩
  · subst h1 h2 h4 h5
    exact .inr (.inl ⟨rfl, ⟨c.toNat, by omega, by omega⟩, h6⟩)
  · have hd : d = [] := List.eq_nil_of_length_eq_zero h5
    subst h1 h2 h3 hd
    exact .inr (.inr ⟨rfl, t.toNat, by omega, by omega⟩)

theorem getS_ok {x : List (BitVec 8)} {a k : Nat} {e : Int} (h : a + k ≤ x.length) : getS x (a, e) k = (decN ((x.drop a).take k), (a + k, e)) := if_pos h
theorem getZ_ok {x : List (BitVec 8)} {a k : Nat} (h : a + k ≤ x.length) : getZ x a k = decN ((x.drop a).take k) := if_pos h

theorem up_body {p : Pk} (h : canP p = true) : upF (bodyF p) = (p, ((bodyF p).length, 0)) ∧ rawF (bodyF p) = p := by
  rcases canP_cases h with ⟨hp, n, hn, hn1, hn2⟩ | ⟨hp, ⟨n, hn, hn2⟩, hd1, hd2⟩ | ⟨hp, n, hn, hn2⟩
  · obtain ⟨k, v, s, c, t, hv, d⟩ := p
    simp only [Pk.mk.injEq, true_and] at hp
    obtain ⟨rfl, rfl, rfl, rfl, rfl⟩ := hp
    have hn : s = n := hn
    subst hn
    have eb : bodyF ⟨1, v, (n : Int), 0, 0, 0#32, []⟩ = enc 1 1 ++ (enc 4 v.toNat ++ enc 2 n) := rfl
    rw [eb]
    obtain ⟨l1, l2, l3, l4⟩ := body_parts 1 v.toNat (enc 2 n)
    rw [enc_len] at l1
    generalize enc 1 1 ++ (enc 4 v.toNat ++ enc 2 n) = x at *
    have d1 : decN ((x.drop 0).take 1) = 1 := by rw [l2, dec_enc (by decide)]
    have d2 : decN ((x.drop 1).take 4) = v.toNat := by rw [l3, dec_enc (ver_lt v)]
    have d3 : decN ((x.drop 5).take 2) = n := by rw [l4, List.take_of_length_le (by rw [enc_len]; exact Nat.le_refl _), dec_enc (by show n < 65536; omega)]
    constructor
    · unfold upF
      simp only [getS_ok (x := x) (a := 0) (k := 1) (by omega), d1]
      simp only [Nat.zero_add, getS_ok (x := x) (a := 1) (k := 4) (by omega), d2]
      simp only [Nat.reduceAdd, getS_ok (x := x) (a := 5) (k := 2) (by omega), d3, if_true, ver_back, l1]
    · unfold rawF
      simp only [getZ_ok (x := x) (a := 0) (k := 1) (by omega), d1, getZ_ok (x := x) (a := 1) (k := 4) (by omega), d2, getZ_ok (x := x) (a := 5) (k := 2) (by omega), d3, if_true, ver_back]
  · obtain ⟨k, v, s, c, t, hv, d⟩ := p
    simp only [Pk.mk.injEq, true_and, and_true] at hp hd1 hd2
    obtain ⟨rfl, rfl, rfl, rfl⟩ := hp
    have hn : c = n := hn
    subst hn
    have eb : bodyF ⟨2, v, 0, (n : Int), 0, 0#32, d⟩ = enc 1 2 ++ (enc 4 v.toNat ++ (enc 1 n ++ d)) := rfl
    rw [eb]
    obtain ⟨l1, l2, l3, l4⟩ := body_parts 2 v.toNat (enc 1 n ++ d)
    have l6 : (enc 1 2 ++ (enc 4 v.toNat ++ (enc 1 n ++ d))).drop 6 = d := by rw [show (6 : Nat) = 5 + 1 from rfl, ← List.drop_drop, l4, drop_enc]
    have lr : (enc 1 n ++ d).length = 1 + d.length := by rw [List.length_append, enc_len]
    rw [lr] at l1
    generalize enc 1 2 ++ (enc 4 v.toNat ++ (enc 1 n ++ d)) = x at *
    have d1 : decN ((x.drop 0).take 1) = 2 := by rw [l2, dec_enc (by decide)]
    have d2 : decN ((x.drop 1).take 4) = v.toNat := by rw [l3, dec_enc (ver_lt v)]
    have d3 : decN ((x.drop 5).take 1) = n := by rw [l4, take_enc, dec_enc (by show n < 256; omega)]
    constructor
    · unfold upF
      simp only [getS_ok (x := x) (a := 0) (k := 1) (by omega), d1]
      simp only [Nat.zero_add, getS_ok (x := x) (a := 1) (k := 4) (by omega), d2]
      simp only [Nat.reduceAdd, getS_ok (x := x) (a := 5) (k := 1) (by omega), d3, ver_back, l6]
      simp
    · unfold rawF
      simp only [getZ_ok (x := x) (a := 0) (k := 1) (by omega), d1, getZ_ok (x := x) (a := 1) (k := 4) (by omega), d2, getZ_ok (x := x) (a := 5) (k := 1) (by omega), d3, ver_back, l6]
      simp
  · obtain ⟨k, v, s, c, t, hv, d⟩ := p
    simp only [Pk.mk.injEq, true_and, and_true] at hp
    obtain ⟨rfl, rfl, rfl, rfl⟩ := hp
    have hn : t = n := hn
    subst hn
    have eb : bodyF ⟨3, v, 0, 0, (n : Int), hv, []⟩ = enc 1 3 ++ (enc 4 v.toNat ++ (enc 4 hv.toNat ++ enc 1 n)) := rfl
    rw [eb]
    obtain ⟨l1, l2, l3, l4⟩ := body_parts 3 v.toNat (enc 4 hv.toNat ++ enc 1 n)
    have l6 : (enc 1 3 ++ (enc 4 v.toNat ++ (enc 4 hv.toNat ++ enc 1 n))).drop 9 = enc 1 n := by rw [show (9 : Nat) = 5 + 4 from rfl, ← List.drop_drop, l4, drop_enc]
    have lr : (enc 4 hv.toNat ++ enc 1 n).length = 5 := by rw [List.length_append, enc_len, enc_len]
    rw [lr] at l1
    generalize enc 1 3 ++ (enc 4 v.toNat ++ (enc 4 hv.toNat ++ enc 1 n)) = x at *
    have d1 : decN ((x.drop 0).take 1) = 3 := by rw [l2, dec_enc (by decide)]
    have d2 : decN ((x.drop 1).take 4) = v.toNat := by rw [l3, dec_enc (ver_lt v)]
    have d3 : decN ((x.drop 5).take 4) = hv.toNat := by rw [l4, take_enc, dec_enc (ver_lt hv)]
    have d4 : decN ((x.drop 9).take 1) = n := by rw [l6, List.take_of_length_le (by rw [enc_len]; exact Nat.le_refl _), dec_enc (by show n < 256; omega)]
    constructor
    · unfold upF
      simp only [getS_ok (x := x) (a := 0) (k := 1) (by omega), d1]
      simp only [Nat.zero_add, getS_ok (x := x) (a := 1) (k := 4) (by omega), d2]
      simp only [Nat.reduceAdd, getS_ok (x := x) (a := 5) (k := 4) (by omega), d3]
      simp only [Nat.reduceAdd, getS_ok (x := x) (a := 9) (k := 1) (by omega), d4, ver_back, l1]
      simp
    · unfold rawF
      simp only [getZ_ok (x := x) (a := 0) (k := 1) (by omega), d1, getZ_ok (x := x) (a := 1) (k := 4) (by omega), d2, getZ_ok (x := x) (a := 5) (k := 4) (by omega), d3, getZ_ok (x := x) (a := 9) (k := 1) (by omega), d4, ver_back]
      simp

theorem enc_take (x : List (BitVec 8)) (k : Nat) (h : k ≤ x.length) : enc k (decN (x.take k)) = x.take k := by
  have := enc_decN (x.take k)
  rwa [List.length_take, Nat.min_eq_left h] at this
theorem dec_lt (x : List (BitVec 8)) (a k : Nat) (h : a + k ≤ x.length) : decN ((x.drop a).take k) < 256 ^ k := by
  have := decN_lt ((x.drop a).take k)
  rwa [List.length_take, List.length_drop, Nat.min_eq_left (by omega)] at this
theorem enc_mid (x : List (BitVec 8)) (a k : Nat) (h : a + k ≤ x.length) : enc k (decN ((x.drop a).take k)) ++ x.drop (a + k) = x.drop a := by
  rw [enc_take (x.drop a) k (by rw [List.length_drop]; omega), ← List.drop_drop, List.take_append_drop]

/-- what is read well is packed as it was -/
theorem body_up {x : List (BitVec 8)} (h : okUp x = true) : bodyF (upF x).1 = x := by
  unfold okUp at h
  rw [Bool.and_eq_true, decide_eq_true_iff] at h
  obtain ⟨⟨h1, h2⟩, h3⟩ := h
  have g1 : ∀ a k e, getS x (a, e) k = if a + k ≤ x.length then (decN ((x.drop a).take k), (a + k, e)) else (0, (a, 4)) := fun _ _ _ => rfl
  have b0 : 0 + 1 ≤ x.length ∧ 1 + 4 ≤ x.length := by
    unfold upF at h1
    by_cases c0 : 0 + 1 ≤ x.length
    · by_cases c1 : 1 + 4 ≤ x.length
      · exact ⟨c0, c1⟩
      · exfalso
        simp only [g1, if_pos c0, if_neg c1] at h1
        revert h1
        (repeat' split) <;> simp
    · exfalso
      have hx : x.length = 0 := by omega
      simp [upF, getS, hx] at h1
  obtain ⟨c0, c1⟩ := b0
  have eh : enc 1 (decN ((x.drop 0).take 1)) ++ (enc 4 (decN ((x.drop 1).take 4)) ++ x.drop 5) = x := by
    have e1 := enc_mid x 0 1 c0
    have e2 := enc_mid x 1 4 c1
    rw [List.drop_zero] at e1
    rw [e2, List.drop_zero]
    exact e1
  have lv := dec_lt x 1 4 c1
  unfold upF at h1 h2 h3 ⊢
  simp only [g1, if_pos c0] at h1 h2 h3 ⊢
  simp only [Nat.zero_add, g1, if_pos c1, Nat.reduceAdd] at h1 h2 h3 ⊢
  generalize hk : decN ((x.drop 0).take 1) = k at *
  generalize hv : decN ((x.drop 1).take 4) = v at *
  have hvn : (BitVec.ofNat 32 v).toNat = v := by rw [BitVec.toNat_ofNat]; exact Nat.mod_eq_of_lt lv
  by_cases k1 : k = 1
  · rw [if_pos k1] at h1 h2 h3 ⊢
    rw [k1] at eh
    by_cases c2 : 7 ≤ x.length
    · simp only [g1, Nat.reduceAdd, if_pos c2] at h1 h2 h3 ⊢
      have e3 := enc_mid x 5 2 c2
      rw [List.drop_of_length_le (show x.length ≤ 5 + 2 by omega), List.append_nil] at e3
      show enc 1 1 ++ (enc 4 (BitVec.ofNat 32 v).toNat ++ enc 2 (((decN ((x.drop 5).take 2) : Nat) : Int)).toNat) = x
      rw [hvn, Int.toNat_natCast, e3, eh]
    · simp only [g1, Nat.reduceAdd, if_neg c2] at h1
      omega
  · rw [if_neg k1] at h1 h2 h3 ⊢
    by_cases k2 : k = 2
    · rw [if_pos k2] at h1 h2 h3 ⊢
      rw [k2] at eh
      by_cases c2 : 6 ≤ x.length
      · simp only [g1, Nat.reduceAdd, if_pos c2] at h1 h3 ⊢
        have e3 := enc_mid x 5 1 c2
        show enc 1 2 ++ (enc 4 (BitVec.ofNat 32 v).toNat ++ (enc 1 (((decN ((x.drop 5).take 1) : Nat) : Int)).toNat ++ x.drop (5 + 1))) = x
        rw [hvn, Int.toNat_natCast, e3, eh]
      · simp only [g1, Nat.reduceAdd, if_neg c2] at h1
        omega
    · rw [if_neg k2] at h1 h2 h3 ⊢
      by_cases k3 : k = 3
      · rw [if_pos k3] at h1 h2 h3 ⊢
        rw [k3] at eh
        by_cases c2 : 9 ≤ x.length
        · by_cases c3 : 10 ≤ x.length
          · simp only [g1, Nat.reduceAdd, if_pos c2, if_pos c3] at h1 h2 h3 ⊢
            have e3 := enc_mid x 5 4 c2
            have e4 := enc_mid x 9 1 c3
            rw [List.drop_of_length_le (show x.length ≤ 9 + 1 by omega), List.append_nil] at e4
            have lh := dec_lt x 5 4 c2
            show enc 1 3 ++ (enc 4 (BitVec.ofNat 32 v).toNat ++ (enc 4 (BitVec.ofNat 32 (decN ((x.drop 5).take 4))).toNat ++ enc 1 (((decN ((x.drop 9).take 1) : Nat) : Int)).toNat)) = x
            rw [hvn, Int.toNat_natCast, BitVec.toNat_ofNat, Nat.mod_eq_of_lt lh, e4, e3, eh]
          · simp only [g1, Nat.reduceAdd, if_pos c2, if_neg c3] at h1
            omega
        · simp only [g1, Nat.reduceAdd, if_neg c2] at h1
          revert h1
          split <;> simp
      · rw [if_neg k3] at h3
        exfalso
        have h4 := of_decide_eq_true h3
        simp only at h4
        omega

theorem seal_inj {x y : List (BitVec 8)} (h : sealF x = sealF y) : x = y := by
  have hl : x.length = y.length := by
    have := congrArg List.length h
    rw [sealF_len, sealF_len] at this
    omega
  have h2 : (sealF x).take x.length = (sealF y).take x.length := by rw [h]
  unfold sealF at h2
  rwa [List.take_left, hl, List.take_left] at h2

/-- the reference's way to unpack -/
theorem unpack_ref (b : List (BitVec 8)) (h0 : (openF b).2 = 0) :
    unpackF b = if canP (rawF (openF b).1) = true ∧ sealF (bodyF (rawF (openF b).1)) = b then (rawF (openF b).1, 0) else (Pk.zero, 4) := by
  have hs : sealF (openF b).1 = b := by
    unfold openF at h0 ⊢
    by_cases h4 : b.length < 4
    · rw [if_pos h4] at h0; simp at h0
    · rw [if_neg h4] at h0 ⊢
      by_cases h5 : sumF (b.take (b.length - 4)) = BitVec.ofNat 32 (decN (b.drop (b.length - 4)))
      · rw [if_pos h5]; exact (seal_eq h4).2 h5
      · rw [if_neg h5] at h0; simp at h0
  unfold unpackF
  rw [if_pos h0]
  generalize (openF b).1 = x at *
  by_cases hk : okUp x = true
  · rw [if_pos hk]
    have hb := body_up hk
    have hc : canP (upF x).1 = true := by unfold okUp at hk; rw [Bool.and_eq_true] at hk; exact hk.2
    have hr := (up_body hc).2
    rw [hb] at hr
    rw [hr, if_pos ⟨hc, by rw [hb, hs]⟩]
  · rw [if_neg hk, if_neg]
    rintro ⟨hc, hsb⟩
    apply hk
    have hx : bodyF (rawF x) = x := seal_inj (hsb.trans hs.symm)
    have hu := (up_body hc).1
    rw [hx] at hu
    unfold okUp
    rw [hu]
    simp [hc]

/-- what is unpacked is packed as it was -/
theorem pack_unpack {b : List (BitVec 8)} (h : (unpackF b).2 = 0) : packF (unpackF b).1 = (b, 0) := by
  unfold unpackF at h ⊢
  by_cases h0 : (openF b).2 = 0
  · have hr := unpack_ref b h0
    rw [if_pos h0] at h ⊢
    by_cases hk : okUp (openF b).1 = true
    · rw [if_pos hk]
      have hc : canP (upF (openF b).1).1 = true := by unfold okUp at hk; rw [Bool.and_eq_true] at hk; exact hk.2
      have hb := body_up hk
      unfold unpackF at hr
      rw [if_pos h0, if_pos hk] at hr
      unfold packF
      rw [if_pos hc, hb]
      by_cases hq : canP (rawF (openF b).1) = true ∧ sealF (bodyF (rawF (openF b).1)) = b
      · rw [if_pos hq] at hr
        have e : (upF (openF b).1).1 = rawF (openF b).1 := congrArg Prod.fst hr
        rw [← hb, e, hq.2]
      · rw [if_neg hq] at hr
        have : (0 : Int) = 4 := congrArg Prod.snd hr
        omega
    · rw [if_neg hk] at h
      have : (4 : Int) = 0 := h
      omega
  · rw [if_neg h0] at h
    exact absurd h h0

/-- what was packed is unpacked as it was -/
theorem unpack_pack {p : Pk} (h : canP p = true) : unpackF (sealF (bodyF p)) = (p, 0) := by
  unfold unpackF
  rw [open_seal, if_pos rfl]
  have hu := (up_body h).1
  have hk : okUp (bodyF p) = true := by
    unfold okUp
    rw [hu]
    simp [h]
  rw [if_pos hk, hu]

end Go.Proofs.Ytgipackjnncabaa

/- Plain laws of layer 6: a flash as words, the power, the cut that is planned. No program in sight. -/
set_option linter.unusedSimpArgs false
set_option linter.unusedVariables false
namespace Go.Proofs.Ytgipackjnncabaa

def ones : BitVec 32 := 4294967295#32

structure FS where
  ws : List (BitVec 32)
  off : Bool
  left : Int
  mask : BitVec 32
  ops : Int

/-- n words from place a on made ones -/
def fillF (ws : List (BitVec 32)) (a n : Nat) : List (BitVec 32) := (List.range n).foldl (fun l i => l.set (a + i) ones) ws
theorem fillF_zero (ws : List (BitVec 32)) (a : Nat) : fillF ws a 0 = ws := rfl
theorem fillF_succ (ws : List (BitVec 32)) (a n : Nat) : fillF ws a (n + 1) = (fillF ws a n).set (a + n) ones := by
  unfold fillF
  rw [List.range_succ, List.foldl_append]
  rfl
theorem fillF_len (ws : List (BitVec 32)) (a n : Nat) : (fillF ws a n).length = ws.length := by
  induction n with
  | zero => rfl
  | succ n ih => rw [fillF_succ, List.length_set, ih]
theorem fillF_get (ws : List (BitVec 32)) (a n i : Nat) : (fillF ws a n)[i]? = if a ≤ i ∧ i < a + n ∧ i < ws.length then some ones else ws[i]? := by
  induction n with
  | zero => rw [fillF_zero, if_neg (by omega)]
  | succ n ih =>
    rw [fillF_succ, List.getElem?_set, fillF_len]
    by_cases h : a + n = i
    · rw [if_pos h]
      by_cases h2 : i < ws.length
      · rw [if_pos (by omega), if_pos (by omega)]
      · rw [if_neg (by omega), if_neg (by omega), List.getElem?_eq_none (by omega)]
    · rw [if_neg h, ih]
      by_cases h2 : a ≤ i ∧ i < a + n ∧ i < ws.length
      · rw [if_pos h2, if_pos (by omega)]
      · rw [if_neg h2, if_neg (by omega)]

/-- an operation that the power stands -/
def FS.did (s : FS) (ws : List (BitVec 32)) : FS := { s with ws := ws, left := if 0 < s.left then s.left - 1 else s.left, ops := s.ops + 1 }
/-- one that is torn -/
def FS.tore (s : FS) (ws : List (BitVec 32)) : FS := { s with ws := ws, left := -1, off := true }

def progF (s : FS) (at_ : Int) (x : BitVec 32) : FS × Int :=
  if s.off then (s, 7) else if at_ < 0 ∨ (s.ws.length : Int) ≤ at_ then (s, 10) else
    if s.left = 0 then (s.tore (s.ws.set at_.toNat (s.ws.getD at_.toNat 0#32 &&& (x ||| ~~~s.mask))), 7)
    else (s.did (s.ws.set at_.toNat (s.ws.getD at_.toNat 0#32 &&& x)), 0)

def eraseF (s : FS) (n : Int) : FS × Int :=
  if s.off then (s, 7) else if n < 0 ∨ ((s.ws.length / 256 : Nat) : Int) ≤ n then (s, 10) else
    if s.left = 0 then (s.tore (fillF s.ws (256 * n.toNat) (s.mask.toNat % 257)), 7)
    else (s.did (fillF s.ws (256 * n.toNat) 256), 0)

def readF (s : FS) (at_ : Int) : BitVec 32 × Int :=
  if s.off then (0#32, 7) else if at_ < 0 ∨ (s.ws.length : Int) ≤ at_ then (0#32, 10) else (s.ws.getD at_.toNat 0#32, 0)

def cutF (s : FS) (n : Int) (m : BitVec 32) : FS × Int := if n < 0 then (s, 1) else ({ s with left := n, mask := m }, 0)
def startF (s : FS) : FS := { s with off := false }

def newFS (ws : List (BitVec 32)) : FS := ⟨ws, false, -1, 0#32, 0⟩
/-- can there be a flash of as many words? -/
def canF (n : Nat) : Bool := decide (n % 256 = 0 ∧ 256 ≤ n ∧ n ≤ 4096)

/-- what every operation leaves: as many words, at most one operation more -/
structure FS.Le (s t : FS) (k : Nat) : Prop where
  len : t.ws.length = s.ws.length
  ops : s.ops ≤ t.ops ∧ t.ops ≤ s.ops + k
  left : -1 ≤ s.left → -1 ≤ t.left

theorem progF_le (s : FS) (at_ : Int) (x : BitVec 32) : s.Le (progF s at_ x).1 1 := by
  unfold progF
  split
  · exact ⟨rfl, ⟨Int.le_refl _, by show s.ops ≤ s.ops + 1; omega⟩, id⟩
  · split
    · exact ⟨rfl, ⟨Int.le_refl _, by show s.ops ≤ s.ops + 1; omega⟩, id⟩
    · split
      · exact ⟨by simp [FS.tore], ⟨Int.le_refl _, by show s.ops ≤ s.ops + 1; omega⟩, fun _ => by simp [FS.tore]⟩
      · exact ⟨by simp [FS.did], by simp only [FS.did]; omega, fun h => by simp only [FS.did]; split <;> omega⟩
theorem eraseF_le (s : FS) (n : Int) : s.Le (eraseF s n).1 1 := by
  unfold eraseF
  split
  · exact ⟨rfl, ⟨Int.le_refl _, by show s.ops ≤ s.ops + 1; omega⟩, id⟩
  · split
    · exact ⟨rfl, ⟨Int.le_refl _, by show s.ops ≤ s.ops + 1; omega⟩, id⟩
    · split
      · exact ⟨by simp [FS.tore, fillF_len], ⟨Int.le_refl _, by show s.ops ≤ s.ops + 1; omega⟩, fun _ => by simp [FS.tore]⟩
      · exact ⟨by simp [FS.did, fillF_len], by simp only [FS.did]; omega, fun h => by simp only [FS.did]; split <;> omega⟩

/-! ### bit by bit -/
theorem bit_nat (x : BitVec 32) (i : Nat) : x.getLsbD i = decide (x.toNat / 2 ^ i % 2 = 1) := by
  rw [BitVec.getLsbD, Nat.testBit_eq_decide_div_mod_eq]

theorem sub_bit (x : BitVec 32) (i : Nat) (hi : i < 32) (h : x.getLsbD i = true) : x - BitVec.twoPow 32 i = x &&& ~~~BitVec.twoPow 32 i := by
  have e : (x &&& ~~~BitVec.twoPow 32 i) + BitVec.twoPow 32 i = x := by
    rw [BitVec.add_eq_or_of_and_eq_zero]
    · ext j hj
      simp only [BitVec.getElem_or, BitVec.getElem_and, BitVec.getElem_not, BitVec.getElem_twoPow]
      by_cases h1 : j = i
      · subst h1
        rw [← BitVec.getLsbD_eq_getElem, h]
        simp
      · simp [h1]
    · ext j hj
      simp
  calc x - BitVec.twoPow 32 i = (x &&& ~~~BitVec.twoPow 32 i) + BitVec.twoPow 32 i - BitVec.twoPow 32 i := by rw [e]
    _ = _ := by rw [BitVec.add_sub_cancel]

theorem clear_step (x n K : BitVec 32) (i : Nat) (hi : i < 32) (h : ∀ j, j < 32 → x.getLsbD j = (n.getLsbD j && (decide (i ≤ j) || K.getLsbD j))) (c : Bool) (hc : c = (!K.getLsbD i && n.getLsbD i)) :
    ∀ j, j < 32 → (if c = true then x - BitVec.twoPow 32 i else x).getLsbD j = (n.getLsbD j && (decide (i + 1 ≤ j) || K.getLsbD j)) := by
  intro j hj
  have hx := h i hi
  simp only [Nat.le_refl, decide_true, Bool.true_or, Bool.and_true] at hx
  by_cases h1 : j = i
  · subst h1
    cases c with
    | true =>
      have hc' := hc.symm
      simp only [Bool.and_eq_true, Bool.not_eq_true'] at hc'
      rw [if_pos rfl, sub_bit x j hi (by rw [hx, hc'.2])]
      rw [BitVec.getLsbD_and, BitVec.getLsbD_not, BitVec.getLsbD_twoPow, hc'.1]
      simp [hi]
    | false =>
      rw [if_neg (by simp), hx]
      revert hc
      cases n.getLsbD j <;> cases K.getLsbD j <;> simp
  · have e : (if c = true then x - BitVec.twoPow 32 i else x).getLsbD j = x.getLsbD j := by
      cases c with
      | true =>
        have hc' := hc.symm
        simp only [Bool.and_eq_true, Bool.not_eq_true'] at hc'
        rw [if_pos rfl, sub_bit x i hi (by rw [hx, hc'.2]), BitVec.getLsbD_and, BitVec.getLsbD_not, BitVec.getLsbD_twoPow]
        simp [hj, Ne.symm h1]
      | false => rw [if_neg (by simp)]
    rw [e, h j hj]
    have : decide (i ≤ j) = decide (i + 1 ≤ j) := by rw [decide_eq_decide]; omega
    rw [this]

theorem clear_done (x n K : BitVec 32) (h : ∀ j, j < 32 → x.getLsbD j = (n.getLsbD j && (decide (32 ≤ j) || K.getLsbD j))) : x = n &&& K := by
  apply BitVec.eq_of_getLsbD_eq
  intro j hj
  rw [h j hj, BitVec.getLsbD_and]
  have : ¬ 32 ≤ j := by omega
  simp [this]

end Go.Proofs.Ytgipackjnncabaa

/- Walks of layer 6: the flash's operations. -/
set_option linter.unusedVariables false
namespace Go.Proofs.Ytgipackjnncabaa
open Go.Vc Go.RowKit

/-- a flash's cells -/
def FS.cells (s : FS) (gw c : Nat) : List Value := [.slice (some ⟨gw, 0, none⟩) s.ws.length c, .bool s.off, .int .i64 s.left, u32v s.mask, .int .i64 s.ops]
/-- at block g lies a flash (or the reference's), its words at block gw -/
structure FlAt (T B : Nat) (w : World) (g gw c : Nat) (s : FS) : Prop where
  blk : Blk w g T (s.cells gw c)
  own : Own 42 u32v B w (some ⟨gw, 0, none⟩) c s.ws
  lo : B ≤ g
  ne : g ≠ gw
/-- what an operation writes -/
abbrev FlMod (g gw : Nat) : World → World → Prop := Mod fun k => k = g ∨ k = gw

section
variable {T B : Nat} {w w' : World} {g gw c : Nat} {s : FS}
theorem FlAt.ext (h : FlAt T B w g gw c s) (hk : Ext w w') : FlAt T B w' g gw c s := ⟨h.blk.ext hk, h.own.ext hk, h.lo, h.ne⟩
theorem FlAt.keep {S : Nat → Prop} (h : FlAt T B w g gw c s) (hk : Mod S w w') (h1 : ¬ S g) (h2 : ¬ S gw) : FlAt T B w' g gw c s :=
  ⟨hk.keepBlk h.blk h1, hk.keepOwn h.own (fun g' hg' => by cases hg'; exact h2), h.lo, h.ne⟩
theorem FlAt.base (h : FlAt T B w g gw c s) {B' : Nat} (hB : B' ≤ B) : FlAt T B' w g gw c s := ⟨h.blk, h.own.base hB, Nat.le_trans hB h.lo, h.ne⟩
theorem FlAt.lt (h : FlAt T B w g gw c s) : g < w.heap.size ∧ gw < w.heap.size ∧ B ≤ gw := ⟨h.blk.lt, h.own.lt.2, h.own.lt.1⟩
theorem FlAt.sl (h : FlAt T B w g gw c s) : Sl u32v w (some ⟨gw, 0, none⟩) s.ws := h.own.sl
theorem FlMod.above {w0 : World} (h : FlMod g gw w w') (hb : Ext w0 w) (h1 : w0.heap.size ≤ g) (h2 : w0.heap.size ≤ gw) : Ext w0 w' := Mod.above h hb fun k hk => by rcases hk with rfl | rfl <;> assumption
/-- a word is stored -/
theorem FlAt.setWord (h : FlAt T B w g gw c s) (i : Nat) (hi : i < s.ws.length) (x : BitVec 32) (hw : w' = w.setCell ⟨gw, 0 + i, none⟩ (u32v x)) : FlAt T B w' g gw c { s with ws := s.ws.set i x } ∧ FlMod g gw w w' := by
  obtain ⟨ho, hg⟩ := (h.own.storeAt i hi).2 x w' hw
  refine ⟨⟨?_, ho, h.lo, h.ne⟩, Mod.ofGr hg fun k hk => by cases hk; exact .inr rfl⟩
  have hb := h.blk.keep (hg.block g h.lt.1 (fun e => h.ne (by cases e; rfl)))
  unfold FS.cells at *
  rw [List.length_set]
  exact hb
/-- a field is stored -/
theorem FlAt.setField (h : FlAt T B w g gw c s) (i : Nat) (v : Value) (t : FS) (hl : t.ws = s.ws) (hc : t.cells gw c = (s.cells gw c).set i v) (hw : w' = w.setCell ⟨g, 0 + i, none⟩ v) : FlAt T B w' g gw c t ∧ FlMod g gw w w' := by
  have hg : Gr w w' (some g) := by rw [hw]; exact gr_setCell _ _ _ _
  refine ⟨⟨?_, ?_, h.lo, h.ne⟩, Mod.ofGr hg fun k hk => by cases hk; exact .inl rfl⟩
  · rw [hc, hw]; exact h.blk.set i v
  · rw [hl]; exact hg.keepOwn h.own fun g' hg' e => by cases hg'; cases e; exact h.ne rfl
end

/-- its numbers are in range -/
structure FSok (s : FS) : Prop where
  ops : s.ops ≤ 4611686018427387904 ∧ -4611686018427387904 ≤ s.ops
  left : s.left ≤ 9223372036854775807

/-- fill -/
theorem fill_calls {B : Nat} {w : World} {g gw c : Nat} {s : FS} (h : FlAt 181 B w g gw c s) (a b : Nat) (hab : a ≤ b) (hb : b ≤ s.ws.length) (hl : s.ws.length ≤ 1048576) :
    Calls Try.prog 143 #[.pointer (some ⟨g, 0, none⟩), .int .i64 a, .int .i64 b] w (Ret fun v w' => v = .tuple #[] ∧ FlAt 181 B w' g gw c { s with ws := fillF s.ws a (b - a) } ∧ FlMod g gw w w') := by
  refine calls_of_vc lok Try.func143 ?_ rfl
  conv => whnf
  refine vcLoop_inv lok (σ := Nat)
    (fun i => [(6, .int .i64 (a + i : Nat)), (0, .pointer (some ⟨g, 0, none⟩)), (1, .int .i64 a), (2, .int .i64 b)])
    (fun i w1 => a + i ≤ b ∧ FlAt 181 B w1 g gw c { s with ws := fillF s.ws a i } ∧ FlMod g gw w w1) (fun i => b - i)
    0 ⟨rfl, rfl, rfl, rfl, trivial⟩ ⟨by omega, h, Mod.refl _ _⟩ ?_
  rintro i w1 ⟨hi, h1, hm1⟩
  conv => whnf
  refine vcCond_split lok rfl (fun h2 => ?_) (fun h2 => ?_)
  · have h2 := dt h2
    conv => whnf
    refine ⟨_, h1.blk.cell0 rfl, ?_⟩
    conv => whnf
    have hlen := fillF_len s.ws a i
    refine ⟨gw, 0, rfl, ⟨by omega, by show ((a + i : Nat) : Int) < ((fillF s.ws a i).length : Int); omega⟩, ?_⟩
    conv => whnf
    rw [show (((a + i : Nat) : Int)).toNat = a + i from rfl]
    refine ⟨⟨rfl, (h1.own.storeAt (a + i) (by show a + i < (fillF s.ws a i).length; omega)).1⟩, fun w2 hw2 => ?_⟩
    have g2 := h1.setWord (a + i) (by show a + i < (fillF s.ws a i).length; omega) ones hw2
    obtain ⟨h2', hm2⟩ := g2
    clear hw2
    conv => whnf
    refine ⟨by omega, ?_⟩
    conv => whnf
    refine ⟨i + 1, ⟨rfl, rfl, rfl, rfl, trivial⟩, ⟨by omega, ?_, hm1.trans hm2⟩, by omega⟩
    rw [fillF_succ]
    exact h2'
  · have h2 := df h2
    conv => whnf
    have e : i = b - a := by omega
    subst e
    exact ⟨rfl, h1, hm1⟩

/-- check -/
theorem check_calls {B : Nat} {w : World} {g gw c : Nat} {s : FS} (h : FlAt 181 B w g gw c s) (n most : Int) :
    Calls Try.prog 152 #[.pointer (some ⟨g, 0, none⟩), .int .i64 n, .int .i64 most] w (Ret fun v w' => v = .int .i64 (if s.off = true then 7 else if n < 0 ∨ most ≤ n then 10 else 0) ∧ w' = w) := by
  refine calls_of_vc lok Try.func152 ?_ rfl
  conv => whnf
  refine ⟨_, h.blk.cell (i := 1) rfl, ?_⟩
  conv => whnf
  cases ho : s.off with
  | true =>
    refine vcCond_true lok (rfl) ?_
    conv => whnf
    exact ⟨rfl, rfl⟩
  | false =>
    refine vcCond_false lok (rfl) ?_
    conv => whnf
    refine vcReg_meet lok (fun β : Bool => [(12, .bool β)]) (fun β w' => w' = w ∧ β = decide (n < 0 ∨ most ≤ n)) [12] (fun _ => rfl) rfl ?_ ?_
    · conv => whnf
      refine bcase (fun h1 => ?_) (fun h1 => ?_)
      · conv => whnf
        exact ⟨_, ⟨rfl, trivial⟩, rfl, by have := dt h1; simp; omega⟩
      · conv => whnf
        exact ⟨_, ⟨rfl, trivial⟩, rfl, by have := df h1; rw [decide_eq_decide]; omega⟩
    rintro β w' ⟨hw', hβ⟩
    subst hw'
    conv => whnf
    refine vcCond_split lok rfl (fun h1 => ?_) (fun h1 => ?_)
    · rw [h1] at hβ
      conv => whnf
      exact ⟨by rw [if_pos (dt hβ.symm)]; rfl, rfl⟩
    · rw [h1] at hβ
      conv => whnf
      exact ⟨by rw [if_neg (df hβ.symm)]; rfl, rfl⟩

/-- what is to be cleared, whole -/
theorem all_calls {B : Nat} {w : World} {g gw c : Nat} {s : FS} (h : FlAt 181 B w g gw c s) (i : Nat) (hi : i < s.ws.length) (x : BitVec 32) :
    Calls Try.prog 154 #[.agg #[.pointer (some ⟨g, 0, none⟩), .int .u32 x.toNat], .int .i64 i] w (Ret fun v w' => v = .tuple #[] ∧ FlAt 181 B w' g gw c { s with ws := s.ws.set i (s.ws.getD i 0#32 &&& x) } ∧ FlMod g gw w w') := by
  refine calls_of_vc lok Try.func154 ?_ rfl
  conv => whnf
  intro w1 hw1
  have hb1 : Blk w1 w.heap.size 196 [.pointer (some ⟨g, 0, none⟩), u32v x] := by rw [hw1]; exact Blk.new w 196 _
  have x1 : Ext w w1 := by rw [hw1]; exact Ext.new _ _
  clear hw1
  conv => whnf
  have gx : s.ws[i]? = some (s.ws.getD i 0#32) := by simp [List.getD, List.getElem?_eq_getElem hi]
  refine vcDraw_go lok mixed (fun w3 => w3 = w1.drew) [] [0, 1, 2, 3, 4, 5, 6, 7, 8, 9, 10, 11, 12] (by kernel_rfl) fun w2 hw2 => ⟨hw2, ?_⟩
  have x2 : Ext w1 w2 := hw2 ▸ Ext.drew w1
  have h2 := h.ext (x1.trans x2)
  have hb2 := hb1.ext x2
  conv => whnf
  refine ⟨_, fun w5 hw5 => by rw [hw5, ← hw2]; exact hb2.cell0 rfl, ?_⟩
  conv => whnf
  refine ⟨_, fun w5 hw5 => by rw [hw5, ← hw2]; exact h2.blk.cell0 rfl, ?_⟩
  conv => whnf
  refine ⟨gw, 0, rfl, ⟨by omega, by omega⟩, ?_⟩
  conv => whnf
  refine ⟨_, fun w5 hw5 => by rw [hw5, ← hw2]; exact h2.own.cellAt gx, ?_⟩
  conv => whnf
  refine ⟨_, fun w5 hw5 => by rw [hw5, ← hw2]; exact hb2.cell (i := 1) rfl, ?_⟩
  conv => whnf
  intro z hz
  replace hz := hz.trans (and32 (s.ws.getD i 0#32) x)
  subst hz
  conv => whnf
  refine ⟨gw, 0, rfl, ⟨by omega, by omega⟩, ?_⟩
  conv => whnf
  refine ⟨⟨rfl, (h2.own.storeAt i hi).1⟩, fun w3 hw3 => ?_⟩
  have g3 := h2.setWord i hi (s.ws.getD i 0#32 &&& x) hw3
  exact ⟨rfl, g3.1, (Mod.ofExt _ (x1.trans x2)).trans g3.2⟩

/-- what is to be cleared, torn -/
theorem some_calls {B : Nat} {w : World} {g gw c : Nat} {s : FS} (h : FlAt 181 B w g gw c s) (i : Nat) (hi : i < s.ws.length) (x : BitVec 32) :
    Calls Try.prog 155 #[.agg #[.pointer (some ⟨g, 0, none⟩), .int .u32 x.toNat], .int .i64 i] w (Ret fun v w' => v = .tuple #[] ∧ FlAt 181 B w' g gw c { s with ws := s.ws.set i (s.ws.getD i 0#32 &&& (x ||| ~~~s.mask)) } ∧ FlMod g gw w w') := by
  refine calls_of_vc lok Try.func155 ?_ rfl
  conv => whnf
  intro w1 hw1
  have hb1 : Blk w1 w.heap.size 196 [.pointer (some ⟨g, 0, none⟩), u32v x] := by rw [hw1]; exact Blk.new w 196 _
  have x1 : Ext w w1 := by rw [hw1]; exact Ext.new _ _
  clear hw1
  conv => whnf
  have gx : s.ws[i]? = some (s.ws.getD i 0#32) := by simp [List.getD, List.getElem?_eq_getElem hi]
  refine vcDraw_go lok mixed (fun w3 => w3 = w1.drew) [] [0, 1, 2, 3, 4, 5, 6, 7, 8, 9, 10, 11, 12, 13, 14, 15, 16, 17, 18, 19] (by kernel_rfl) fun w2 hw2 => ⟨hw2, ?_⟩
  have x2 : Ext w1 w2 := hw2 ▸ Ext.drew w1
  have h2 := h.ext (x1.trans x2)
  have hb2 := hb1.ext x2
  conv => whnf
  refine ⟨_, fun w5 hw5 => by rw [hw5, ← hw2]; exact hb2.cell0 rfl, ?_⟩
  conv => whnf
  refine ⟨_, fun w5 hw5 => by rw [hw5, ← hw2]; exact h2.blk.cell0 rfl, ?_⟩
  conv => whnf
  refine ⟨gw, 0, rfl, ⟨by omega, by omega⟩, ?_⟩
  conv => whnf
  refine ⟨_, fun w5 hw5 => by rw [hw5, ← hw2]; exact h2.own.cellAt gx, ?_⟩
  conv => whnf
  refine ⟨_, fun w5 hw5 => by rw [hw5, ← hw2]; exact hb2.cell (i := 1) rfl, ?_⟩
  conv => whnf
  refine ⟨_, fun w5 hw5 => by rw [hw5, ← hw2]; exact hb2.cell0 rfl, ?_⟩
  conv => whnf
  refine ⟨_, fun w5 hw5 => by rw [hw5, ← hw2]; exact h2.blk.cell (i := 3) rfl, ?_⟩
  conv => whnf
  intro z hz
  replace hz := hz.trans (not32 s.mask)
  subst hz
  conv => whnf
  intro z hz
  replace hz := hz.trans (or32 x (~~~s.mask))
  subst hz
  conv => whnf
  intro z hz
  replace hz := hz.trans (and32 (s.ws.getD i 0#32) (x ||| ~~~s.mask))
  subst hz
  conv => whnf
  refine ⟨gw, 0, rfl, ⟨by omega, by omega⟩, ?_⟩
  conv => whnf
  refine ⟨⟨rfl, (h2.own.storeAt i hi).1⟩, fun w3 hw3 => ?_⟩
  have g3 := h2.setWord i hi (s.ws.getD i 0#32 &&& (x ||| ~~~s.mask)) hw3
  exact ⟨rfl, g3.1, (Mod.ofExt _ (x1.trans x2)).trans g3.2⟩

/-- a sector erased -/
theorem ferase_calls {B : Nat} {w : World} {g gw c : Nat} {s : FS} (h : FlAt 181 B w g gw c s) (n : Nat) (hn : n < s.ws.length / 256) (hl : s.ws.length ≤ 1048576) :
    Calls Try.prog 156 #[.pointer (some ⟨g, 0, none⟩), .int .i64 n] w (Ret fun v w' => v = .tuple #[] ∧ FlAt 181 B w' g gw c { s with ws := fillF s.ws (256 * n) 256 } ∧ FlMod g gw w w') := by
  refine calls_of_vc lok Try.func156 ?_ rfl
  conv => whnf
  refine ⟨by omega, ?_⟩
  conv => whnf
  refine ⟨by omega, ?_⟩
  conv => whnf
  refine ⟨by omega, ?_⟩
  conv => whnf
  have e1 : (n : Int) * 256 = ((256 * n : Nat) : Int) := by omega
  have e2 : ((n : Int) + 1) * 256 = ((256 * n + 256 : Nat) : Int) := by omega
  rw [e1, e2]
  have g1 := fill_calls h (256 * n) (256 * n + 256) (by omega) (by omega) hl
  rw [show 256 * n + 256 - 256 * n = 256 by omega] at g1
  refine Calls.ret (g1) ?_
  rintro _ w1 ⟨rfl, h1, hm1⟩
  conv => whnf
  exact ⟨rfl, h1, hm1⟩
/-- one torn -/
theorem begin_calls {B : Nat} {w : World} {g gw c : Nat} {s : FS} (h : FlAt 181 B w g gw c s) (n : Nat) (hn : n < s.ws.length / 256) (hl : s.ws.length ≤ 1048576) :
    Calls Try.prog 157 #[.pointer (some ⟨g, 0, none⟩), .int .i64 n] w (Ret fun v w' => v = .tuple #[] ∧ FlAt 181 B w' g gw c { s with ws := fillF s.ws (256 * n) (s.mask.toNat % 257) } ∧ FlMod g gw w w') := by
  refine calls_of_vc lok Try.func157 ?_ rfl
  conv => whnf
  refine ⟨by omega, ?_⟩
  conv => whnf
  refine ⟨by omega, ?_⟩
  conv => whnf
  refine ⟨_, h.blk.cell (i := 3) rfl, ?_⟩
  conv => whnf
  refine ⟨by decide, ?_⟩
  have hml := s.mask.isLt
  intro z hz
  have hz54 : z = ((s.mask.toNat % 257 : Nat) : Int) := by rw [hz, Int.tmod_eq_emod_of_nonneg (by omega)]; omega
  clear hz
  subst hz54
  conv => whnf
  have hm2 : s.mask.toNat % 257 < 257 := Nat.mod_lt _ (by decide)
  generalize s.mask.toNat % 257 = m at *
  intro z hz
  have hz55 : z = (m : Int) := by rw [hz]; exact wi64 (by omega)
  clear hz
  subst hz55
  conv => whnf
  refine ⟨by omega, ?_⟩
  conv => whnf
  have e1 : (n : Int) * 256 = ((256 * n : Nat) : Int) := by omega
  have e2 : ((256 * n : Nat) : Int) + (m : Int) = ((256 * n + m : Nat) : Int) := by omega
  rw [e1, e2]
  have g1 := fill_calls h (256 * n) (256 * n + m) (by omega) (by omega) hl
  rw [show 256 * n + m - 256 * n = m by omega] at g1
  refine Calls.ret (g1) ?_
  rintro _ w1 ⟨rfl, h1, hm1⟩
  conv => whnf
  exact ⟨rfl, h1, hm1⟩
end Go.Proofs.Ytgipackjnncabaa

/- Walks of layer 6, second part: the flash's operations, whole. -/
set_option linter.unusedVariables false
namespace Go.Proofs.Ytgipackjnncabaa
open Go.Vc Go.RowKit

/-- an operation done whole, or torn: a word programmed -/
theorem doProg_calls {B : Nat} {w : World} {g gw c : Nat} {s : FS} (h : FlAt 181 B w g gw c s) (i : Nat) (hi : i < s.ws.length) (hl : s.ws.length ≤ 1048576) (hop : FSok s) (x : BitVec 32) :
    Calls Try.prog 153 #[.pointer (some ⟨g, 0, none⟩), .int .i64 i, .func (.func 154) #[.agg #[.pointer (some ⟨g, 0, none⟩), .int .u32 x.toNat]] #[], .func (.func 155) #[.agg #[.pointer (some ⟨g, 0, none⟩), .int .u32 x.toNat]] #[]] w (Ret fun v w' => v = .int .i64 (if s.left = 0 then 7 else 0) ∧
      FlAt 181 B w' g gw c (if s.left = 0 then s.tore (s.ws.set i (s.ws.getD i 0#32 &&& (x ||| ~~~s.mask))) else s.did (s.ws.set i (s.ws.getD i 0#32 &&& x))) ∧ FlMod g gw w w') := by
  refine calls_of_vc lok Try.func153 ?_ rfl
  conv => whnf
  refine ⟨_, h.blk.cell (i := 2) rfl, ?_⟩
  conv => whnf
  refine vcCond_split lok rfl (fun h1 => ?_) (fun h1 => ?_)
  · have h1 := dt h1
    conv => whnf
    rw [if_pos h1, if_pos h1]
    refine Calls.ret (some_calls h i hi x) ?_
    rintro _ w1 ⟨rfl, g1, m1⟩
    conv => whnf
    refine ⟨g1.blk.can 2 (by simp [FS.cells]) _ rfl, fun w2 hw2 => ?_⟩
    have k2 := g1.setField 2 (.int .i64 (-1)) { s with ws := s.ws.set i (s.ws.getD i 0#32 &&& (x ||| ~~~s.mask)), left := -1 } rfl rfl hw2
    obtain ⟨g2, m2⟩ := k2
    clear hw2
    conv => whnf
    refine ⟨g2.blk.can 1 (by simp [FS.cells]) _ rfl, fun w3 hw3 => ?_⟩
    have k3 := g2.setField 1 (.bool true) (s.tore (s.ws.set i (s.ws.getD i 0#32 &&& (x ||| ~~~s.mask)))) rfl rfl hw3
    exact ⟨rfl, k3.1, (m1.trans m2).trans k3.2⟩
  · have h1 := df h1
    conv => whnf
    rw [if_neg h1, if_neg h1]
    refine ⟨_, h.blk.cell (i := 2) rfl, ?_⟩
    conv => whnf
    refine vcCond_meet (fun _ : Unit => [(0, .pointer (some ⟨g, 0, none⟩)), (1, .int .i64 i), (2, .func (.func 154) #[.agg #[.pointer (some ⟨g, 0, none⟩), .int .u32 x.toNat]] #[])])
      (fun _ w1 => FlAt 181 B w1 g gw c { s with left := if 0 < s.left then s.left - 1 else s.left } ∧ FlMod g gw w w1) ?_ ?_
    · refine vcCond_split lok rfl (fun h2 => ?_) (fun h2 => ?_)
      · have h2 := dt h2
        conv => whnf
        refine ⟨_, h.blk.cell (i := 2) rfl, ?_⟩
        conv => whnf
        refine ⟨by have := hop.left; omega, ?_⟩
        conv => whnf
        refine ⟨h.blk.can 2 (by simp [FS.cells]) _ rfl, fun w2 hw2 => ?_⟩
        have k2 := h.setField 2 (.int .i64 (s.left - 1)) { s with left := s.left - 1 } rfl rfl hw2
        exact ⟨(), ⟨rfl, rfl, rfl, trivial⟩, by rw [if_pos h2]; exact k2.1, k2.2⟩
      · have h2 := df h2
        conv => whnf
        exact ⟨(), ⟨rfl, rfl, rfl, trivial⟩, by rw [if_neg h2]; exact h, Mod.refl _ _⟩
    rintro _ w1 ⟨g1, m1⟩
    conv => whnf
    refine ⟨_, g1.blk.cell (i := 4) rfl, ?_⟩
    conv => whnf
    refine ⟨by show -9223372036854775808 ≤ s.ops + 1 ∧ s.ops + 1 ≤ 9223372036854775807; have := hop.ops; omega, ?_⟩
    conv => whnf
    refine ⟨g1.blk.can 4 (by simp [FS.cells]) _ rfl, fun w2 hw2 => ?_⟩
    have k2 := g1.setField 4 (.int .i64 (s.ops + 1)) { s with left := if 0 < s.left then s.left - 1 else s.left, ops := s.ops + 1 } rfl rfl hw2
    obtain ⟨g2, m2⟩ := k2
    clear hw2
    conv => whnf
    refine Calls.ret (all_calls g2 i hi x) ?_
    rintro _ w3 ⟨rfl, g3, m3⟩
    conv => whnf
    exact ⟨rfl, g3, (m1.trans m2).trans m3⟩

/-- an operation done whole, or torn: a sector erased -/
theorem doErase_calls {B : Nat} {w : World} {g gw c : Nat} {s : FS} (h : FlAt 181 B w g gw c s) (i : Nat) (hi : i < s.ws.length / 256) (hl : s.ws.length ≤ 1048576) (hop : FSok s) :
    Calls Try.prog 153 #[.pointer (some ⟨g, 0, none⟩), .int .i64 i, .func (.func 156) #[.pointer (some ⟨g, 0, none⟩)] #[], .func (.func 157) #[.pointer (some ⟨g, 0, none⟩)] #[]] w (Ret fun v w' => v = .int .i64 (if s.left = 0 then 7 else 0) ∧
      FlAt 181 B w' g gw c (if s.left = 0 then s.tore (fillF s.ws (256 * i) (s.mask.toNat % 257)) else s.did (fillF s.ws (256 * i) 256)) ∧ FlMod g gw w w') := by
  refine calls_of_vc lok Try.func153 ?_ rfl
  conv => whnf
  refine ⟨_, h.blk.cell (i := 2) rfl, ?_⟩
  conv => whnf
  refine vcCond_split lok rfl (fun h1 => ?_) (fun h1 => ?_)
  · have h1 := dt h1
    conv => whnf
    rw [if_pos h1, if_pos h1]
    refine Calls.ret (begin_calls h i hi hl) ?_
    rintro _ w1 ⟨rfl, g1, m1⟩
    conv => whnf
    refine ⟨g1.blk.can 2 (by simp [FS.cells]) _ rfl, fun w2 hw2 => ?_⟩
    have k2 := g1.setField 2 (.int .i64 (-1)) { s with ws := fillF s.ws (256 * i) (s.mask.toNat % 257), left := -1 } rfl rfl hw2
    obtain ⟨g2, m2⟩ := k2
    clear hw2
    conv => whnf
    refine ⟨g2.blk.can 1 (by simp [FS.cells]) _ rfl, fun w3 hw3 => ?_⟩
    have k3 := g2.setField 1 (.bool true) (s.tore (fillF s.ws (256 * i) (s.mask.toNat % 257))) rfl rfl hw3
    exact ⟨rfl, k3.1, (m1.trans m2).trans k3.2⟩
  · have h1 := df h1
    conv => whnf
    rw [if_neg h1, if_neg h1]
    refine ⟨_, h.blk.cell (i := 2) rfl, ?_⟩
    conv => whnf
    refine vcCond_meet (fun _ : Unit => [(0, .pointer (some ⟨g, 0, none⟩)), (1, .int .i64 i), (2, .func (.func 156) #[.pointer (some ⟨g, 0, none⟩)] #[])])
      (fun _ w1 => FlAt 181 B w1 g gw c { s with left := if 0 < s.left then s.left - 1 else s.left } ∧ FlMod g gw w w1) ?_ ?_
    · refine vcCond_split lok rfl (fun h2 => ?_) (fun h2 => ?_)
      · have h2 := dt h2
        conv => whnf
        refine ⟨_, h.blk.cell (i := 2) rfl, ?_⟩
        conv => whnf
        refine ⟨by have := hop.left; omega, ?_⟩
        conv => whnf
        refine ⟨h.blk.can 2 (by simp [FS.cells]) _ rfl, fun w2 hw2 => ?_⟩
        have k2 := h.setField 2 (.int .i64 (s.left - 1)) { s with left := s.left - 1 } rfl rfl hw2
        exact ⟨(), ⟨rfl, rfl, rfl, trivial⟩, by rw [if_pos h2]; exact k2.1, k2.2⟩
      · have h2 := df h2
        conv => whnf
        exact ⟨(), ⟨rfl, rfl, rfl, trivial⟩, by rw [if_neg h2]; exact h, Mod.refl _ _⟩
    rintro _ w1 ⟨g1, m1⟩
    conv => whnf
    refine ⟨_, g1.blk.cell (i := 4) rfl, ?_⟩
    conv => whnf
    refine ⟨by show -9223372036854775808 ≤ s.ops + 1 ∧ s.ops + 1 ≤ 9223372036854775807; have := hop.ops; omega, ?_⟩
    conv => whnf
    refine ⟨g1.blk.can 4 (by simp [FS.cells]) _ rfl, fun w2 hw2 => ?_⟩
    have k2 := g1.setField 4 (.int .i64 (s.ops + 1)) { s with left := if 0 < s.left then s.left - 1 else s.left, ops := s.ops + 1 } rfl rfl hw2
    obtain ⟨g2, m2⟩ := k2
    clear hw2
    conv => whnf
    refine Calls.ret (ferase_calls g2 i hi hl) ?_
    rintro _ w3 ⟨rfl, g3, m3⟩
    conv => whnf
    exact ⟨rfl, g3, (m1.trans m2).trans m3⟩

theorem built196 (p : Value) (n : Int) (a : Option Addr) : Try.prog.built 196 [(0, .pointer a), (1, .int .u32 n)] = some #[.pointer a, .int .u32 n] := by kernel_rfl

/-- Program -/
theorem prog_calls {B : Nat} {w : World} {g gw c : Nat} {s : FS} (h : FlAt 181 B w g gw c s) (at_ : Int) (x : BitVec 32) (hl : s.ws.length ≤ 1048576) (hop : FSok s) :
    Calls Try.prog 95 #[.pointer (some ⟨g, 0, none⟩), .int .i64 at_, .int .u32 x.toNat] w (Ret fun v w' => v = .int .i64 (progF s at_ x).2 ∧ FlAt 181 B w' g gw c (progF s at_ x).1 ∧ FlMod g gw w w') := by
  refine calls_of_vc lok Try.func95 ?_ rfl
  conv => whnf
  refine vcCond_false lok (rfl) ?_
  conv => whnf
  refine ⟨_, h.blk.cell0 rfl, ?_⟩
  conv => whnf
  refine Calls.ret (check_calls h at_ s.ws.length) ?_
  rintro _ w1 ⟨rfl, hw1⟩
  conv => whnf
  subst hw1
  cases ho : s.off with
  | true =>
    have e : progF s at_ x = (s, 7) := if_pos ho
    rw [e, if_pos rfl]
    conv => whnf
    refine vcCond_true lok (rfl) ?_
    conv => whnf
    exact ⟨rfl, h, Mod.refl _ _⟩
  | false =>
    rw [if_neg (by decide)]
    by_cases hr : at_ < 0 ∨ (s.ws.length : Int) ≤ at_
    · have e : progF s at_ x = (s, 10) := by unfold progF; rw [if_neg (by rw [ho]; decide), if_pos hr]
      rw [e, if_pos hr]
      conv => whnf
      refine vcCond_true lok (rfl) ?_
      conv => whnf
      exact ⟨rfl, h, Mod.refl _ _⟩
    · rw [if_neg hr]
      conv => whnf
      refine vcCond_false lok (rfl) ?_
      conv => whnf
      have hi : ∃ i : Nat, at_ = (i : Int) := ⟨at_.toNat, by omega⟩
      obtain ⟨i, hi⟩ := hi
      subst hi
      have e : progF s (i : Int) x = (if s.left = 0 then s.tore (s.ws.set i (s.ws.getD i 0#32 &&& (x ||| ~~~s.mask))) else s.did (s.ws.set i (s.ws.getD i 0#32 &&& x)), if s.left = 0 then 7 else 0) := by
        unfold progF
        rw [if_neg (by rw [ho]; decide), if_neg hr]
        split <;> simp
      rw [e]
      refine ⟨_, fun w => run_build w 196 _ _ (built196 (.bool true) _ _), ?_⟩
      conv => whnf
      intro w2 hw2
      have hb2 : Blk w2 w1.heap.size 196 [.pointer none, .int .u32 0] := by rw [hw2]; exact Blk.new w1 196 _
      have x2 : Ext w1 w2 := by rw [hw2]; exact Ext.new _ _
      clear hw2
      conv => whnf
      have k3 := Blk.storeAgg lok hb2 (t := 196) (us := [.pointer (some ⟨g, 0, none⟩), u32v x]) rfl 0 (Nat.le_refl 2) (by simp [u32v, Value.oneCell'])
      obtain ⟨w3, hr3, hb3, hg3⟩ := k3
      have x3 : Ext w1 w3 := hg3.extOf x2 (fun g hg => by cases hg; exact Nat.le_refl _)
      have hb3 : Blk w3 w1.heap.size 196 [.pointer (some ⟨g, 0, none⟩), u32v x] := hb3
      refine ⟨w3, hr3, ?_⟩
      conv => whnf
      refine ⟨[.pointer (some ⟨g, 0, none⟩), u32v x], rfl, hb3.cells, ?_⟩
      conv => whnf
      refine ⟨[.pointer (some ⟨g, 0, none⟩), u32v x], rfl, hb3.cells, ?_⟩
      conv => whnf
      refine Calls.ret (doProg_calls (h.ext x3) i (by omega) hl hop x) ?_
      rintro _ w4 ⟨rfl, h4, m4⟩
      conv => whnf
      exact ⟨rfl, h4, (Mod.ofExt _ x3).trans m4⟩

/-- Erase -/
theorem erase_calls {B : Nat} {w : World} {g gw c : Nat} {s : FS} (h : FlAt 181 B w g gw c s) (n : Int) (hl : s.ws.length ≤ 1048576) (hop : FSok s) :
    Calls Try.prog 96 #[.pointer (some ⟨g, 0, none⟩), .int .i64 n] w (Ret fun v w' => v = .int .i64 (eraseF s n).2 ∧ FlAt 181 B w' g gw c (eraseF s n).1 ∧ FlMod g gw w w') := by
  refine calls_of_vc lok Try.func96 ?_ rfl
  conv => whnf
  refine vcCond_false lok (rfl) ?_
  conv => whnf
  refine ⟨_, h.blk.cell0 rfl, ?_⟩
  conv => whnf
  refine ⟨by decide, ?_⟩
  intro z hz
  have hz56 : z = ((s.ws.length / 256 : Nat) : Int) := by rw [hz, Int.tdiv_eq_ediv_of_nonneg (by omega), wi64 (by omega)]; omega
  clear hz
  subst hz56
  conv => whnf
  refine Calls.ret (check_calls h n (s.ws.length / 256 : Nat)) ?_
  rintro _ w1 ⟨rfl, hw1⟩
  conv => whnf
  subst hw1
  cases ho : s.off with
  | true =>
    have e : eraseF s n = (s, 7) := if_pos ho
    rw [e, if_pos rfl]
    conv => whnf
    refine vcCond_true lok (rfl) ?_
    conv => whnf
    exact ⟨rfl, h, Mod.refl _ _⟩
  | false =>
    rw [if_neg (by decide)]
    by_cases hr : n < 0 ∨ ((s.ws.length / 256 : Nat) : Int) ≤ n
    · have e : eraseF s n = (s, 10) := by unfold eraseF; rw [if_neg (by rw [ho]; decide), if_pos hr]
      rw [e, if_pos hr]
      conv => whnf
      refine vcCond_true lok (rfl) ?_
      conv => whnf
      exact ⟨rfl, h, Mod.refl _ _⟩
    · rw [if_neg hr]
      conv => whnf
      refine vcCond_false lok (rfl) ?_
      conv => whnf
      have hi : ∃ i : Nat, n = (i : Int) := ⟨n.toNat, by omega⟩
      obtain ⟨i, hi⟩ := hi
      subst hi
      have e : eraseF s (i : Int) = (if s.left = 0 then s.tore (fillF s.ws (256 * i) (s.mask.toNat % 257)) else s.did (fillF s.ws (256 * i) 256), if s.left = 0 then 7 else 0) := by
        unfold eraseF
        rw [if_neg (by rw [ho]; decide), if_neg hr]
        split <;> simp
      rw [e]
      refine Calls.ret (doErase_calls h i (by omega) hl hop) ?_
      rintro _ w4 ⟨rfl, h4, m4⟩
      conv => whnf
      exact ⟨rfl, h4, m4⟩

/-- Read -/
theorem read_calls {B : Nat} {w : World} {g gw c : Nat} {s : FS} (h : FlAt 181 B w g gw c s) (at_ : Int) :
    Calls Try.prog 97 #[.pointer (some ⟨g, 0, none⟩), .int .i64 at_] w (Ret fun v w' => v = .tuple #[.int .u32 (readF s at_).1.toNat, .int .i64 (readF s at_).2] ∧ w' = w) := by
  refine calls_of_vc lok Try.func97 ?_ rfl
  conv => whnf
  refine vcCond_false lok (rfl) ?_
  conv => whnf
  refine ⟨_, h.blk.cell0 rfl, ?_⟩
  conv => whnf
  refine Calls.ret (check_calls h at_ s.ws.length) ?_
  rintro _ w1 ⟨rfl, hw1⟩
  conv => whnf
  subst hw1
  cases ho : s.off with
  | true =>
    have e : readF s at_ = (0#32, 7) := if_pos ho
    rw [e, if_pos rfl]
    conv => whnf
    refine vcCond_true lok (rfl) ?_
    conv => whnf
    exact ⟨rfl, rfl⟩
  | false =>
    rw [if_neg (by decide)]
    by_cases hr : at_ < 0 ∨ (s.ws.length : Int) ≤ at_
    · have e : readF s at_ = (0#32, 10) := by unfold readF; rw [if_neg (by rw [ho]; decide), if_pos hr]
      rw [e, if_pos hr]
      conv => whnf
      refine vcCond_true lok (rfl) ?_
      conv => whnf
      exact ⟨rfl, rfl⟩
    · have e : readF s at_ = (s.ws.getD at_.toNat 0#32, 0) := by unfold readF; rw [if_neg (by rw [ho]; decide), if_neg hr]
      rw [if_neg hr, e]
      conv => whnf
      refine vcCond_false lok (rfl) ?_
      conv => whnf
      refine ⟨_, h.blk.cell0 rfl, ?_⟩
      conv => whnf
      refine ⟨gw, 0, rfl, ⟨by omega, by omega⟩, ?_⟩
      conv => whnf
      refine ⟨_, h.own.cellAt (i := at_.toNat) (x := s.ws.getD at_.toNat 0#32) (by simp [List.getD, List.getElem?_eq_getElem (show at_.toNat < s.ws.length by omega)]), ?_⟩
      conv => whnf
      exact ⟨rfl, rfl⟩

/-- Len -/
theorem len_calls {B : Nat} {w : World} {g gw c : Nat} {s : FS} (h : FlAt 181 B w g gw c s) :
    Calls Try.prog 102 #[.pointer (some ⟨g, 0, none⟩)] w (Ret fun v w' => v = .int .i64 s.ws.length ∧ w' = w) := by
  refine calls_of_vc lok Try.func102 ?_ rfl
  conv => whnf
  refine vcCond_false lok (rfl) ?_
  conv => whnf
  refine ⟨_, h.blk.cell0 rfl, ?_⟩
  conv => whnf
  exact ⟨rfl, rfl⟩
/-- Ops -/
theorem ops_calls {B : Nat} {w : World} {g gw c : Nat} {s : FS} (h : FlAt 181 B w g gw c s) :
    Calls Try.prog 103 #[.pointer (some ⟨g, 0, none⟩)] w (Ret fun v w' => v = .int .i64 s.ops ∧ w' = w) := by
  refine calls_of_vc lok Try.func103 ?_ rfl
  conv => whnf
  refine vcCond_false lok (rfl) ?_
  conv => whnf
  refine ⟨_, h.blk.cell (i := 4) rfl, ?_⟩
  conv => whnf
  exact ⟨rfl, rfl⟩
/-- On -/
theorem fon_calls {B : Nat} {w : World} {g gw c : Nat} {s : FS} (h : FlAt 181 B w g gw c s) :
    Calls Try.prog 80 #[.pointer (some ⟨g, 0, none⟩)] w (Ret fun v w' => v = .bool (!s.off) ∧ w' = w) := by
  refine calls_of_vc lok Try.func80 ?_ rfl
  conv => whnf
  refine vcReg_go lok ?_
  conv => whnf
  refine ⟨_, h.blk.cell (i := 1) rfl, ?_⟩
  conv => whnf
  exact ⟨rfl, rfl⟩
/-- Start -/
theorem start_calls {B : Nat} {w : World} {g gw c : Nat} {s : FS} (h : FlAt 181 B w g gw c s) :
    Calls Try.prog 81 #[.pointer (some ⟨g, 0, none⟩)] w (Ret fun v w' => v = .tuple #[] ∧ FlAt 181 B w' g gw c (startF s) ∧ FlMod g gw w w') := by
  refine calls_of_vc lok Try.func81 ?_ rfl
  conv => whnf
  refine vcCond_true lok (rfl) ?_
  conv => whnf
  refine ⟨h.blk.can 1 (by simp [FS.cells]) _ rfl, fun w2 hw2 => ?_⟩
  have k2 := h.setField 1 (.bool false) (startF s) rfl rfl hw2
  exact ⟨rfl, k2.1, k2.2⟩
/-- Cut -/
theorem cut_calls {B : Nat} {w : World} {g gw c : Nat} {s : FS} (h : FlAt 181 B w g gw c s) (n : Int) (m : BitVec 32) :
    Calls Try.prog 74 #[.pointer (some ⟨g, 0, none⟩), .int .i64 n, .int .u32 m.toNat] w (Ret fun v w' => v = .int .i64 (cutF s n m).2 ∧ FlAt 181 B w' g gw c (cutF s n m).1 ∧ FlMod g gw w w') := by
  refine calls_of_vc lok Try.func74 ?_ rfl
  conv => whnf
  refine vcCond_false lok (rfl) ?_
  conv => whnf
  refine vcCond_split lok rfl (fun h1 => ?_) (fun h1 => ?_)
  · have h1 := dt h1
    conv => whnf
    have e : cutF s n m = (s, 1) := if_pos h1
    rw [e]
    exact ⟨rfl, h, Mod.refl _ _⟩
  · have h1 := df h1
    conv => whnf
    have e : cutF s n m = ({ s with left := n, mask := m }, 0) := if_neg h1
    rw [e]
    refine ⟨h.blk.can 2 (by simp [FS.cells]) _ rfl, fun w2 hw2 => ?_⟩
    have k2 := h.setField 2 (.int .i64 n) { s with left := n } rfl rfl hw2
    obtain ⟨g2, m2⟩ := k2
    clear hw2
    conv => whnf
    refine ⟨g2.blk.can 3 (by simp [FS.cells]) _ rfl, fun w3 hw3 => ?_⟩
    have k3 := g2.setField 3 (u32v m) { s with left := n, mask := m } rfl rfl hw3
    exact ⟨rfl, k3.1, m2.trans k3.2⟩
/-- Words -/
theorem fwords_calls {B : Nat} {w : World} {g gw c : Nat} {s : FS} (h : FlAt 181 B w g gw c s) (hl : s.ws.length ≤ 1048576) :
    Calls Try.prog 79 #[.pointer (some ⟨g, 0, none⟩)] w (Ret fun v w' => ∃ a' c', v = .slice a' s.ws.length c' ∧ Own 42 u32v w.heap.size w' a' c' s.ws ∧ Ext w w') := by
  refine calls_of_vc lok Try.func79 ?_ rfl
  conv => whnf
  refine vcCond_false lok (rfl) ?_
  conv => whnf
  refine ⟨_, h.blk.cell0 rfl, ?_⟩
  conv => whnf
  have g3 := (Own.nil 42 u32v w.heap.size w).append (ty := 37) (d := c) e32.toElem (fun _ => rfl) h.sl (by simp; omega) (Nat.le_refl _)
  obtain ⟨a3, c3, w3, hr3, ho3, hg3, _⟩ := g3
  refine ⟨_, _, hr3, ?_⟩
  conv => whnf
  exact ⟨a3, c3, rfl, ho3, hg3.extOf (Ext.refl _) (fun g hg => by cases hg)⟩

theorem built181 (a : Option Addr) (n c : Nat) : Try.prog.built 181 [(0, .slice a n c), (2, .int .i64 (-1))] = some #[.slice a n c, .bool false, .int .i64 (-1), .int .u32 0, .int .i64 0] := by kernel_rfl
theorem built81 (a : Option Addr) (n c : Nat) : Try.prog.built 81 [(0, .slice a n c), (2, .int .i64 (-1))] = some #[.slice a n c, .bool false, .int .i64 (-1), .int .u32 0, .int .i64 0] := by kernel_rfl
theorem built81n : Try.prog.built 81 [(2, .int .i64 (-1))] = some #[.slice none 0 0, .bool false, .int .i64 (-1), .int .u32 0, .int .i64 0] := by kernel_rfl

/-- a new flash behind a slice of the call's own -/
theorem FlAt.new {T B : Nat} {w w' : World} {gw c : Nat} {ws : List (BitVec 32)} (ho : Own 42 u32v B w (some ⟨gw, 0, none⟩) c ws) (hB : B ≤ w.heap.size)
    (hw : w' = w.alloc (.cells #[.slice (some ⟨gw, 0, none⟩) ws.length c, .bool false, .int .i64 (-1), .int .u32 0, .int .i64 0] T)) : FlAt T B w' w.heap.size gw c (newFS ws) ∧ Ext w w' := by
  subst hw
  exact ⟨⟨Blk.new w T _, ho.ext (Ext.new _ _), hB, fun e => by have := ho.lt; omega⟩, Ext.new _ _⟩

theorem own_some {α : Type} {T : TypeId} {f : α → Value} {B : Nat} {w : World} {a : Option Addr} {c : Nat} {xs : List α} (h : Own T f B w a c xs) (hx : xs ≠ []) : ∃ g, a = some ⟨g, 0, none⟩ := by
  rcases h.form with ⟨_, _, h3⟩ | ⟨g, cur, ha, _⟩
  · exact absurd h3 hx
  · exact ⟨g, ha⟩

theorem fillF_all (n : Nat) (ws : List (BitVec 32)) (h : ws.length = n) : fillF ws 0 n = List.replicate n ones := by
  apply List.ext_getElem?
  intro i
  rw [fillF_get, List.getElem?_replicate]
  by_cases hi : i < n
  · rw [if_pos (by omega), if_pos hi]
  · rw [if_neg (by omega), if_neg hi, List.getElem?_eq_none (by omega)]

/-- New -/
theorem new_calls {w : World} (n : Int) :
    Calls Try.prog 70 #[.int .i64 n] w (Ret fun v w' => ((n < 1 ∨ 16 < n) ∧ v = .pointer none ∧ w' = w) ∨ (¬ (n < 1 ∨ 16 < n) ∧ ∃ g gw c, v = .pointer (some ⟨g, 0, none⟩) ∧ FlAt 181 w.heap.size w' g gw c (newFS (List.replicate (256 * n.toNat) ones)) ∧ Ext w w')) := by
  refine calls_of_vc lok Try.func70 ?_ rfl
  conv => whnf
  refine vcReg_meet lok (fun β : Bool => [(9, .bool β)]) (fun β w' => w' = w ∧ β = decide (n < 1 ∨ 16 < n)) [9] (fun _ => rfl) rfl ?_ ?_
  · conv => whnf
    refine bcase (fun h1 => ?_) (fun h1 => ?_)
    · conv => whnf
      exact ⟨_, ⟨rfl, trivial⟩, rfl, by have := dt h1; simp; omega⟩
    · conv => whnf
      exact ⟨_, ⟨rfl, trivial⟩, rfl, by have := df h1; rw [decide_eq_decide]; omega⟩
  rintro β w' ⟨hw', hβ⟩
  subst hw'
  conv => whnf
  refine vcCond_split lok rfl (fun h1 => ?_) (fun h1 => ?_)
  · rw [h1] at hβ
    conv => whnf
    exact .inl ⟨dt hβ.symm, rfl, rfl⟩
  rw [h1] at hβ
  have hn := df hβ.symm
  conv => whnf
  refine ⟨by omega, ?_⟩
  conv => whnf
  have e1 : n * 256 = ((256 * n.toNat : Nat) : Int) := by omega
  have hm : 256 * n.toNat ≤ 4096 ∧ 256 ≤ 256 * n.toNat := by omega
  rw [e1]
  generalize 256 * n.toNat = m at *
  have g1 := run_makeOwn e32 w'.heap.size w' (Nat.le_refl _) m m (Nat.le_refl _) (by omega)
  obtain ⟨w1, hr1, ho1, hx1⟩ := g1
  rw [List.length_replicate] at hr1
  refine ⟨_, _, hr1, ?_⟩
  conv => whnf
  refine ⟨_, fun w => run_build w 181 _ _ (built181 _ _ _), ?_⟩
  conv => whnf
  intro w2 hw2
  have k2 := FlAt.new (T := 181) (w' := w2) ho1 hx1.size (by rw [hw2, List.length_replicate])
  obtain ⟨h2, x2⟩ := k2
  clear hw2
  conv => whnf
  refine ⟨_, h2.blk.cell0 rfl, ?_⟩
  conv => whnf
  have g3 := fill_calls h2 0 m (Nat.zero_le _) (by show m ≤ (List.replicate m 0).length; rw [List.length_replicate]; exact Nat.le_refl _) (by show (List.replicate m 0).length ≤ _; rw [List.length_replicate]; omega)
  have el : ((List.replicate m (0 : BitVec 32)).length : Int) = (m : Int) := by rw [List.length_replicate]
  show Calls _ _ #[_, _, .int .i64 ((newFS (List.replicate m (0 : BitVec 32))).ws.length : Int)] _ _
  rw [show ((newFS (List.replicate m (0 : BitVec 32))).ws.length : Int) = (m : Int) from el]
  refine Calls.ret (g3) ?_
  rintro _ w3 ⟨rfl, h3, m3⟩
  conv => whnf
  have ef : fillF (newFS (List.replicate m 0)).ws 0 (m - 0) = List.replicate m ones := fillF_all m _ (by show (List.replicate m (0 : BitVec 32)).length = m; rw [List.length_replicate])
  rw [ef] at h3
  exact .inr ⟨hn, _, _, _, rfl, h3, m3.above (hx1.trans x2) hx1.size (Nat.le_refl _)⟩

/-- Of -/
theorem of_calls {w : World} {a : Option Addr} {c : Nat} {ws : List (BitVec 32)} (h : Sl u32v w a ws) (hl : ws.length ≤ 1048576) :
    Calls Try.prog 91 #[.slice a ws.length c] w (Ret fun v w' => (canF ws.length = true ∧ ∃ g gw c, v = .pointer (some ⟨g, 0, none⟩) ∧ FlAt 181 w.heap.size w' g gw c (newFS ws) ∧ Ext w w') ∨ (canF ws.length = false ∧ v = .pointer none ∧ w' = w)) := by
  refine calls_of_vc lok Try.func91 ?_ rfl
  conv => whnf
  refine ⟨by decide, ?_⟩
  intro z hz
  have hz114 : z = ((ws.length / 256 : Nat) : Int) := by rw [hz, Int.tdiv_eq_ediv_of_nonneg (by omega), wi64 (by omega)]; omega
  clear hz
  subst hz114
  conv => whnf
  refine vcReg_meet lok (fun β : Bool => [(19, .bool β)]) (fun β w' => w' = w ∧ β = !canF ws.length) [19] (fun _ => rfl) rfl ?_ ?_
  · conv => whnf
    refine bcase (fun h1 => ?_) (fun h1 => ?_)
    · have := dt h1
      conv => whnf
      exact ⟨_, ⟨rfl, trivial⟩, rfl, by unfold canF; rw [decide_eq_false (by omega)]; rfl⟩
    · have := df h1
      conv => whnf
      refine bcase (fun h2 => ?_) (fun h2 => ?_)
      · have := dt h2
        conv => whnf
        exact ⟨_, ⟨rfl, trivial⟩, rfl, by unfold canF; rw [decide_eq_false (by omega)]; rfl⟩
      · have := df h2
        conv => whnf
        refine ⟨by omega, ?_⟩
        conv => whnf
        refine ⟨_, ⟨rfl, trivial⟩, rfl, ?_⟩
        unfold canF
        congr 1
        rw [decide_eq_decide]
        omega
  rintro β w' ⟨hw', hβ⟩
  subst hw'
  conv => whnf
  refine vcCond_split lok rfl (fun h1 => ?_) (fun h1 => ?_)
  · rw [h1] at hβ
    conv => whnf
    exact .inr ⟨by simpa using hβ.symm, rfl, rfl⟩
  rw [h1] at hβ
  have hcan : canF ws.length = true := by simpa using hβ.symm
  have hcl := of_decide_eq_true hcan
  conv => whnf
  have g3 := (Own.nil 42 u32v w'.heap.size w').append (ty := 37) (d := c) e32.toElem (fun _ => rfl) h (by simp; omega) (Nat.le_refl _)
  rw [List.nil_append] at g3
  obtain ⟨a3, c3, w3, hr3, ho3, hg3, _⟩ := g3
  have ea := own_some ho3 (fun e => by rw [e] at hcl; simp at hcl)
  obtain ⟨gw, ea⟩ := ea
  subst ea
  refine ⟨_, _, hr3, ?_⟩
  have x3 : Ext w' w3 := hg3.extOf (Ext.refl _) (fun g hg => by cases hg)
  conv => whnf
  refine ⟨_, fun w => run_build w 181 _ _ (built181 _ _ _), ?_⟩
  conv => whnf
  intro w4 hw4
  have k4 := FlAt.new (T := 181) ho3 x3.size hw4
  exact .inl ⟨hcan, _, _, _, rfl, k4.1, x3.trans k4.2⟩

/-- Copy -/
theorem copy_calls {B : Nat} {w : World} {g gw c : Nat} {s : FS} (h : FlAt 181 B w g gw c s) (hl : s.ws.length ≤ 1048576) (hne : s.ws ≠ []) :
    Calls Try.prog 101 #[.pointer (some ⟨g, 0, none⟩)] w (Ret fun v w' => ∃ g' gw' c', v = .pointer (some ⟨g', 0, none⟩) ∧ FlAt 181 w.heap.size w' g' gw' c' s ∧ Ext w w') := by
  refine calls_of_vc lok Try.func101 ?_ rfl
  conv => whnf
  refine vcCond_false lok (rfl) ?_
  conv => whnf
  refine ⟨s.cells gw c, rfl, h.blk.cells, ?_⟩
  conv => whnf
  intro w1 hw1
  have hb1 : Blk w1 w.heap.size 181 [.slice none 0 0, .bool false, .int .i64 0, .int .u32 0, .int .i64 0] := by rw [hw1]; exact Blk.new w 181 _
  have x1 : Ext w w1 := by rw [hw1]; exact Ext.new _ _
  clear hw1
  conv => whnf
  have k2 := Blk.storeAgg lok hb1 (t := 181) (us := s.cells gw c) rfl 0 (by simp [FS.cells]) (by simp [FS.cells, u32v, Value.oneCell'])
  obtain ⟨w2, hr2, hb2, hg2⟩ := k2
  have x2 : Ext w w2 := hg2.extOf x1 (fun g hg => by cases hg; exact Nat.le_refl _)
  have hb2 : Blk w2 w.heap.size 181 (s.cells gw c) := hb2
  refine ⟨w2, hr2, ?_⟩
  conv => whnf
  refine Calls.ret (fwords_calls (h.ext x2) hl) ?_
  rintro _ w3 ⟨a3, c3, rfl, ho3, x3⟩
  conv => whnf
  have ea := own_some ho3 hne
  obtain ⟨gw3, ea⟩ := ea
  subst ea
  have hb3 := hb2.ext x3
  refine ⟨hb3.can 0 (by simp [FS.cells]) _ rfl, fun w4 hw4 => ?_⟩
  have hb4 : Blk w4 w.heap.size 181 (s.cells gw3 c3) := by rw [hw4]; exact hb3.set 0 _
  have hg4 := gr_of_set hw4
  clear hw4
  conv => whnf
  have ho4 : Own 42 u32v w2.heap.size w4 (some ⟨gw3, 0, none⟩) c3 s.ws := hg4.keepOwn ho3 (fun g hg e => by
    cases hg
    have e1 : w.heap.size = gw3 := Option.some.inj e
    have e2 := ho3.lt.1
    have e3 := hb2.lt
    omega)
  exact ⟨_, _, _, rfl, ⟨hb4, ho4.base x2.size, Nat.le_refl _, fun e => by have := ho3.lt; have := hb2.lt; omega⟩, hg4.extOf (x2.trans x3) (fun g hg => by cases hg; exact Nat.le_refl _)⟩
end Go.Proofs.Ytgipackjnncabaa
