/- Walks of layer 3, second part: sums of bytes, sealed bytes. -/
import Derived.Test.YtgipackjnncabaaW03a
set_option linter.unusedVariables false
namespace Go.Proofs.Ytgipackjnncabaa
open Go.Vc Go.RowKit

theorem sum_calls {w : World} {a : Option Addr} {c : Nat} {bs : List (BitVec 8)} (h : Sl u8v w a bs) (hl : bs.length ≤ 2147483648) :
    Calls Try.prog 64 #[.slice a bs.length c] w (Ret fun v w' => v = .int .u32 (sumF bs).toNat ∧ Ext w w') := by
  refine calls_of_vc lok Try.func64 ?_ rfl
  conv => whnf
  refine Calls.ret (on_calls 0#32 h hl) ?_
  rintro _ w1 ⟨rfl, hx1⟩
  conv => whnf
  exact ⟨rfl, hx1⟩
theorem rsum_calls {w : World} {a : Option Addr} {c : Nat} {bs : List (BitVec 8)} (h : Sl u8v w a bs) (hl : bs.length ≤ 2147483648) :
    Calls Try.prog 65 #[.slice a bs.length c] w (Ret fun v w' => v = .int .u32 (sumF bs).toNat ∧ w' = w) := by
  refine calls_of_vc lok Try.func65 ?_ rfl
  conv => whnf
  refine Calls.ret (ron_calls 0#32 h hl) ?_
  rintro _ w1 ⟨rfl, hx1⟩
  conv => whnf
  exact ⟨rfl, hx1⟩

/-- sealed bytes -/
def sealF (bs : List (BitVec 8)) : List (BitVec 8) := bs ++ enc 4 (sumF bs).toNat
theorem sealF_len (bs : List (BitVec 8)) : (sealF bs).length = bs.length + 4 := by simp [sealF, enc_len]
theorem put_seal (bs : List (BitVec 8)) : putF bs 4 (sumF bs).toNat = (sealF bs, 0) := by
  have := (sumF bs).isLt
  unfold putF
  rw [if_neg (by omega), if_neg (by show ¬ 256 ^ 4 ≤ (sumF bs).toNat; omega)]
  rfl

theorem seal_calls {w : World} {a : Option Addr} {c : Nat} {bs : List (BitVec 8)} (h : Sl u8v w a bs) (hl : bs.length ≤ 16777216) :
    Calls Try.prog 66 #[.slice a bs.length c] w (Ret (BytesPost (sealF bs) w)) := by
  refine calls_of_vc lok Try.func66 ?_ rfl
  conv => whnf
  refine Calls.ret (sum_calls h (by omega)) ?_
  rintro _ w1 ⟨rfl, hx1⟩
  conv => whnf
  have hsl := (sumF bs).isLt
  intro z hz
  have hz7 : z = ((sumF bs).toNat : Int) := by rw [hz, wu64]; omega
  clear hz
  subst hz7
  conv => whnf
  have g := put_calls (c := c) (h.ext hx1) hl 4 (sumF bs).toNat (by omega)
  rw [put_seal] at g
  refine Calls.ret (g) ?_
  rintro _ w2 ⟨a2, c2, rfl, ho2, hx2⟩
  conv => whnf
  exact ⟨a2, c2, rfl, ho2.base hx1.size, hx1.trans hx2⟩
theorem rseal_calls {w : World} {a : Option Addr} {c : Nat} {bs : List (BitVec 8)} (h : Sl u8v w a bs) (hl : bs.length ≤ 16777216) :
    Calls Try.prog 69 #[.slice a bs.length c] w (Ret (BytesPost (sealF bs) w)) := by
  refine calls_of_vc lok Try.func69 ?_ rfl
  conv => whnf
  refine Calls.ret (rsum_calls h (by omega)) ?_
  rintro _ w1 ⟨rfl, hw1⟩
  conv => whnf
  subst hw1
  have hsl := (sumF bs).isLt
  intro z hz
  have hz11 : z = ((sumF bs).toNat : Int) := by rw [hz, wu64]; omega
  clear hz
  subst hz11
  conv => whnf
  have g := rput_calls (c := c) h hl 4 (sumF bs).toNat (by omega)
  rw [put_seal] at g
  refine Calls.ret (g) ?_
  rintro _ w2 ⟨a2, c2, rfl, ho2, hx2⟩
  conv => whnf
  exact ⟨a2, c2, rfl, ho2, hx2⟩

/-- what was sealed, and an error's number -/
def openF (bs : List (BitVec 8)) : List (BitVec 8) × Int :=
  if bs.length < 4 then ([], 2) else if sumF (bs.take (bs.length - 4)) = BitVec.ofNat 32 (decN (bs.drop (bs.length - 4))) then (bs.take (bs.length - 4), 0) else ([], 5)

theorem open_len (bs : List (BitVec 8)) : (openF bs).1.length ≤ bs.length := by
  unfold openF
  split
  · simp
  · split
    · simp
    · simp

theorem open_calls {w : World} {a : Option Addr} {c : Nat} {bs : List (BitVec 8)} (h : Sl u8v w a bs) (hl : bs.length ≤ 16777216) (hc : bs.length ≤ c) :
    Calls Try.prog 67 #[.slice a bs.length c] w (Ret (PutPost (openF bs) w)) := by
  refine calls_of_vc lok Try.func67 ?_ rfl
  conv => whnf
  refine ⟨by omega, ?_⟩
  conv => whnf
  refine vcCond_split lok rfl (fun h1 => ?_) (fun h1 => ?_)
  · have h1 := dt h1
    conv => whnf
    have e : openF bs = ([], 2) := if_pos (by omega)
    rw [e]
    exact ⟨none, 0, rfl, Own.nil _ _ _ _, Ext.refl _⟩
  have h1 := df h1
  conv => whnf
  have hn4 : ¬ bs.length < 4 := by omega
  have en : (bs.length : Int) - 4 = ((bs.length - 4 : Nat) : Int) := by omega
  rw [en]
  have eg : getF bs ((bs.length - 4 : Nat) : Int) 4 = (decN (bs.drop (bs.length - 4)), 0) := by
    unfold getF
    rw [if_neg (by omega), if_neg (by omega), Int.toNat_natCast, show (4 : Int).toNat = 4 from rfl]
    have e2 : (bs.drop (bs.length - 4)).take 4 = bs.drop (bs.length - 4) := List.take_of_length_le (by rw [List.length_drop]; omega)
    rw [e2]
  have g := get_calls (c := c) h (by omega) ((bs.length - 4 : Nat) : Int) 4 (by omega)
  rw [eg] at g
  refine Calls.ret (g) ?_
  rintro _ w1 ⟨rfl, hw1⟩
  conv => whnf
  subst hw1
  have hd := decN_lt (bs.drop (bs.length - 4))
  rw [show (bs.drop (bs.length - 4)).length = 4 by rw [List.length_drop]; omega, show (256 : Nat) ^ 4 = 4294967296 from rfl] at hd
  have ew : decN (bs.drop (bs.length - 4)) = (BitVec.ofNat 32 (decN (bs.drop (bs.length - 4)))).toNat := by rw [BitVec.toNat_ofNat]; omega
  intro z hz
  have hz19 : z = ((decN (bs.drop (bs.length - 4)) : Nat) : Int) := by rw [hz, wu32]; omega
  clear hz
  subst hz19
  conv => whnf
  refine ⟨by omega, ?_⟩
  conv => whnf
  have hlt : (bs.take (bs.length - 4)).length = bs.length - 4 := by rw [List.length_take]; omega
  have g2 := sum_calls (c := c) (h.take (bs.length - 4)) (by omega)
  rw [hlt] at g2
  refine Calls.ret (g2) ?_
  rintro _ w2 ⟨rfl, hx2⟩
  conv => whnf
  refine vcCond_split lok rfl (fun h2 => ?_) (fun h2 => ?_)
  · have h2 := ne_true h2
    have e : openF bs = ([], 5) := by
      unfold openF
      rw [if_neg hn4, if_neg (fun e => h2 (by rw [e, ← ew]))]
    rw [e]
    conv => whnf
    exact ⟨none, 0, rfl, Own.nil _ _ _ _, hx2⟩
  · have h2 := ne_false h2
    have e : openF bs = (bs.take (bs.length - 4), 0) := by
      unfold openF
      rw [if_neg hn4, if_pos (BitVec.eq_of_toNat_eq (by omega))]
    rw [e]
    conv => whnf
    refine ⟨by omega, ?_⟩
    conv => whnf
    have g3 := (Own.nil 5 u8v w1.heap.size w2).append (ty := 22) (d := c) e8.toElem (fun _ => rfl) ((h.take (bs.length - 4)).ext hx2) (by simp; omega) hx2.size
    rw [hlt] at g3
    obtain ⟨a3, c3, w3, hr3, ho3, hg3, _⟩ := g3
    refine ⟨_, _, hr3, ?_⟩
    conv => whnf
    exact ⟨a3, c3, rfl, ho3, hg3.extOf hx2 (fun g hg => by cases hg)⟩

theorem seal_eq {bs : List (BitVec 8)} (h4 : ¬ bs.length < 4) : sealF (bs.take (bs.length - 4)) = bs ↔ sumF (bs.take (bs.length - 4)) = BitVec.ofNat 32 (decN (bs.drop (bs.length - 4))) := by
  have hd : (bs.drop (bs.length - 4)).length = 4 := by rw [List.length_drop]; omega
  have hlt : (bs.take (bs.length - 4)).length = bs.length - 4 := by rw [List.length_take]; omega
  constructor
  · intro h
    have h2 : enc 4 (sumF (bs.take (bs.length - 4))).toNat = bs.drop (bs.length - 4) := by
      have h3 : (sealF (bs.take (bs.length - 4))).drop (bs.length - 4) = bs.drop (bs.length - 4) := by rw [h]
      unfold sealF at h3
      rwa [List.drop_append_of_le_length (by omega), List.drop_of_length_le (by omega), List.nil_append] at h3
    rw [← h2, decN_enc]
    apply BitVec.eq_of_toNat_eq
    have := (sumF (bs.take (bs.length - 4))).isLt
    rw [BitVec.toNat_ofNat, show (256 : Nat) ^ 4 = 2 ^ 32 from rfl, Nat.mod_mod, Nat.mod_eq_of_lt this]
  · intro h
    unfold sealF
    have hlt2 := decN_lt (bs.drop (bs.length - 4))
    rw [hd] at hlt2
    have e := enc_decN (bs.drop (bs.length - 4))
    rw [hd] at e
    rw [h, BitVec.toNat_ofNat, Nat.mod_eq_of_lt hlt2, e, List.take_append_drop]

/-- its reference -/
theorem ropen_calls {w : World} {a : Option Addr} {c : Nat} {bs : List (BitVec 8)} (h : Sl u8v w a bs) (hl : bs.length ≤ 16777216) (hc : bs.length ≤ c) :
    Calls Try.prog 68 #[.slice a bs.length c] w (Ret (PutPost (openF bs) w)) := by
  refine calls_of_vc lok Try.func68 ?_ rfl
  conv => whnf
  refine vcCond_split lok rfl (fun h1 => ?_) (fun h1 => ?_)
  · have h1 := dt h1
    conv => whnf
    have e : openF bs = ([], 2) := if_pos (by omega)
    rw [e]
    exact ⟨none, 0, rfl, Own.nil _ _ _ _, Ext.refl _⟩
  have h1 := df h1
  conv => whnf
  have hn4 : ¬ bs.length < 4 := by omega
  refine ⟨by omega, ?_⟩
  conv => whnf
  have en : (bs.length : Int) - 4 = ((bs.length - 4 : Nat) : Int) := by omega
  rw [en]
  have hlt : (bs.take (bs.length - 4)).length = bs.length - 4 := by rw [List.length_take]; omega
  refine vcDraw_meet lok mixed (Ext w) [3] [0, 1, 2, 5, 6, 3, 4, 7] (fun β : Bool => [(19, .bool β)]) (fun β w3 => Ext w w3 ∧ β = !decide (sealF (bs.take (bs.length - 4)) = bs)) [19] (fun _ => rfl) rfl (by kernel_rfl) (fun w1 hw1 => ⟨hw1 ▸ Ext.drew w, ?_⟩) ?_
  · have x1 : Ext w w1 := hw1 ▸ Ext.drew w
    conv => whnf
    refine ⟨by omega, ?_⟩
    conv => whnf
    refine ⟨_, fun w5 hw5 => run_toStr (h.ext hw5), ?_⟩
    conv => whnf
    have g2 := rseal_calls (c := c) ((h.ext x1).take (bs.length - 4)) (by omega)
    rw [hlt] at g2
    refine Calls.ret (g2) ?_
    rintro _ w2 ⟨a2, c2, rfl, ho2, hx2⟩
    conv => whnf
    refine ⟨fun w' => Ext w w' ∧ Sl u8v w' a2 (sealF (bs.take (bs.length - 4))), fun _ h => h.1, ⟨x1.trans hx2, ho2.sl⟩, ?_⟩
    conv => whnf
    refine ⟨_, fun w5 hw5 => run_toStr hw5.2, ?_⟩
    conv => whnf
    intro γ hγ
    have hγ2 := str_eq hγ rfl rfl
    clear hγ
    subst hγ2
    conv => whnf
    exact ⟨_, ⟨rfl, trivial⟩, x1.trans hx2, rfl⟩
  rintro β w1 ⟨x1, hβ⟩
  conv => whnf
  refine vcCond_split lok rfl (fun h2 => ?_) (fun h2 => ?_)
  · rw [h2] at hβ
    have e : openF bs = ([], 5) := by
      unfold openF
      rw [if_neg hn4, if_neg (fun e => by rw [decide_eq_true ((seal_eq hn4).2 e)] at hβ; cases hβ)]
    rw [e]
    conv => whnf
    exact ⟨none, 0, rfl, Own.nil _ _ _ _, x1⟩
  · rw [h2] at hβ
    have e3 : sealF (bs.take (bs.length - 4)) = bs := by simpa using hβ.symm
    have e : openF bs = (bs.take (bs.length - 4), 0) := by
      unfold openF
      rw [if_neg hn4, if_pos ((seal_eq hn4).1 e3)]
    rw [e]
    conv => whnf
    refine ⟨by omega, ?_⟩
    conv => whnf
    have g3 := (Own.nil 5 u8v w.heap.size w1).append (ty := 22) (d := c) e8.toElem (fun _ => rfl) ((h.take (bs.length - 4)).ext x1) (by simp; omega) x1.size
    rw [hlt] at g3
    obtain ⟨a3, c3, w3, hr3, ho3, hg3, _⟩ := g3
    refine ⟨_, _, hr3, ?_⟩
    conv => whnf
    exact ⟨a3, c3, rfl, ho3, hg3.extOf x1 (fun g hg => by cases hg)⟩

/-- the fixed calls -/
theorem known03 {w : World} : Calls Try.prog 61 #[] w (Ret fun v w' => v = .bool true ∧ Ext w w') := by
  refine calls_of_vc (args := []) lok Try.func61 ?_ rfl
  conv => whnf
  have e1 : openF [0#8, 0#8, 0#8, 0#8] = ([], 0) := by decide +kernel
  have e2 : openF [0#8, 0#8, 0#8, 1#8] = ([], 5) := by decide +kernel
  have e3 : sumF [49#8, 50#8, 51#8, 52#8, 53#8, 54#8, 55#8, 56#8, 57#8] = 3421780262#32 := by decide +kernel
  refine ⟨_, _, run_buildN e8.toElem ([0#8, 0#8, 0#8, 0#8].map u8v) (by simp [u8v, Value.oneCell']) (by simp) w, ?_⟩
  conv => whnf
  have x1 : Ext w (w.alloc (.cells ([0#8, 0#8, 0#8, 0#8].map u8v).toArray 5)) := Ext.new _ _
  have s1 : Sl u8v (w.alloc (.cells ([0#8, 0#8, 0#8, 0#8].map u8v).toArray 5)) (some ⟨w.heap.size, 0, none⟩) [0#8, 0#8, 0#8, 0#8] := Sl.lit _ _
  have g1 := open_calls (c := 4) s1 (by decide) (by decide)
  rw [e1] at g1
  refine Calls.ret (g1) ?_
  rintro _ w2 ⟨a2, c2, rfl, ho2, hx2⟩
  conv => whnf
  have x2 := x1.trans hx2
  refine ⟨_, _, run_buildN e8.toElem ([0#8, 0#8, 0#8, 1#8].map u8v) (by simp [u8v, Value.oneCell']) (by simp) w2, ?_⟩
  conv => whnf
  have x3 := x2.trans (Ext.new w2 (.cells ([0#8, 0#8, 0#8, 1#8].map u8v).toArray 5))
  have s3 : Sl u8v (w2.alloc (.cells ([0#8, 0#8, 0#8, 1#8].map u8v).toArray 5)) (some ⟨w2.heap.size, 0, none⟩) [0#8, 0#8, 0#8, 1#8] := Sl.lit _ _
  have g3 := open_calls (c := 4) s3 (by decide) (by decide)
  rw [e2] at g3
  refine Calls.ret (g3) ?_
  rintro _ w4 ⟨a4, c4, rfl, ho4, hx4⟩
  conv => whnf
  have x4 := x3.trans hx4
  refine vcReg_go lok ?_
  conv => whnf
  refine ⟨_, _, run_buildN e8.toElem ([49#8, 50#8, 51#8, 52#8, 53#8, 54#8, 55#8, 56#8, 57#8].map u8v) (by simp [u8v, Value.oneCell']) (by simp) w4, ?_⟩
  conv => whnf
  have g5 := run_convLit und22 und5 [49#8, 50#8, 51#8, 52#8, 53#8, 54#8, 55#8, 56#8, 57#8] w4 9 9
  obtain ⟨w5, hr5, hs5, hx5⟩ := g5
  refine ⟨_, _, hr5, ?_⟩
  conv => whnf
  have g6 := sum_calls (c := 9) hs5 (by decide)
  rw [e3] at g6
  refine Calls.ret (g6) ?_
  rintro _ w6 ⟨rfl, hx6⟩
  conv => whnf
  have x6 := (x4.trans hx5).trans hx6
  have g7 := seal_calls (c := 0) (Sl.nil u8v w6 none) (by decide)
  refine Calls.ret (g7) ?_
  rintro _ w7 ⟨a7, c7, rfl, ho7, hx7⟩
  conv => whnf
  exact ⟨rfl, x6.trans hx7⟩
end Go.Proofs.Ytgipackjnncabaa
