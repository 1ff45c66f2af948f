/- Walks of layer 2, fifth part: words and bytes, signs. -/
import Derived.Test.YtgipackjnncabaaL02b
set_option linter.unusedVariables false
namespace Go.Proofs.Ytgipackjnncabaa
open Go.Vc Go.RowKit

/-- words as bytes -/
def bytesF (ws : List (BitVec 32)) : List (BitVec 8) := ws.flatMap fun x => enc 4 x.toNat
/-- the four bytes at place i, 255 where there are none -/
def four (bs : List (BitVec 8)) (i : Nat) : List (BitVec 8) := (List.range 4).map fun j => bs.getD (4 * i + j) 255#8
def wordOf (l : List (BitVec 8)) : BitVec 32 := BitVec.ofNat 32 (decN l)
/-- bytes as words -/
def wordsF (bs : List (BitVec 8)) : List (BitVec 32) := (List.range ((bs.length + 3) / 4)).map fun i => wordOf (four bs i)

theorem bytesF_len (ws : List (BitVec 32)) : (bytesF ws).length = 4 * ws.length := by
  unfold bytesF
  induction ws with
  | nil => rfl
  | cons x l ih => rw [List.flatMap_cons, List.length_append, ih, enc_len, List.length_cons]; omega
theorem wordsF_len (bs : List (BitVec 8)) : (wordsF bs).length = (bs.length + 3) / 4 := by simp [wordsF]

/-- octet.Plain -/
theorem plain_calls {w : World} (s : Int) (h0 : -2147483648 ≤ s) (h1 : s < 2147483648) : Calls Try.prog 53 #[.int .i32 s] w (Ret fun v w' => v = .int .u32 (s % 4294967296) ∧ w' = w) := by
  refine calls_of_vc lok Try.func53 ?_ rfl
  conv => whnf
  intro z hz
  rw [wu32] at hz
  subst hz
  conv => whnf
  exact ⟨rfl, rfl⟩

/-- its reference -/
theorem rplain_calls {w : World} (s : Int) (h0 : -2147483648 ≤ s) (h1 : s < 2147483648) : Calls Try.prog 54 #[.int .i32 s] w (Ret fun v w' => v = .int .u32 (s % 4294967296) ∧ w' = w) := by
  refine calls_of_vc lok Try.func54 ?_ rfl
  conv => whnf
  refine vcCond_split lok rfl (fun h2 => ?_) (fun h2 => ?_)
  · have h2 := dt h2
    conv => whnf
    intro z hz
    rw [wi64 (by omega)] at hz
    obtain rfl := hz.symm
    conv => whnf
    refine ⟨by omega, ?_⟩
    conv => whnf
    intro z hz
    obtain rfl : z = s % 4294967296 := by rw [hz, wu32]; omega
    conv => whnf
    exact ⟨rfl, rfl⟩
  · have h2 := df h2
    conv => whnf
    intro z hz
    rw [wu32] at hz
    subst hz
    conv => whnf
    exact ⟨rfl, rfl⟩

/-- the reference of octet.Signed -/
theorem rsigned_calls {w : World} (x : Nat) (h : x < 4294967296) : Calls Try.prog 56 #[.int .u32 x] w (Ret fun v w' => v = .int .i32 (signF x) ∧ w' = w) := by
  refine calls_of_vc lok Try.func56 ?_ rfl
  conv => whnf
  refine vcCond_split lok rfl (fun h2 => ?_) (fun h2 => ?_)
  · have h2 := dt h2
    conv => whnf
    intro z hz
    rw [wi64 (by omega)] at hz
    subst hz
    conv => whnf
    refine ⟨by omega, ?_⟩
    conv => whnf
    intro z hz
    obtain rfl : z = signF x := by rw [hz, wi32]; unfold signF; split <;> omega
    conv => whnf
    exact ⟨rfl, rfl⟩
  · have h2 := df h2
    conv => whnf
    intro z hz
    rw [wi32_sign h] at hz
    subst hz
    conv => whnf
    exact ⟨rfl, rfl⟩

/-- what the references compare -/
theorem same_calls {w : World} {a b : Option Addr} {c d : Nat} {xs ys : List (BitVec 32)} (hx : Sl u32v w a xs) (hy : Sl u32v w b ys) (hxl : xs.length ≤ 2147483648) :
    Calls Try.prog 50 #[.slice a xs.length c, .slice b ys.length d] w (Ret fun v w' => v = .bool (decide (xs = ys)) ∧ Ext w w') := by
  refine calls_of_vc lok Try.func50 ?_ rfl
  conv => whnf
  refine vcCond_split lok rfl (fun h1 => ?_) (fun h1 => ?_)
  · conv => whnf
    refine ⟨?_, Ext.refl _⟩
    rw [decide_eq_false]
    rintro rfl
    exact absurd rfl (ne_true h1)
  have hl : xs.length = ys.length := by have := ne_false h1; omega
  conv => whnf
  refine vcLoop_inv lok (σ := Nat)
    (fun i => [(5, .int .i64 i), (0, .slice a xs.length c), (1, .slice b ys.length d)])
    (fun i w1 => i ≤ xs.length ∧ xs.take i = ys.take i ∧ Ext w w1) (fun i => xs.length - i)
    0 ⟨rfl, rfl, rfl, trivial⟩ ⟨Nat.zero_le _, by simp, Ext.refl _⟩ ?_
  rintro i w1 ⟨hi, ht, hx1⟩
  conv => whnf
  refine vcCond_split lok rfl (fun h2 => ?_) (fun h2 => ?_)
  rotate_left
  · have h2 := df h2
    conv => whnf
    refine ⟨?_, hx1⟩
    rw [List.take_of_length_le (by omega), List.take_of_length_le (by omega)] at ht
    rw [decide_eq_true ht]
  have h2 := dt h2
  conv => whnf
  refine vcDraw_go lok mixed (fun w2 => w2 = w1.drew) [] [0, 1, 2, 3, 4, 5, 6, 7, 8] (by kernel_rfl) fun w2 hw2 => ⟨hw2, ?_⟩
  have x2 : Ext w w2 := hx1.trans (hw2 ▸ Ext.drew w1)
  conv => whnf
  obtain ⟨p, o, ha, hcell⟩ := (hx.ext x2).at (i : Int) (by omega) (by omega)
  refine ⟨p, o, ha, ⟨by omega, by omega⟩, ?_⟩
  conv => whnf
  refine ⟨_, fun w3 hw3 => by rw [hw3, ← hw2]; exact hcell, ?_⟩
  conv => whnf
  obtain ⟨p2, o2, ha2, hcell2⟩ := (hy.ext x2).at (i : Int) (by omega) (by omega)
  refine ⟨p2, o2, ha2, ⟨by omega, by omega⟩, ?_⟩
  conv => whnf
  refine ⟨_, fun w3 hw3 => by rw [hw3, ← hw2]; exact hcell2, ?_⟩
  conv => whnf
  have hix : i < xs.length := by omega
  have hiy : i < ys.length := by omega
  have gx : xs.getD (i : Int).toNat default = xs[i] := by simp [List.getD, List.getElem?_eq_getElem hix]
  have gy : ys.getD (i : Int).toNat default = ys[i] := by simp [List.getD, List.getElem?_eq_getElem hiy]
  rw [gx, gy]
  refine vcCond_split lok rfl (fun h3 => ?_) (fun h3 => ?_)
  · have h3 := ne_true h3
    conv => whnf
    refine ⟨?_, x2⟩
    rw [decide_eq_false]
    rintro rfl
    exact h3 rfl
  · have h3 := ne_false h3
    have h4 : xs[i] = ys[i] := BitVec.eq_of_toNat_eq (by omega)
    conv => whnf
    refine ⟨by omega, ?_⟩
    conv => whnf
    refine ⟨i + 1, ⟨rfl, rfl, rfl, trivial⟩, ⟨by omega, ?_, x2⟩, by omega⟩
    rw [List.take_succ_eq_append_getElem hix, List.take_succ_eq_append_getElem hiy, ht, h4]

theorem bytesF_take (ws : List (BitVec 32)) (i : Nat) (h : i < ws.length) : bytesF (ws.take (i + 1)) = bytesF (ws.take i) ++ enc 4 ws[i].toNat := by
  rw [List.take_succ_eq_append_getElem h]
  unfold bytesF
  rw [List.flatMap_append]
  simp

theorem shr32 (n k : Nat) (hk : k ≤ 32) : (n : Int).fdiv (2 ^ (min ((k : Int)).toNat IntKind.u32.bits)) = ((n / 2 ^ k : Nat) : Int) := by
  have e1 : min (k : Int).toNat IntKind.u32.bits = k := by
    show min (k : Int).toNat 32 = k
    omega
  rw [e1, Int.fdiv_eq_ediv_of_nonneg _ (by exact Int.pow_nonneg (by decide)), Int.natCast_ediv, Int.natCast_pow]
  rfl

/-- octet.Bytes -/
theorem bytes_calls {w : World} {a : Option Addr} {c : Nat} {ws : List (BitVec 32)} (h : Sl u32v w a ws) (hl : ws.length ≤ 1048576) :
    Calls Try.prog 48 #[.slice a ws.length c] w (Ret (BytesPost (bytesF ws) w)) := by
  refine calls_of_vc lok Try.func48 ?_ rfl
  conv => whnf
  refine ⟨by omega, ?_⟩
  conv => whnf
  obtain ⟨w1, hr1, ho1, hx1⟩ := run_makeOwn e8 w.heap.size w (Nat.le_refl _) 0 (4 * ws.length) (Nat.zero_le _) (by omega)
  have e4 : ((4 * ws.length : Nat) : Int) = 4 * (ws.length : Int) := by omega
  rw [e4] at hr1
  refine ⟨_, _, hr1, ?_⟩
  conv => whnf
  refine vcLoop_inv lok (σ := Nat × Option Addr × Nat)
    (fun ⟨i, b, d⟩ => [(12, .int .i64 i), (11, .int .i64 ws.length), (10, .slice a ws.length c), (3, .slice b (bytesF (ws.take i)).length d)])
    (fun ⟨i, b, d⟩ w2 => i ≤ ws.length ∧ Own 5 u8v w.heap.size w2 b d (bytesF (ws.take i)) ∧ Ext w w2) (fun s => ws.length - s.1)
    (0, _, _) ⟨rfl, rfl, rfl, rfl, trivial⟩ ⟨Nat.zero_le _, ho1, hx1⟩ ?_
  rintro ⟨i, b, d⟩ w2 ⟨hi, ho2, hx2⟩
  conv => whnf
  refine vcCond_split lok rfl (fun h2 => ?_) (fun h2 => ?_)
  rotate_left
  · have h2 := df h2
    obtain rfl : i = ws.length := by omega
    conv => whnf
    rw [List.take_length] at ho2
    exact ⟨b, d, by rw [List.take_length], ho2, hx2⟩
  have h2 := dt h2
  have hiw : i < ws.length := by omega
  have hbl := bytesF_len (ws.take i)
  rw [List.length_take] at hbl
  conv => whnf
  obtain ⟨p, o, ha, hcell⟩ := (h.ext hx2).at (i : Int) (by omega) (by omega)
  refine ⟨p, o, ha, ⟨by omega, by omega⟩, ?_⟩
  conv => whnf
  refine ⟨_, hcell, ?_⟩
  have gx : ws.getD (i : Int).toNat default = ws[i] := by simp [List.getD, List.getElem?_eq_getElem hiw]
  rw [gx]
  have ebt := bytesF_take ws i hiw
  generalize ws[i] = x at ebt ⊢
  have hn := x.isLt
  conv => whnf
  intro z hz
  obtain rfl : z = ((BitVec.ofNat 8 (x.toNat / 256 ^ 0)).toNat : Int) := by rw [hz, wu8, BitVec.toNat_ofNat]; simp only [Nat.pow_zero, Nat.div_one]; omega
  conv => whnf
  refine ⟨by omega, ?_⟩
  intro z1 hz1
  obtain rfl : z1 = ((x.toNat / 256 ^ 1 : Nat) : Int) := by rw [hz1]; exact shr32 x.toNat 8 (by decide)
  conv => whnf
  intro z hz
  obtain rfl : z = ((BitVec.ofNat 8 (x.toNat / 256 ^ 1)).toNat : Int) := by rw [hz, wu8, BitVec.toNat_ofNat]; omega
  conv => whnf
  refine ⟨by omega, ?_⟩
  intro z1 hz1
  obtain rfl : z1 = ((x.toNat / 256 ^ 2 : Nat) : Int) := by rw [hz1]; exact shr32 x.toNat 16 (by decide)
  conv => whnf
  intro z hz
  obtain rfl : z = ((BitVec.ofNat 8 (x.toNat / 256 ^ 2)).toNat : Int) := by rw [hz, wu8, BitVec.toNat_ofNat]; omega
  conv => whnf
  refine ⟨by omega, ?_⟩
  intro z1 hz1
  obtain rfl : z1 = ((x.toNat / 256 ^ 3 : Nat) : Int) := by rw [hz1]; exact shr32 x.toNat 24 (by decide)
  conv => whnf
  intro z hz
  obtain rfl : z = ((BitVec.ofNat 8 (x.toNat / 256 ^ 3)).toNat : Int) := by rw [hz, wu8, BitVec.toNat_ofNat]; omega
  conv => whnf
  refine ⟨_, _, run_buildN e8.toElem ((enc 4 x.toNat).map u8v) (by simp [u8v, Value.oneCell']) (by simp [enc_len]) w2, ?_⟩
  conv => whnf
  have x3 : Ext w2 (w2.alloc (.cells ((enc 4 x.toNat).map u8v).toArray 5)) := Ext.new _ _
  have hs3 : Sl u8v (w2.alloc (.cells ((enc 4 x.toNat).map u8v).toArray 5)) (some ⟨w2.heap.size, 0, none⟩) (enc 4 x.toNat) := Sl.lit _ _
  obtain ⟨a4, c4, w4, hr4, ho4, hg4, _⟩ := (ho2.ext x3).append (ty := 22) (d := 4) e8.toElem (fun _ => rfl) hs3 (by rw [enc_len]; omega) (hx2.trans x3).size
  refine ⟨_, _, hr4, ?_⟩
  have x4 : Ext w w4 := hg4.extOf (hx2.trans x3) (fun g hg => (ho2.ge g hg).1)
  conv => whnf
  refine ⟨by omega, ?_⟩
  conv => whnf
  refine ⟨(i + 1, a4, c4), ⟨rfl, rfl, rfl, by rw [ebt]; rfl, trivial⟩, ⟨by omega, by rw [ebt]; exact ho4, x4⟩, by omega⟩

/-- its reference -/
theorem rbytes_calls {w : World} {a : Option Addr} {c : Nat} {ws : List (BitVec 32)} (h : Sl u32v w a ws) (hl : ws.length ≤ 1048576) :
    Calls Try.prog 52 #[.slice a ws.length c] w (Ret (BytesPost (bytesF ws) w)) := by
  refine calls_of_vc lok Try.func52 ?_ rfl
  conv => whnf
  refine vcLoop_inv lok (σ := Nat × Option Addr × Nat)
    (fun ⟨i, b, d⟩ => [(4, .int .i64 i), (0, .slice a ws.length c), (3, .slice b (bytesF (ws.take i)).length d)])
    (fun ⟨i, b, d⟩ w2 => i ≤ ws.length ∧ Own 5 u8v w.heap.size w2 b d (bytesF (ws.take i)) ∧ Ext w w2) (fun s => ws.length - s.1)
    (0, none, 0) ⟨rfl, rfl, rfl, trivial⟩ ⟨Nat.zero_le _, Own.nil _ _ _ _, Ext.refl _⟩ ?_
  rintro ⟨i, b, d⟩ w2 ⟨hi, ho2, hx2⟩
  conv => whnf
  refine vcCond_split lok rfl (fun h2 => ?_) (fun h2 => ?_)
  rotate_left
  · have h2 := df h2
    obtain rfl : i = ws.length := by omega
    conv => whnf
    rw [List.take_length] at ho2
    exact ⟨b, d, by rw [List.take_length], ho2, hx2⟩
  have h2 := dt h2
  have hiw : i < ws.length := by omega
  have hbl := bytesF_len (ws.take i)
  rw [List.length_take] at hbl
  conv => whnf
  obtain ⟨p, o, ha, hcell⟩ := (h.ext hx2).at (i : Int) (by omega) (by omega)
  refine ⟨p, o, ha, ⟨by omega, by omega⟩, ?_⟩
  conv => whnf
  refine ⟨_, hcell, ?_⟩
  have gx : ws.getD (i : Int).toNat default = ws[i] := by simp [List.getD, List.getElem?_eq_getElem hiw]
  rw [gx]
  have ebt := bytesF_take ws i hiw
  generalize ws[i] = x at ebt ⊢
  have hn := x.isLt
  conv => whnf
  intro z hz
  obtain rfl : z = (x.toNat : Int) := by rw [hz, wu64]; omega
  conv => whnf
  refine Calls.ret (digits_calls x.toNat 4 (by omega) (by decide)) ?_
  rintro _ w3 ⟨a3, c3, rfl, ho3, hx3⟩
  conv => whnf
  obtain ⟨a4, c4, w4, hr4, ho4, hg4, _⟩ := (ho2.ext hx3).append (ty := 22) (d := c3) e8.toElem (fun _ => rfl) ho3.sl (by rw [enc_len]; omega) (hx2.trans hx3).size
  refine ⟨_, _, hr4, ?_⟩
  have x4 : Ext w w4 := hg4.extOf (hx2.trans hx3) (fun g hg => (ho2.ge g hg).1)
  conv => whnf
  refine ⟨by omega, ?_⟩
  conv => whnf
  refine ⟨(i + 1, a4, c4), ⟨rfl, rfl, by rw [ebt]; rfl, trivial⟩, ⟨by omega, by rw [ebt]; exact ho4, x4⟩, by omega⟩

/-- the words of the first i places, naughts behind -/
def wpre (bs : List (BitVec 8)) (i : Nat) : List (BitVec 32) := (wordsF bs).take i ++ List.replicate ((bs.length + 3) / 4 - i) 0#32
theorem wpre_len (bs : List (BitVec 8)) (i : Nat) (hi : i ≤ (bs.length + 3) / 4) : (wpre bs i).length = (bs.length + 3) / 4 := by
  unfold wpre
  rw [List.length_append, List.length_take, wordsF_len, List.length_replicate]; omega

theorem wpre_set (bs : List (BitVec 8)) (i : Nat) (hi : i < (bs.length + 3) / 4) (x : BitVec 32) :
    (wpre bs i).set i x = (wordsF bs).take i ++ x :: List.replicate ((bs.length + 3) / 4 - (i + 1)) 0#32 := by
  unfold wpre
  have hl : ((wordsF bs).take i).length = i := by rw [List.length_take, wordsF_len]; omega
  rw [List.set_append_right _ _ (by omega), hl, Nat.sub_self, show (bs.length + 3) / 4 - i = ((bs.length + 3) / 4 - (i + 1)) + 1 by omega, List.replicate_succ, List.set_cons_zero]
theorem wpre_set0 (bs : List (BitVec 8)) (i : Nat) (hi : i < (bs.length + 3) / 4) : (wpre bs i).set i 0#32 = wpre bs i := by
  rw [wpre_set bs i hi]
  unfold wpre
  rw [show (bs.length + 3) / 4 - i = ((bs.length + 3) / 4 - (i + 1)) + 1 by omega, List.replicate_succ]
theorem wpre_succ (bs : List (BitVec 8)) (i : Nat) (hi : i < (bs.length + 3) / 4) : (wpre bs i).set i (wordOf (four bs i)) = wpre bs (i + 1) := by
  rw [wpre_set bs i hi]
  unfold wpre
  rw [List.take_succ_eq_append_getElem (by rw [wordsF_len]; exact hi)]
  have : (wordsF bs)[i]'(by rw [wordsF_len]; exact hi) = wordOf (four bs i) := by simp [wordsF]
  rw [this, List.append_assoc]
  rfl
theorem four_len (bs : List (BitVec 8)) (i : Nat) : (four bs i).length = 4 := by simp [four]
theorem four_take (bs : List (BitVec 8)) (i j : Nat) (hj : j < 4) : (four bs i).take (j + 1) = (four bs i).take j ++ [bs.getD (4 * i + j) 255#8] := by
  rw [List.take_succ_eq_append_getElem (by rw [four_len]; exact hj)]
  simp [four]
theorem wordOf_nat (l : List (BitVec 8)) (h : l.length ≤ 4) : (wordOf l).toNat = decN l := by
  unfold wordOf
  rw [BitVec.toNat_ofNat]
  refine Nat.mod_eq_of_lt (Nat.lt_of_lt_of_le (decN_lt l) ?_)
  exact Nat.pow_le_pow_right (n := 256) (by decide) h

theorem or_up32 (n b j : Nat) (hn : n < 256 ^ j) (hb : b < 256) (hj : j < 4) :
    Go.IntKind.u32.wrap ((BitVec.ofInt Go.IntKind.u32.bits (n : Int) ||| BitVec.ofInt Go.IntKind.u32.bits (Go.IntKind.u32.wrap ((b : Int) * 2 ^ min (8 * (j : Int)).toNat Go.IntKind.u32.bits))).toNat : Int) = ((n + 256 ^ j * b : Nat) : Int) := by
  have e1 : min (8 * (j : Int)).toNat Go.IntKind.u32.bits = 8 * j := by
    show min (8 * (j : Int)).toNat 32 = 8 * j
    omega
  have p8 : (256 : Nat) ^ (j + 1) ≤ 2 ^ 32 := by
    have : (256 : Nat) ^ (j + 1) ≤ 256 ^ 4 := Nat.pow_le_pow_right (by decide) (by omega)
    exact this
  have hsum : n + 256 ^ j * b < 256 ^ (j + 1) := by
    have h1 : 256 ^ j * b ≤ 256 ^ j * 255 := Nat.mul_le_mul_left _ (by omega)
    rw [Nat.pow_succ]
    omega
  have e2 : ((b : Int) * 2 ^ (8 * j)) = ((256 ^ j * b : Nat) : Int) := by
    rw [Int.pow_mul, Int.mul_comm, show (2 : Int) ^ 8 = ((256 : Nat) : Int) from by decide, ← Int.natCast_pow, ← Int.natCast_mul]
  have hm : 256 ^ j * b < 2 ^ 32 := by omega
  have e4 : n ||| 256 ^ j * b = n + 256 ^ j * b := by
    have h := Nat.shiftLeft_add_eq_or_of_lt (i := 8 * j) (b := n) (by rw [Nat.pow_mul]; exact hn) b
    rw [Nat.shiftLeft_eq, Nat.pow_mul, show (2 : Nat) ^ 8 = 256 from rfl, Nat.mul_comm] at h
    rw [Nat.or_comm, ← h, Nat.add_comm]
  rw [e1, e2, wu32, wu32]
  have hs2 : n + 256 ^ j * b < 2 ^ 32 := by omega
  clear e1 e2 hsum p8 hn
  generalize 256 ^ j * b = m at *
  have e3 : ((m : Nat) : Int) % 4294967296 = (m : Int) := by omega
  rw [e3]
  show (((BitVec.ofInt 32 (n : Int) ||| BitVec.ofInt 32 (m : Int)).toNat : Nat) : Int) % 4294967296 = _
  rw [BitVec.ofInt_natCast, BitVec.ofInt_natCast, BitVec.toNat_or, BitVec.toNat_ofNat, BitVec.toNat_ofNat, Nat.mod_eq_of_lt (by omega), Nat.mod_eq_of_lt hm, e4]
  omega

set_option maxHeartbeats 2000000 in
/-- octet.Words -/
theorem words_calls {w : World} {a : Option Addr} {c : Nat} {bs : List (BitVec 8)} (h : Sl u8v w a bs) (hl : bs.length ≤ 1048576) :
    Calls Try.prog 49 #[.slice a bs.length c] w (Ret fun v w' => ∃ a' c', v = .slice a' (wordsF bs).length c' ∧ Own 42 u32v w.heap.size w' a' c' (wordsF bs) ∧ Ext w w') := by
  refine calls_of_vc lok Try.func49 ?_ rfl
  conv => whnf
  refine ⟨by omega, ?_⟩
  conv => whnf
  refine ⟨by omega, ?_⟩
  intro z hz
  obtain rfl : z = (((bs.length + 3) / 4 : Nat) : Int) := by rw [hz, Int.tdiv_eq_ediv_of_nonneg (by omega), wi64 (by omega)]; omega
  conv => whnf
  obtain ⟨w1, hr1, ho1, hx1⟩ := run_makeOwn e32 w.heap.size w (Nat.le_refl _) ((bs.length + 3) / 4) ((bs.length + 3) / 4) (Nat.le_refl _) (by omega)
  refine ⟨_, _, hr1, ?_⟩
  conv => whnf
  rw [List.length_replicate]
  refine vcLoop_inv lok (σ := Nat)
    (fun i => [(14, .int .i64 i), (13, .int .i64 ((bs.length + 3) / 4 : Nat)), (0, .slice a bs.length c), (3, .slice (some ⟨w.heap.size, 0, none⟩) ((bs.length + 3) / 4) ((bs.length + 3) / 4))])
    (fun i w2 => i ≤ (bs.length + 3) / 4 ∧ Own 42 u32v w.heap.size w2 (some ⟨w.heap.size, 0, none⟩) ((bs.length + 3) / 4) (wpre bs i) ∧ Ext w w2) (fun s => (bs.length + 3) / 4 - s)
    0 ⟨rfl, rfl, rfl, rfl, trivial⟩ ⟨Nat.zero_le _, ho1, hx1⟩ ?_
  rintro i w2 ⟨hi, ho2, hx2⟩
  conv => whnf
  refine vcCond_split lok rfl (fun h2 => ?_) (fun h2 => ?_)
  rotate_left
  · have h2 := df h2
    obtain rfl : i = (bs.length + 3) / 4 := by omega
    conv => whnf
    have e : wpre bs ((bs.length + 3) / 4) = wordsF bs := by unfold wpre; rw [List.take_of_length_le (by rw [wordsF_len]; exact Nat.le_refl _), Nat.sub_self]; simp
    rw [e] at ho2
    exact ⟨_, _, by rw [wordsF_len], ho2, hx2⟩
  have h2 := dt h2
  have him : i < (bs.length + 3) / 4 := by omega
  conv => whnf
  refine vcLoop_inv lok (σ := Nat)
    (fun j => [(17, .int .i64 j), (4, .int .i64 i), (14, .int .i64 i), (13, .int .i64 ((bs.length + 3) / 4 : Nat)), (0, .slice a bs.length c), (3, .slice (some ⟨w.heap.size, 0, none⟩) ((bs.length + 3) / 4) ((bs.length + 3) / 4))])
    (fun j w3 => j ≤ 4 ∧ Own 42 u32v w.heap.size w3 (some ⟨w.heap.size, 0, none⟩) ((bs.length + 3) / 4) ((wpre bs i).set i (wordOf ((four bs i).take j))) ∧ Ext w w3) (fun s => 4 - s)
    0 ⟨rfl, rfl, rfl, rfl, rfl, rfl, trivial⟩ ⟨Nat.zero_le _, by rw [List.take_zero, show wordOf [] = 0#32 from rfl, wpre_set0 bs i him]; exact ho2, hx2⟩ ?_
  rintro j w3 ⟨hj, ho3, hx3⟩
  conv => whnf
  refine vcCond_split lok rfl (fun h4 => ?_) (fun h4 => ?_)
  rotate_left
  · have h4 := df h4
    obtain rfl : j = 4 := by omega
    rw [List.take_of_length_le (by rw [four_len]; exact Nat.le_refl _), wpre_succ bs i him] at ho3
    conv => whnf
    refine ⟨by omega, ?_⟩
    conv => whnf
    exact ⟨i + 1, ⟨rfl, rfl, rfl, rfl, trivial⟩, ⟨by omega, ho3, hx3⟩, by omega⟩
  have h4 := dt h4
  have hj4 : j < 4 := by omega
  conv => whnf
  refine ⟨by omega, ?_⟩
  conv => whnf
  refine ⟨by omega, ?_⟩
  conv => whnf
  refine vcCond_meet (fun y : BitVec 8 => [(6, .int .u8 y.toNat), (5, .int .i64 j), (17, .int .i64 j), (4, .int .i64 i), (14, .int .i64 i), (13, .int .i64 ((bs.length + 3) / 4 : Nat)), (0, .slice a bs.length c), (3, .slice (some ⟨w.heap.size, 0, none⟩) ((bs.length + 3) / 4) ((bs.length + 3) / 4))])
    (fun y w4 => w4 = w3 ∧ y = bs.getD (4 * i + j) 255#8) ?_ ?_
  · refine vcCond_split lok rfl (fun h5 => ?_) (fun h5 => ?_)
    · have h5 := dt h5
      conv => whnf
      refine ⟨by omega, ?_⟩
      conv => whnf
      refine ⟨by omega, ?_⟩
      conv => whnf
      have g1 : 0 ≤ 4 * (i : Int) + (j : Int) := by omega
      have g2 : 4 * (i : Int) + (j : Int) < bs.length := h5
      have g3 := h.ext hx3
      have g4 := g3.at (4 * (i : Int) + (j : Int)) g1 g2
      obtain ⟨p, o, ha, hcell⟩ := g4
      refine ⟨p, o, ha, ⟨by omega, by omega⟩, ?_⟩
      conv => whnf
      refine ⟨_, hcell, ?_⟩
      conv => whnf
      have e : (4 * (i : Int) + (j : Int)).toNat = 4 * i + j := by omega
      have e2 : bs.getD (4 * i + j) default = bs.getD (4 * i + j) 255#8 := by
        simp [List.getD, List.getElem?_eq_getElem (show 4 * i + j < bs.length by omega)]
      exact ⟨bs.getD (4 * (i : Int) + (j : Int)).toNat default, ⟨rfl, rfl, rfl, rfl, rfl, rfl, rfl, rfl, trivial⟩, rfl, by rw [e, e2]⟩
    · have h5 := df h5
      conv => whnf
      refine ⟨255#8, ⟨rfl, rfl, rfl, rfl, rfl, rfl, rfl, rfl, trivial⟩, rfl, ?_⟩
      simp [List.getD, List.getElem?_eq_none (show bs.length ≤ 4 * i + j by omega)]
  rintro y w4 ⟨hw4, hy⟩
  subst hw4
  conv => whnf
  have hlen : ((wpre bs i).set i (wordOf ((four bs i).take j))).length = (bs.length + 3) / 4 := by rw [List.length_set, wpre_len bs i hi]
  have g4 := ho3.sl.at (i : Int) (by omega) (by omega)
  obtain ⟨p, o, ha, hcell⟩ := g4
  refine ⟨p, o, ha, ⟨by omega, by omega⟩, ?_⟩
  conv => whnf
  refine ⟨_, hcell, ?_⟩
  have gx : ((wpre bs i).set i (wordOf ((four bs i).take j))).getD (i : Int).toNat default = wordOf ((four bs i).take j) := by
    simp [List.getD, List.getElem?_set, wpre_len bs i hi, him]
  rw [gx]
  have hwn := wordOf_nat ((four bs i).take j) (by rw [List.length_take, four_len]; omega)
  have hdl := decN_lt ((four bs i).take j)
  rw [show ((four bs i).take j).length = j by rw [List.length_take, four_len]; omega] at hdl
  have hyl := y.isLt
  conv => whnf
  intro z hz
  obtain rfl : z = (y.toNat : Int) := by rw [hz, wu32]; omega
  conv => whnf
  intro z hz
  obtain rfl : z = (j : Int) := by rw [hz, wu64]; omega
  conv => whnf
  intro z hz
  obtain rfl : z = 8 * (j : Int) := by rw [hz, wu64]; omega
  conv => whnf
  refine ⟨by omega, ?_⟩
  intro z hz
  subst hz
  conv => whnf
  intro z hz
  have e6 := or_up32 (decN ((four bs i).take j)) y.toNat j hdl hyl hj4
  have e7 : decN ((four bs i).take (j + 1)) = decN ((four bs i).take j) + 256 ^ j * y.toNat := by
    rw [four_take bs i j hj4, decN_append, decN_single, ← hy, show ((four bs i).take j).length = j by rw [List.length_take, four_len]; omega]
  rw [hwn, e6, ← e7, ← wordOf_nat ((four bs i).take (j + 1)) (by rw [List.length_take, four_len]; omega)] at hz
  subst hz
  conv => whnf
  have g5 := ho3.store (i : Int) (by omega) (by omega)
  obtain ⟨g, hg, hc1, hc2, hBg, hgw, hst⟩ := g5
  have g6 := hst (wordOf ((four bs i).take (j + 1)))
  obtain ⟨ho5, hg5⟩ := g6
  rw [show (i : Int).toNat = i from rfl, List.set_set] at ho5
  rw [show (i : Int).toNat = i from rfl] at hg5
  refine ⟨g, 0, hg, ⟨by omega, by omega⟩, ?_⟩
  conv => whnf
  refine ⟨⟨rfl, hc1, hc2⟩, fun w5 hw5 => ?_⟩
  have hw6 : w5 = w4.setCell ⟨g, 0 + i, none⟩ (u32v (wordOf ((four bs i).take (j + 1)))) := hw5
  rw [← hw6] at ho5 hg5
  have x5 : Ext w w5 := hg5.extOf hx3 (fun g' hg' => by cases hg'; exact hBg)
  conv => whnf
  refine ⟨by omega, ?_⟩
  conv => whnf
  exact ⟨j + 1, ⟨rfl, rfl, rfl, rfl, rfl, rfl, trivial⟩, ⟨by omega, ho5, x5⟩, by omega⟩

end Go.Proofs.Ytgipackjnncabaa
