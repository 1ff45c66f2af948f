/- Plain laws of layer 23: packets as bytes. No program in sight. -/
import Derived.Test.YtgipackjnncabaaL03a
set_option linter.unusedSimpArgs false
set_option linter.unusedVariables false
namespace Go.Proofs.Ytgipackjnncabaa

structure Pk where
  kind : Int
  ver : BitVec 32
  size : Int
  chunk : Int
  state : Int
  hav : BitVec 32
  data : List (BitVec 8)

def Pk.zero : Pk := ⟨0, 0#32, 0, 0, 0, 0#32, []⟩

/-- can there be such a packet? -/
def canP (p : Pk) : Bool := decide (
  (p.kind = 1 ∧ (1 ≤ p.size ∧ p.size ≤ 2048) ∧ p.chunk = 0 ∧ p.state = 0 ∧ p.hav = 0#32 ∧ p.data.length = 0) ∨
  (p.kind = 2 ∧ p.size = 0 ∧ (0 ≤ p.chunk ∧ p.chunk ≤ 31) ∧ p.state = 0 ∧ p.hav = 0#32 ∧ (1 ≤ p.data.length ∧ p.data.length ≤ 64)) ∨
  (p.kind = 3 ∧ p.size = 0 ∧ p.chunk = 0 ∧ (0 ≤ p.state ∧ p.state ≤ 2) ∧ p.data.length = 0))

/-- a packet's bytes, its sum not with them -/
def bodyF (p : Pk) : List (BitVec 8) :=
  enc 1 p.kind.toNat ++ (enc 4 p.ver.toNat ++
    (if p.kind = 1 then enc 2 p.size.toNat else if p.kind = 2 then enc 1 p.chunk.toNat ++ p.data else enc 4 p.hav.toNat ++ enc 1 p.state.toNat))
def packF (p : Pk) : List (BitVec 8) × Int := if canP p = true then (sealF (bodyF p), 0) else ([], 1)

/-- a number is got, the place and the error go on -/
def getS (x : List (BitVec 8)) (s : Nat × Int) (k : Nat) : Nat × (Nat × Int) := if s.1 + k ≤ x.length then (decN ((x.drop s.1).take k), (s.1 + k, s.2)) else (0, (s.1, 4))

def upF (x : List (BitVec 8)) : Pk × (Nat × Int) :=
  let k := getS x (0, 0) 1
  let v := getS x k.2 4
  if k.1 = 1 then
    let n := getS x v.2 2
    (⟨1, BitVec.ofNat 32 v.1, n.1, 0, 0, 0#32, []⟩, n.2)
  else if k.1 = 2 then
    let n := getS x v.2 1
    (⟨2, BitVec.ofNat 32 v.1, 0, n.1, 0, 0#32, x.drop n.2.1⟩, (x.length, n.2.2))
  else if k.1 = 3 then
    let h := getS x v.2 4
    let st := getS x h.2 1
    (⟨3, BitVec.ofNat 32 v.1, 0, 0, st.1, BitVec.ofNat 32 h.1, []⟩, st.2)
  else (⟨k.1, BitVec.ofNat 32 v.1, 0, 0, 0, 0#32, []⟩, v.2)

def okUp (x : List (BitVec 8)) : Bool := decide ((upF x).2.2 = 0 ∧ (upF x).2.1 = x.length) && canP (upF x).1
def unpackF (b : List (BitVec 8)) : Pk × Int :=
  if (openF b).2 = 0 then (if okUp (openF b).1 = true then ((upF (openF b).1).1, 0) else (Pk.zero, 4)) else (Pk.zero, (openF b).2)

/-- the reference's reading: naught where there is nothing -/
def getZ (x : List (BitVec 8)) (at_ k : Nat) : Nat := if at_ + k ≤ x.length then decN ((x.drop at_).take k) else 0
def rawF (x : List (BitVec 8)) : Pk :=
  let k := getZ x 0 1
  let v := BitVec.ofNat 32 (getZ x 1 4)
  if k = 1 then ⟨1, v, getZ x 5 2, 0, 0, 0#32, []⟩
  else if k = 2 then ⟨2, v, 0, getZ x 5 1, 0, 0#32, x.drop 6⟩
  else if k = 3 then ⟨3, v, 0, 0, getZ x 9 1, BitVec.ofNat 32 (getZ x 5 4), []⟩
  else ⟨k, v, 0, 0, 0, 0#32, []⟩

theorem take_enc (k n : Nat) (r : List (BitVec 8)) : (enc k n ++ r).take k = enc k n := by
  have : (enc k n).length = k := enc_len k n
  rw [List.take_append_of_le_length (by omega), List.take_of_length_le (by omega)]
theorem drop_enc (k n : Nat) (r : List (BitVec 8)) : (enc k n ++ r).drop k = r := by
  have h : (enc k n).length = k := enc_len k n
  rw [List.drop_append_of_le_length (by omega), List.drop_of_length_le (by omega), List.nil_append]
theorem dec_enc {k n : Nat} (h : n < 256 ^ k) : decN (enc k n) = n := by rw [decN_enc, Nat.mod_eq_of_lt h]

theorem ver_lt (v : BitVec 32) : v.toNat < 256 ^ 4 := v.isLt
theorem ver_back (v : BitVec 32) : BitVec.ofNat 32 v.toNat = v := by rw [BitVec.ofNat_toNat, BitVec.setWidth_eq]

/-- the parts of a body, by their places -/
theorem body_parts (a b : Nat) (r : List (BitVec 8)) :
    (enc 1 a ++ (enc 4 b ++ r)).length = 5 + r.length ∧ ((enc 1 a ++ (enc 4 b ++ r)).drop 0).take 1 = enc 1 a ∧ ((enc 1 a ++ (enc 4 b ++ r)).drop 1).take 4 = enc 4 b ∧ (enc 1 a ++ (enc 4 b ++ r)).drop 5 = r := by
  refine ⟨by simp [enc_len]; omega, ?_, ?_, ?_⟩
  · rw [List.drop_zero, take_enc]
  · rw [drop_enc, take_enc]
  · rw [show (5 : Nat) = 1 + 4 from rfl, ← List.drop_drop, drop_enc, drop_enc]

theorem canP_cases {p : Pk} (h : canP p = true) :
    (p = ⟨1, p.ver, p.size, 0, 0, 0#32, []⟩ ∧ ∃ n : Nat, p.size = n ∧ 1 ≤ n ∧ n ≤ 2048) ∨ (p = ⟨2, p.ver, 0, p.chunk, 0, 0#32, p.data⟩ ∧ (∃ n : Nat, p.chunk = n ∧ n ≤ 31) ∧ 1 ≤ p.data.length ∧ p.data.length ≤ 64) ∨
      (p = ⟨3, p.ver, 0, 0, p.state, p.hav, []⟩ ∧ ∃ n : Nat, p.state = n ∧ n ≤ 2) := by
  have h := of_decide_eq_true h
  obtain ⟨k, v, s, c, t, hv, d⟩ := p
  simp only at h ⊢
  rcases h with ⟨h1, h2, h3, h4, h5, h6⟩ | ⟨h1, h2, h3, h4, h5, h6⟩ | ⟨h1, h2, h3, h4, h5⟩
  · have hd : d = [] := List.eq_nil_of_length_eq_zero h6
    subst h1 h3 h4 h5 hd
    exact .inl ⟨rfl, s.toNat, by omega, by omega, by omega⟩
  · subst h1 h2 h4 h5
    exact .inr (.inl ⟨rfl, ⟨c.toNat, by omega, by omega⟩, h6⟩)
  · have hd : d = [] := List.eq_nil_of_length_eq_zero h5
    subst h1 h2 h3 hd
    exact .inr (.inr ⟨rfl, t.toNat, by omega, by omega⟩)

theorem getS_ok {x : List (BitVec 8)} {a k : Nat} {e : Int} (h : a + k ≤ x.length) : getS x (a, e) k = (decN ((x.drop a).take k), (a + k, e)) := if_pos h
theorem getZ_ok {x : List (BitVec 8)} {a k : Nat} (h : a + k ≤ x.length) : getZ x a k = decN ((x.drop a).take k) := if_pos h

theorem up_body {p : Pk} (h : canP p = true) : upF (bodyF p) = (p, ((bodyF p).length, 0)) ∧ rawF (bodyF p) = p := by
  rcases canP_cases h with ⟨hp, n, hn, hn1, hn2⟩ | ⟨hp, ⟨n, hn, hn2⟩, hd1, hd2⟩ | ⟨hp, n, hn, hn2⟩
  · obtain ⟨k, v, s, c, t, hv, d⟩ := p
    simp only [Pk.mk.injEq, true_and] at hp
    obtain ⟨rfl, rfl, rfl, rfl, rfl⟩ := hp
    have hn : s = n := hn
    subst hn
    have eb : bodyF ⟨1, v, (n : Int), 0, 0, 0#32, []⟩ = enc 1 1 ++ (enc 4 v.toNat ++ enc 2 n) := rfl
    rw [eb]
    obtain ⟨l1, l2, l3, l4⟩ := body_parts 1 v.toNat (enc 2 n)
    rw [enc_len] at l1
    generalize enc 1 1 ++ (enc 4 v.toNat ++ enc 2 n) = x at *
    have d1 : decN ((x.drop 0).take 1) = 1 := by rw [l2, dec_enc (by decide)]
    have d2 : decN ((x.drop 1).take 4) = v.toNat := by rw [l3, dec_enc (ver_lt v)]
    have d3 : decN ((x.drop 5).take 2) = n := by rw [l4, List.take_of_length_le (by rw [enc_len]; exact Nat.le_refl _), dec_enc (by show n < 65536; omega)]
    constructor
    · unfold upF
      simp only [getS_ok (x := x) (a := 0) (k := 1) (by omega), d1]
      simp only [Nat.zero_add, getS_ok (x := x) (a := 1) (k := 4) (by omega), d2]
      simp only [Nat.reduceAdd, getS_ok (x := x) (a := 5) (k := 2) (by omega), d3, if_true, ver_back, l1]
    · unfold rawF
      simp only [getZ_ok (x := x) (a := 0) (k := 1) (by omega), d1, getZ_ok (x := x) (a := 1) (k := 4) (by omega), d2, getZ_ok (x := x) (a := 5) (k := 2) (by omega), d3, if_true, ver_back]
  · obtain ⟨k, v, s, c, t, hv, d⟩ := p
    simp only [Pk.mk.injEq, true_and, and_true] at hp hd1 hd2
    obtain ⟨rfl, rfl, rfl, rfl⟩ := hp
    have hn : c = n := hn
    subst hn
    have eb : bodyF ⟨2, v, 0, (n : Int), 0, 0#32, d⟩ = enc 1 2 ++ (enc 4 v.toNat ++ (enc 1 n ++ d)) := rfl
    rw [eb]
    obtain ⟨l1, l2, l3, l4⟩ := body_parts 2 v.toNat (enc 1 n ++ d)
    have l6 : (enc 1 2 ++ (enc 4 v.toNat ++ (enc 1 n ++ d))).drop 6 = d := by rw [show (6 : Nat) = 5 + 1 from rfl, ← List.drop_drop, l4, drop_enc]
    have lr : (enc 1 n ++ d).length = 1 + d.length := by rw [List.length_append, enc_len]
    rw [lr] at l1
    generalize enc 1 2 ++ (enc 4 v.toNat ++ (enc 1 n ++ d)) = x at *
    have d1 : decN ((x.drop 0).take 1) = 2 := by rw [l2, dec_enc (by decide)]
    have d2 : decN ((x.drop 1).take 4) = v.toNat := by rw [l3, dec_enc (ver_lt v)]
    have d3 : decN ((x.drop 5).take 1) = n := by rw [l4, take_enc, dec_enc (by show n < 256; omega)]
    constructor
    · unfold upF
      simp only [getS_ok (x := x) (a := 0) (k := 1) (by omega), d1]
      simp only [Nat.zero_add, getS_ok (x := x) (a := 1) (k := 4) (by omega), d2]
      simp only [Nat.reduceAdd, getS_ok (x := x) (a := 5) (k := 1) (by omega), d3, ver_back, l6]
      simp
    · unfold rawF
      simp only [getZ_ok (x := x) (a := 0) (k := 1) (by omega), d1, getZ_ok (x := x) (a := 1) (k := 4) (by omega), d2, getZ_ok (x := x) (a := 5) (k := 1) (by omega), d3, ver_back, l6]
      simp
  · obtain ⟨k, v, s, c, t, hv, d⟩ := p
    simp only [Pk.mk.injEq, true_and, and_true] at hp
    obtain ⟨rfl, rfl, rfl, rfl⟩ := hp
    have hn : t = n := hn
    subst hn
    have eb : bodyF ⟨3, v, 0, 0, (n : Int), hv, []⟩ = enc 1 3 ++ (enc 4 v.toNat ++ (enc 4 hv.toNat ++ enc 1 n)) := rfl
    rw [eb]
    obtain ⟨l1, l2, l3, l4⟩ := body_parts 3 v.toNat (enc 4 hv.toNat ++ enc 1 n)
    have l6 : (enc 1 3 ++ (enc 4 v.toNat ++ (enc 4 hv.toNat ++ enc 1 n))).drop 9 = enc 1 n := by rw [show (9 : Nat) = 5 + 4 from rfl, ← List.drop_drop, l4, drop_enc]
    have lr : (enc 4 hv.toNat ++ enc 1 n).length = 5 := by rw [List.length_append, enc_len, enc_len]
    rw [lr] at l1
    generalize enc 1 3 ++ (enc 4 v.toNat ++ (enc 4 hv.toNat ++ enc 1 n)) = x at *
    have d1 : decN ((x.drop 0).take 1) = 3 := by rw [l2, dec_enc (by decide)]
    have d2 : decN ((x.drop 1).take 4) = v.toNat := by rw [l3, dec_enc (ver_lt v)]
    have d3 : decN ((x.drop 5).take 4) = hv.toNat := by rw [l4, take_enc, dec_enc (ver_lt hv)]
    have d4 : decN ((x.drop 9).take 1) = n := by rw [l6, List.take_of_length_le (by rw [enc_len]; exact Nat.le_refl _), dec_enc (by show n < 256; omega)]
    constructor
    · unfold upF
      simp only [getS_ok (x := x) (a := 0) (k := 1) (by omega), d1]
      simp only [Nat.zero_add, getS_ok (x := x) (a := 1) (k := 4) (by omega), d2]
      simp only [Nat.reduceAdd, getS_ok (x := x) (a := 5) (k := 4) (by omega), d3]
      simp only [Nat.reduceAdd, getS_ok (x := x) (a := 9) (k := 1) (by omega), d4, ver_back, l1]
      simp
    · unfold rawF
      simp only [getZ_ok (x := x) (a := 0) (k := 1) (by omega), d1, getZ_ok (x := x) (a := 1) (k := 4) (by omega), d2, getZ_ok (x := x) (a := 5) (k := 4) (by omega), d3, getZ_ok (x := x) (a := 9) (k := 1) (by omega), d4, ver_back]
      simp

theorem enc_take (x : List (BitVec 8)) (k : Nat) (h : k ≤ x.length) : enc k (decN (x.take k)) = x.take k := by
  have := enc_decN (x.take k)
  rwa [List.length_take, Nat.min_eq_left h] at this
theorem dec_lt (x : List (BitVec 8)) (a k : Nat) (h : a + k ≤ x.length) : decN ((x.drop a).take k) < 256 ^ k := by
  have := decN_lt ((x.drop a).take k)
  rwa [List.length_take, List.length_drop, Nat.min_eq_left (by omega)] at this
theorem enc_mid (x : List (BitVec 8)) (a k : Nat) (h : a + k ≤ x.length) : enc k (decN ((x.drop a).take k)) ++ x.drop (a + k) = x.drop a := by
  rw [enc_take (x.drop a) k (by rw [List.length_drop]; omega), ← List.drop_drop, List.take_append_drop]

/-- what is read well is packed as it was -/
theorem body_up {x : List (BitVec 8)} (h : okUp x = true) : bodyF (upF x).1 = x := by
  unfold okUp at h
  rw [Bool.and_eq_true, decide_eq_true_iff] at h
  obtain ⟨⟨h1, h2⟩, h3⟩ := h
  have g1 : ∀ a k e, getS x (a, e) k = if a + k ≤ x.length then (decN ((x.drop a).take k), (a + k, e)) else (0, (a, 4)) := fun _ _ _ => rfl
  have b0 : 0 + 1 ≤ x.length ∧ 1 + 4 ≤ x.length := by
    unfold upF at h1
    by_cases c0 : 0 + 1 ≤ x.length
    · by_cases c1 : 1 + 4 ≤ x.length
      · exact ⟨c0, c1⟩
      · exfalso
        simp only [g1, if_pos c0, if_neg c1] at h1
        revert h1
        (repeat' split) <;> simp
    · exfalso
      have hx : x.length = 0 := by omega
      simp [upF, getS, hx] at h1
  obtain ⟨c0, c1⟩ := b0
  have eh : enc 1 (decN ((x.drop 0).take 1)) ++ (enc 4 (decN ((x.drop 1).take 4)) ++ x.drop 5) = x := by
    have e1 := enc_mid x 0 1 c0
    have e2 := enc_mid x 1 4 c1
    rw [List.drop_zero] at e1
    rw [e2, List.drop_zero]
    exact e1
  have lv := dec_lt x 1 4 c1
  unfold upF at h1 h2 h3 ⊢
  simp only [g1, if_pos c0] at h1 h2 h3 ⊢
  simp only [Nat.zero_add, g1, if_pos c1, Nat.reduceAdd] at h1 h2 h3 ⊢
  generalize hk : decN ((x.drop 0).take 1) = k at *
  generalize hv : decN ((x.drop 1).take 4) = v at *
  have hvn : (BitVec.ofNat 32 v).toNat = v := by rw [BitVec.toNat_ofNat]; exact Nat.mod_eq_of_lt lv
  by_cases k1 : k = 1
  · rw [if_pos k1] at h1 h2 h3 ⊢
    rw [k1] at eh
    by_cases c2 : 7 ≤ x.length
    · simp only [g1, Nat.reduceAdd, if_pos c2] at h1 h2 h3 ⊢
      have e3 := enc_mid x 5 2 c2
      rw [List.drop_of_length_le (show x.length ≤ 5 + 2 by omega), List.append_nil] at e3
      show enc 1 1 ++ (enc 4 (BitVec.ofNat 32 v).toNat ++ enc 2 (((decN ((x.drop 5).take 2) : Nat) : Int)).toNat) = x
      rw [hvn, Int.toNat_natCast, e3, eh]
    · simp only [g1, Nat.reduceAdd, if_neg c2] at h1
      omega
  · rw [if_neg k1] at h1 h2 h3 ⊢
    by_cases k2 : k = 2
    · rw [if_pos k2] at h1 h2 h3 ⊢
      rw [k2] at eh
      by_cases c2 : 6 ≤ x.length
      · simp only [g1, Nat.reduceAdd, if_pos c2] at h1 h3 ⊢
        have e3 := enc_mid x 5 1 c2
        show enc 1 2 ++ (enc 4 (BitVec.ofNat 32 v).toNat ++ (enc 1 (((decN ((x.drop 5).take 1) : Nat) : Int)).toNat ++ x.drop (5 + 1))) = x
        rw [hvn, Int.toNat_natCast, e3, eh]
      · simp only [g1, Nat.reduceAdd, if_neg c2] at h1
        omega
    · rw [if_neg k2] at h1 h2 h3 ⊢
      by_cases k3 : k = 3
      · rw [if_pos k3] at h1 h2 h3 ⊢
        rw [k3] at eh
        by_cases c2 : 9 ≤ x.length
        · by_cases c3 : 10 ≤ x.length
          · simp only [g1, Nat.reduceAdd, if_pos c2, if_pos c3] at h1 h2 h3 ⊢
            have e3 := enc_mid x 5 4 c2
            have e4 := enc_mid x 9 1 c3
            rw [List.drop_of_length_le (show x.length ≤ 9 + 1 by omega), List.append_nil] at e4
            have lh := dec_lt x 5 4 c2
            show enc 1 3 ++ (enc 4 (BitVec.ofNat 32 v).toNat ++ (enc 4 (BitVec.ofNat 32 (decN ((x.drop 5).take 4))).toNat ++ enc 1 (((decN ((x.drop 9).take 1) : Nat) : Int)).toNat)) = x
            rw [hvn, Int.toNat_natCast, BitVec.toNat_ofNat, Nat.mod_eq_of_lt lh, e4, e3, eh]
          · simp only [g1, Nat.reduceAdd, if_pos c2, if_neg c3] at h1
            omega
        · simp only [g1, Nat.reduceAdd, if_neg c2] at h1
          revert h1
          split <;> simp
      · rw [if_neg k3] at h3
        exfalso
        have h4 := of_decide_eq_true h3
        simp only at h4
        omega

theorem seal_inj {x y : List (BitVec 8)} (h : sealF x = sealF y) : x = y := by
  have hl : x.length = y.length := by
    have := congrArg List.length h
    rw [sealF_len, sealF_len] at this
    omega
  have h2 : (sealF x).take x.length = (sealF y).take x.length := by rw [h]
  unfold sealF at h2
  rwa [List.take_left, hl, List.take_left] at h2

/-- the reference's way to unpack -/
theorem unpack_ref (b : List (BitVec 8)) (h0 : (openF b).2 = 0) :
    unpackF b = if canP (rawF (openF b).1) = true ∧ sealF (bodyF (rawF (openF b).1)) = b then (rawF (openF b).1, 0) else (Pk.zero, 4) := by
  have hs : sealF (openF b).1 = b := by
    unfold openF at h0 ⊢
    by_cases h4 : b.length < 4
    · rw [if_pos h4] at h0; simp at h0
    · rw [if_neg h4] at h0 ⊢
      by_cases h5 : sumF (b.take (b.length - 4)) = BitVec.ofNat 32 (decN (b.drop (b.length - 4)))
      · rw [if_pos h5]; exact (seal_eq h4).2 h5
      · rw [if_neg h5] at h0; simp at h0
  unfold unpackF
  rw [if_pos h0]
  generalize (openF b).1 = x at *
  by_cases hk : okUp x = true
  · rw [if_pos hk]
    have hb := body_up hk
    have hc : canP (upF x).1 = true := by unfold okUp at hk; rw [Bool.and_eq_true] at hk; exact hk.2
    have hr := (up_body hc).2
    rw [hb] at hr
    rw [hr, if_pos ⟨hc, by rw [hb, hs]⟩]
  · rw [if_neg hk, if_neg]
    rintro ⟨hc, hsb⟩
    apply hk
    have hx : bodyF (rawF x) = x := seal_inj (hsb.trans hs.symm)
    have hu := (up_body hc).1
    rw [hx] at hu
    unfold okUp
    rw [hu]
    simp [hc]

/-- what is unpacked is packed as it was -/
theorem pack_unpack {b : List (BitVec 8)} (h : (unpackF b).2 = 0) : packF (unpackF b).1 = (b, 0) := by
  unfold unpackF at h ⊢
  by_cases h0 : (openF b).2 = 0
  · have hr := unpack_ref b h0
    rw [if_pos h0] at h ⊢
    by_cases hk : okUp (openF b).1 = true
    · rw [if_pos hk]
      have hc : canP (upF (openF b).1).1 = true := by unfold okUp at hk; rw [Bool.and_eq_true] at hk; exact hk.2
      have hb := body_up hk
      unfold unpackF at hr
      rw [if_pos h0, if_pos hk] at hr
      unfold packF
      rw [if_pos hc, hb]
      by_cases hq : canP (rawF (openF b).1) = true ∧ sealF (bodyF (rawF (openF b).1)) = b
      · rw [if_pos hq] at hr
        have e : (upF (openF b).1).1 = rawF (openF b).1 := congrArg Prod.fst hr
        rw [← hb, e, hq.2]
      · rw [if_neg hq] at hr
        have : (0 : Int) = 4 := congrArg Prod.snd hr
        omega
    · rw [if_neg hk] at h
      have : (4 : Int) = 0 := h
      omega
  · rw [if_neg h0] at h
    exact absurd h h0

/-- what was packed is unpacked as it was -/
theorem unpack_pack {p : Pk} (h : canP p = true) : unpackF (sealF (bodyF p)) = (p, 0) := by
  unfold unpackF
  rw [open_seal, if_pos rfl]
  have hu := (up_body h).1
  have hk : okUp (bodyF p) = true := by
    unfold okUp
    rw [hu]
    simp [h]
  rw [if_pos hk, hu]

end Go.Proofs.Ytgipackjnncabaa
