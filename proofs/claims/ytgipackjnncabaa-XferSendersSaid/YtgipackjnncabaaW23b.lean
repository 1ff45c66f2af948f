/- Walks of layer 23, second part: packets packed. -/
import Derived.Test.YtgipackjnncabaaW23a
set_option linter.unusedVariables false
namespace Go.Proofs.Ytgipackjnncabaa
open Go.Vc Go.RowKit

/-- a box that holds a slice of bytes of the call's own -/
def BoxAt (w : World) (bx B : Nat) (l : List (BitVec 8)) : Prop := ∃ a c, Blk w bx 22 [.slice a l.length c] ∧ Own 5 u8v B w a c l ∧ blockOf a ≠ some bx ∧ B ≤ bx

theorem put_ok {b : List (BitVec 8)} {k n : Nat} (h1 : 1 ≤ k) (h2 : k ≤ 8) (hn : n < 256 ^ k) : putF b k n = (b ++ enc k n, 0) := by
  unfold putF
  rw [if_neg (by omega), if_neg (by rw [Int.toNat_natCast]; omega), Int.toNat_natCast]

/-- the inner function of Pack -/
theorem putc_calls {w : World} {bx B : Nat} {l : List (BitVec 8)} (h : BoxAt w bx B l) (hl : l.length ≤ 16777216) (k n : Nat) (h1 : 1 ≤ k) (h2 : k ≤ 8) (hn : n < 256 ^ k) :
    Calls Try.prog 160 #[.int .i64 k, .int .u64 n, .pointer (some ⟨bx, 0, none⟩)] w (Ret fun v w' => v = .tuple #[] ∧ BoxAt w' bx B (l ++ enc k n) ∧ Gr w w' (some bx)) := by
  obtain ⟨a, c, hb, ho, hne, hB⟩ := h
  have hn64 : n < 2 ^ 64 := Nat.lt_of_lt_of_le hn (Nat.pow_le_pow_right (n := 256) (by decide) h2)
  refine calls_of_vc lok Try.func160 ?_ rfl
  conv => whnf
  refine ⟨_, hb.cell0 rfl, ?_⟩
  conv => whnf
  have gq := put_calls (c := c) ho.sl hl k n hn64
  rw [put_ok h1 h2 hn] at gq
  refine Calls.ret (gq) ?_
  rintro _ w1 ⟨a1, c1, rfl, ho1, x1⟩
  conv => whnf
  have hb1 := hb.ext x1
  refine ⟨hb1.can 0 (by simp) _ rfl, fun w2 hw2 => ?_⟩
  have hb2 : Blk w2 bx 22 [.slice a1 (l ++ enc k n).length c1] := by rw [hw2]; exact hb1.set 0 _
  have g2 := gr_of_set hw2
  have hlt := hb.lt
  have ho2 : Own 5 u8v w.heap.size w2 a1 c1 (l ++ enc k n) := g2.keepOwn ho1 (fun g hg e => by cases e; have := (ho1.ge _ hg).1; omega)
  exact ⟨rfl, ⟨a1, c1, hb2, ho2.base (by omega), fun e => by have := (ho1.ge bx e).1; omega, hB⟩, (Gr.ofExt x1 _).step g2 (.inl rfl)⟩

theorem wu64n {n : Nat} (h : n < 18446744073709551616) : IntKind.u64.wrap (n : Int) = (n : Int) := by rw [wu64]; omega

/-- Pack -/
theorem pack_calls {w : World} (p : Pk) {a : Option Addr} {c : Nat} (hd : Sl u8v w a p.data) :
    Calls Try.prog 104 #[.agg (p.cells a c).toArray] w (Ret (PutPost (packF p) w)) := by
  refine calls_of_vc lok Try.func104 ?_ rfl
  conv => whnf
  intro w1 hw1
  have hb1 : Blk w1 w.heap.size 112 (p.cells a c) := by rw [hw1]; exact Blk.new w 112 _
  have x1 : Ext w w1 := by rw [hw1]; exact Ext.new _ _
  clear hw1
  conv => whnf
  refine ⟨p.cells a c, rfl, hb1.cells, ?_⟩
  conv => whnf
  refine Calls.ret (right_calls p a c) ?_
  rintro _ w2 ⟨rfl, x2⟩
  conv => whnf
  cases hc : canP p with
  | false =>
    have e : packF p = ([], 1) := if_neg (by rw [hc]; decide)
    rw [e]
    conv => whnf
    refine vcCond_true lok (rfl) ?_
    conv => whnf
    exact ⟨none, 0, rfl, Own.nil _ _ _ _, x1.trans x2⟩
  | true =>
    have e : packF p = (sealF (bodyF p), 0) := if_pos hc
    rw [e]
    conv => whnf
    refine vcCond_false lok (rfl) ?_
    conv => whnf
    have hb2 := hb1.ext x2
    have hlt := hb2.lt
    intro w3 hw3
    have hb3 : Blk w3 w2.heap.size 22 [.slice none 0 0] := by rw [hw3]; exact Blk.new w2 22 _
    have x3 : Ext w2 w3 := by rw [hw3]; exact Ext.new _ _
    clear hw3
    have x03 := (x1.trans x2).trans x3
    have z1 := x1.size
    have z2 := x2.size
    have hbp3 := hb2.ext x3
    have hd3 := hd.ext x03
    have bx0 : BoxAt w3 w2.heap.size w2.heap.size [] := ⟨none, 0, hb3, Own.nil _ _ _ _, (fun e => by cases e), Nat.le_refl _⟩
    generalize hbx : w2.heap.size = bx at *
    generalize hbp : w.heap.size = bp at *
    have keep : ∀ {u u' : World}, Gr u u' (some bx) → Blk u bp 112 (p.cells a c) → Blk u' bp 112 (p.cells a c) := fun g hb => hb.keep (g.block bp hb.lt (fun e => by cases e; omega))
    have vlt := p.ver.isLt
    have hvl := p.hav.isLt
    conv => whnf
    refine ⟨_, hbp3.cell0 rfl, ?_⟩
    conv => whnf
    have hcc := canP_cases hc
    rcases hcc with ⟨hp, n, hn, hn1, hn2⟩ | ⟨hp, ⟨n, hn, hn2⟩, hd1, hd2⟩ | ⟨hp, n, hn, hn2⟩
    · have hk : p.kind = 1 := by rw [hp]
      rw [hk]
      intro z hz
      have hz14 : z = ((1 : Nat) : Int) := by rw [hz, wu64]; rfl
      clear hz
      subst hz14
      conv => whnf
      refine Calls.ret (putc_calls bx0 (by decide) 1 1 (by decide) (by decide) (by decide)) ?_
      rintro _ w4 ⟨rfl, bx4, g4⟩
      conv => whnf
      have hbp4 := keep g4 hbp3
      refine ⟨_, hbp4.cell (i := 1) rfl, ?_⟩
      conv => whnf
      intro z hz
      replace hz := hz.trans (wu64n (n := p.ver.toNat) (by omega))
      subst hz
      conv => whnf
      refine Calls.ret (putc_calls bx4 (by simp [enc_len]) 4 p.ver.toNat (by decide) (by decide) (ver_lt _)) ?_
      rintro _ w5 ⟨rfl, bx5, g5⟩
      conv => whnf
      have hbp5 := keep g5 hbp4
      refine ⟨_, hbp5.cell0 rfl, ?_⟩
      rw [hk]
      conv => whnf
      refine vcCond_true lok (rfl) ?_
      conv => whnf
      refine ⟨_, hbp5.cell (i := 2) rfl, ?_⟩
      rw [hn]
      conv => whnf
      intro z hz
      replace hz := hz.trans (wu64n (n := n) (by omega))
      subst hz
      conv => whnf
      refine Calls.ret (putc_calls bx5 (by simp [enc_len]) 2 n (by decide) (by decide) (by show n < 65536; omega)) ?_
      rintro _ w6 ⟨rfl, bx6, g6⟩
      conv => whnf
      have g36 : Gr w3 w6 (some bx) := (g4.step g5 (.inl rfl)).step g6 (.inl rfl)
      have x6 : Ext w w6 := g36.extOf x03 (fun g hg => by cases hg; omega)
      obtain ⟨a6, c6, hb6, ho6, _, _⟩ := bx6
      refine ⟨_, hb6.cell0 rfl, ?_⟩
      conv => whnf
      refine Calls.ret (seal_calls ho6.sl (by simp [enc_len])) ?_
      rintro _ w7 ⟨a7, c7, rfl, ho7, x7⟩
      conv => whnf
      have eb : [] ++ enc 1 1 ++ enc 4 p.ver.toNat ++ enc 2 n = bodyF p := by rw [hp, hn]; simp [bodyF]
      rw [eb] at ho7 ⊢
      exact ⟨a7, c7, rfl, ho7.base x6.size, x6.trans x7⟩
    · have hk : p.kind = 2 := by rw [hp]
      rw [hk]
      intro z hz
      have hz26 : z = ((2 : Nat) : Int) := by rw [hz, wu64]; rfl
      clear hz
      subst hz26
      conv => whnf
      refine Calls.ret (putc_calls bx0 (by decide) 1 2 (by decide) (by decide) (by decide)) ?_
      rintro _ w4 ⟨rfl, bx4, g4⟩
      conv => whnf
      have hbp4 := keep g4 hbp3
      refine ⟨_, hbp4.cell (i := 1) rfl, ?_⟩
      conv => whnf
      intro z hz
      replace hz := hz.trans (wu64n (n := p.ver.toNat) (by omega))
      subst hz
      conv => whnf
      refine Calls.ret (putc_calls bx4 (by simp [enc_len]) 4 p.ver.toNat (by decide) (by decide) (ver_lt _)) ?_
      rintro _ w5 ⟨rfl, bx5, g5⟩
      conv => whnf
      have hbp5 := keep g5 hbp4
      refine ⟨_, hbp5.cell0 rfl, ?_⟩
      rw [hk]
      conv => whnf
      refine vcCond_false lok (rfl) ?_
      conv => whnf
      refine vcCond_true lok (rfl) ?_
      conv => whnf
      refine ⟨_, hbp5.cell (i := 3) rfl, ?_⟩
      rw [hn]
      conv => whnf
      intro z hz
      replace hz := hz.trans (wu64n (n := n) (by omega))
      subst hz
      conv => whnf
      refine Calls.ret (putc_calls bx5 (by simp [enc_len]) 1 n (by decide) (by decide) (by show n < 256; omega)) ?_
      rintro _ w6 ⟨rfl, bx6, g6⟩
      conv => whnf
      have hbp6 := keep g6 hbp5
      have g36 : Gr w3 w6 (some bx) := (g4.step g5 (.inl rfl)).step g6 (.inl rfl)
      have x6 : Ext w w6 := g36.extOf x03 (fun g hg => by cases hg; omega)
      obtain ⟨a6, c6, hb6, ho6, hne6, _⟩ := bx6
      refine ⟨_, hb6.cell0 rfl, ?_⟩
      conv => whnf
      refine ⟨_, hbp6.cell (i := 6) rfl, ?_⟩
      conv => whnf
      have z6 := hb6.lt
      have k7 := ho6.append (ty := 22) (d := c) e8.toElem (fun _ => rfl) (hd.ext x6) (by simp [enc_len]; omega) (by omega)
      obtain ⟨a7, c7, w7, hr7, ho7, hg7, hbl7⟩ := k7
      refine ⟨_, _, hr7, ?_⟩
      have x7 : Ext w w7 := hg7.extOf x6 (fun g hg => by have := (ho6.ge g hg).1; omega)
      have hb7 : Blk w7 bx 22 [.slice a6 ([] ++ enc 1 2 ++ enc 4 p.ver.toNat ++ enc 1 n).length c6] := hb6.keep (hg7.block bx z6 (fun e => hne6 e.symm))
      conv => whnf
      refine ⟨hb7.can 0 (by simp) _ rfl, fun w8 hw8 => ?_⟩
      have hb8 : Blk w8 bx 22 [.slice a7 ([] ++ enc 1 2 ++ enc 4 p.ver.toNat ++ enc 1 n ++ p.data).length c7] := by rw [hw8]; exact hb7.set 0 _
      have g8 := gr_of_set hw8
      have x8 : Ext w w8 := g8.extOf x7 (fun g hg => by cases hg; omega)
      have ho8 : Own 5 u8v bx w8 a7 c7 ([] ++ enc 1 2 ++ enc 4 p.ver.toNat ++ enc 1 n ++ p.data) := g8.keepOwn ho7 (fun g hg e => by
        cases e
        rcases hbl7 with h | h
        · exact hne6 (h.symm.trans hg)
        · rw [hg] at h; cases h; omega)
      clear hw8
      conv => whnf
      refine ⟨_, hb8.cell0 rfl, ?_⟩
      conv => whnf
      refine Calls.ret (seal_calls ho8.sl (by simp [enc_len]; omega)) ?_
      rintro _ w9 ⟨a9, c9, rfl, ho9, x9⟩
      conv => whnf
      have eb : [] ++ enc 1 2 ++ enc 4 p.ver.toNat ++ enc 1 n ++ p.data = bodyF p := by
        have e1 : bodyF p = enc 1 2 ++ (enc 4 p.ver.toNat ++ (enc 1 n ++ p.data)) := by unfold bodyF; rw [hk, hn]; rfl
        rw [e1]; simp
      rw [eb] at ho9 ⊢
      exact ⟨a9, c9, rfl, ho9.base x8.size, x8.trans x9⟩
    · have hk : p.kind = 3 := by rw [hp]
      rw [hk]
      intro z hz
      have hz43 : z = ((3 : Nat) : Int) := by rw [hz, wu64]; rfl
      clear hz
      subst hz43
      conv => whnf
      refine Calls.ret (putc_calls bx0 (by decide) 1 3 (by decide) (by decide) (by decide)) ?_
      rintro _ w4 ⟨rfl, bx4, g4⟩
      conv => whnf
      have hbp4 := keep g4 hbp3
      refine ⟨_, hbp4.cell (i := 1) rfl, ?_⟩
      conv => whnf
      intro z hz
      replace hz := hz.trans (wu64n (n := p.ver.toNat) (by omega))
      subst hz
      conv => whnf
      refine Calls.ret (putc_calls bx4 (by simp [enc_len]) 4 p.ver.toNat (by decide) (by decide) (ver_lt _)) ?_
      rintro _ w5 ⟨rfl, bx5, g5⟩
      conv => whnf
      have hbp5 := keep g5 hbp4
      refine ⟨_, hbp5.cell0 rfl, ?_⟩
      rw [hk]
      conv => whnf
      refine vcCond_false lok (rfl) ?_
      conv => whnf
      refine vcCond_false lok (rfl) ?_
      conv => whnf
      refine vcCond_true lok (rfl) ?_
      conv => whnf
      refine ⟨_, hbp5.cell (i := 5) rfl, ?_⟩
      conv => whnf
      intro z hz
      replace hz := hz.trans (wu64n (n := p.hav.toNat) (by omega))
      subst hz
      conv => whnf
      refine Calls.ret (putc_calls bx5 (by simp [enc_len]) 4 p.hav.toNat (by decide) (by decide) (ver_lt _)) ?_
      rintro _ w6 ⟨rfl, bx6, g6⟩
      conv => whnf
      have hbp6 := keep g6 hbp5
      refine ⟨_, hbp6.cell (i := 4) rfl, ?_⟩
      rw [hn]
      conv => whnf
      intro z hz
      replace hz := hz.trans (wu64n (n := n) (by omega))
      subst hz
      conv => whnf
      refine Calls.ret (putc_calls bx6 (by simp [enc_len]) 1 n (by decide) (by decide) (by show n < 256; omega)) ?_
      rintro _ w7 ⟨rfl, bx7, g7⟩
      conv => whnf
      have g37 : Gr w3 w7 (some bx) := ((g4.step g5 (.inl rfl)).step g6 (.inl rfl)).step g7 (.inl rfl)
      have x7 : Ext w w7 := g37.extOf x03 (fun g hg => by cases hg; omega)
      obtain ⟨a7, c7, hb7, ho7, _, _⟩ := bx7
      refine ⟨_, hb7.cell0 rfl, ?_⟩
      conv => whnf
      refine Calls.ret (seal_calls ho7.sl (by simp [enc_len])) ?_
      rintro _ w8 ⟨a8, c8, rfl, ho8, x8⟩
      conv => whnf
      have eb : [] ++ enc 1 3 ++ enc 4 p.ver.toNat ++ enc 4 p.hav.toNat ++ enc 1 n = bodyF p := by
        have e1 : bodyF p = enc 1 3 ++ (enc 4 p.ver.toNat ++ (enc 4 p.hav.toNat ++ enc 1 n)) := by unfold bodyF; rw [hk, hn]; rfl
        rw [e1]; simp
      rw [eb] at ho8 ⊢
      exact ⟨a8, c8, rfl, ho8.base x7.size, x7.trans x8⟩

/-- the reference's put -/
theorem rputp_calls {w : World} {a : Option Addr} {c : Nat} {l : List (BitVec 8)} (h : Sl u8v w a l) (hl : l.length ≤ 16777216) (k n : Nat) (h1 : 1 ≤ k) (h2 : k ≤ 8) (hn : n < 256 ^ k) :
    Calls Try.prog 162 #[.slice a l.length c, .int .i64 k, .int .u64 n] w (Ret (BytesPost (l ++ enc k n) w)) := by
  have hn64 : n < 2 ^ 64 := Nat.lt_of_lt_of_le hn (Nat.pow_le_pow_right (n := 256) (by decide) h2)
  refine calls_of_vc lok Try.func162 ?_ rfl
  conv => whnf
  have g := rput_calls (c := c) h hl k n hn64
  rw [put_ok h1 h2 hn] at g
  refine Calls.ret (g) ?_
  rintro _ w1 ⟨a1, c1, rfl, ho1, x1⟩
  conv => whnf
  exact ⟨a1, c1, rfl, ho1, x1⟩

/-- the reference's Pack -/
theorem rpack_calls {w : World} (p : Pk) {a : Option Addr} {c : Nat} (hd : Sl u8v w a p.data) :
    Calls Try.prog 106 #[.agg (p.cells a c).toArray] w (Ret (PutPost (packF p) w)) := by
  refine calls_of_vc lok Try.func106 ?_ rfl
  conv => whnf
  intro w1 hw1
  have hb1 : Blk w1 w.heap.size 70 (p.cells a c) := by rw [hw1]; exact Blk.new w 70 _
  have x1 : Ext w w1 := by rw [hw1]; exact Ext.new _ _
  clear hw1
  conv => whnf
  refine ⟨p.cells a c, rfl, hb1.cells, ?_⟩
  conv => whnf
  refine Calls.ret (can_calls p a c) ?_
  rintro _ w2 ⟨rfl, x2⟩
  conv => whnf
  cases hc : canP p with
  | false =>
    have e : packF p = ([], 1) := if_neg (by rw [hc]; decide)
    rw [e]
    conv => whnf
    refine vcCond_true lok (rfl) ?_
    conv => whnf
    exact ⟨none, 0, rfl, Own.nil _ _ _ _, x1.trans x2⟩
  | true =>
    have e : packF p = (sealF (bodyF p), 0) := if_pos hc
    rw [e]
    conv => whnf
    refine vcCond_false lok (rfl) ?_
    conv => whnf
    have hb2 := hb1.ext x2
    have x02 := x1.trans x2
    have vlt := p.ver.isLt
    have hvl := p.hav.isLt
    have hkn : ∃ k : Nat, p.kind = k ∧ k < 256 := by
      have hcc := canP_cases hc
      rcases hcc with ⟨hp, _⟩ | ⟨hp, _⟩ | ⟨hp, _⟩
      · exact ⟨1, by rw [hp]; rfl, by decide⟩
      · exact ⟨2, by rw [hp]; rfl, by decide⟩
      · exact ⟨3, by rw [hp]; rfl, by decide⟩
    obtain ⟨k, hk, hk256⟩ := hkn
    refine vcDraw_meet lok mixed (Ext w2) [3] [0, 1, 2, 4, 5, 6, 3, 7, 8]
      (fun t : Option Addr × Nat => [(4, .slice t.1 (enc 1 k ++ enc 4 p.ver.toNat).length t.2)]) (fun t w' => Own 5 u8v w2.heap.size w' t.1 t.2 (enc 1 k ++ enc 4 p.ver.toNat) ∧ Ext w2 w') [4] (fun _ => rfl) rfl (by kernel_rfl) (fun w3 hw3 => ⟨hw3 ▸ Ext.drew w2, ?_⟩) ?_
    · have x3 : Ext w2 w3 := hw3 ▸ Ext.drew w2
      conv => whnf
      refine ⟨_, fun w' hw' => (hb2.ext hw').cell0 rfl, ?_⟩
      rw [hk]
      conv => whnf
      intro z hz
      replace hz := hz.trans (wu64n (n := k) (by omega))
      subst hz
      conv => whnf
      refine ⟨_, fun w' hw' => (hb2.ext hw').cell (i := 1) rfl, ?_⟩
      conv => whnf
      intro z hz
      replace hz := hz.trans (wu64n (n := p.ver.toNat) (by omega))
      subst hz
      conv => whnf
      refine Calls.ret (rputp_calls (c := 0) (Sl.nil u8v w3 none) (by decide) 1 k (by decide) (by decide) (by show k < 256; omega)) ?_
      rintro _ w4 ⟨a4, c4, rfl, ho4, x4⟩
      conv => whnf
      rw [List.nil_append] at ho4 ⊢
      refine ⟨_, fun _ h => h, x3.trans x4, ?_⟩
      conv => whnf
      refine Calls.ret (rputp_calls ho4.sl (by simp [enc_len]) 4 p.ver.toNat (by decide) (by decide) (ver_lt _)) ?_
      rintro _ w5 ⟨a5, c5, rfl, ho5, x5⟩
      conv => whnf
      exact ⟨(a5, c5), ⟨rfl, trivial⟩, ho5.base (x3.trans x4).size, (x3.trans x4).trans x5⟩
    rintro ⟨a3, c3⟩ w3 ⟨ho3, x3⟩
    have hb3 := hb2.ext x3
    have x03 := x02.trans x3
    conv => whnf
    refine ⟨_, hb3.cell0 rfl, ?_⟩
    rw [hk]
    conv => whnf
    have hcc := canP_cases hc
    rcases hcc with ⟨hp, n, hn, hn1, hn2⟩ | ⟨hp, ⟨n, hn, hn2⟩, hd1, hd2⟩ | ⟨hp, n, hn, hn2⟩
    · have hk1 : k = 1 := by rw [hp] at hk; have : (1 : Int) = (k : Int) := hk; omega
      subst hk1
      refine vcCond_true lok (rfl) ?_
      conv => whnf
      refine ⟨_, hb3.cell (i := 2) rfl, ?_⟩
      rw [hn]
      conv => whnf
      intro z hz
      replace hz := hz.trans (wu64n (n := n) (by omega))
      subst hz
      conv => whnf
      refine Calls.ret (rputp_calls ho3.sl (by simp [enc_len]) 2 n (by decide) (by decide) (by show n < 65536; omega)) ?_
      rintro _ w6 ⟨a6, c6, rfl, ho6, x6⟩
      conv => whnf
      refine Calls.ret (rseal_calls ho6.sl (by simp [enc_len])) ?_
      rintro _ w7 ⟨a7, c7, rfl, ho7, x7⟩
      conv => whnf
      have eb : enc 1 1 ++ enc 4 p.ver.toNat ++ enc 2 n = bodyF p := by
        have e1 : bodyF p = enc 1 1 ++ (enc 4 p.ver.toNat ++ enc 2 n) := by unfold bodyF; rw [hk, hn]; rfl
        rw [e1]; simp
      rw [eb] at ho7 ⊢
      exact ⟨a7, c7, rfl, ho7.base (x03.trans x6).size, (x03.trans x6).trans x7⟩
    · have hk1 : k = 2 := by rw [hp] at hk; have : (2 : Int) = (k : Int) := hk; omega
      subst hk1
      refine vcCond_false lok (rfl) ?_
      conv => whnf
      refine vcCond_true lok (rfl) ?_
      conv => whnf
      refine ⟨_, hb3.cell (i := 3) rfl, ?_⟩
      rw [hn]
      conv => whnf
      intro z hz
      replace hz := hz.trans (wu64n (n := n) (by omega))
      subst hz
      conv => whnf
      refine Calls.ret (rputp_calls ho3.sl (by simp [enc_len]) 1 n (by decide) (by decide) (by show n < 256; omega)) ?_
      rintro _ w6 ⟨a6, c6, rfl, ho6, x6⟩
      conv => whnf
      refine ⟨_, (hb3.ext x6).cell (i := 6) rfl, ?_⟩
      conv => whnf
      have k7 := ho6.append (ty := 22) (d := c) e8.toElem (fun _ => rfl) (hd.ext (x03.trans x6)) (by simp [enc_len]; omega) x6.size
      obtain ⟨a7, c7, w7, hr7, ho7, hg7, _⟩ := k7
      refine ⟨_, _, hr7, ?_⟩
      have x7 : Ext w3 w7 := hg7.extOf x6 (fun g hg => (ho6.ge g hg).1)
      conv => whnf
      refine Calls.ret (rseal_calls ho7.sl (by simp [enc_len]; omega)) ?_
      rintro _ w8 ⟨a8, c8, rfl, ho8, x8⟩
      conv => whnf
      have eb : enc 1 2 ++ enc 4 p.ver.toNat ++ enc 1 n ++ p.data = bodyF p := by
        have e1 : bodyF p = enc 1 2 ++ (enc 4 p.ver.toNat ++ (enc 1 n ++ p.data)) := by unfold bodyF; rw [hk, hn]; rfl
        rw [e1]; simp
      rw [eb] at ho8 ⊢
      exact ⟨a8, c8, rfl, ho8.base (x03.trans x7).size, (x03.trans x7).trans x8⟩
    · have hk1 : k = 3 := by rw [hp] at hk; have : (3 : Int) = (k : Int) := hk; omega
      subst hk1
      refine vcCond_false lok (rfl) ?_
      conv => whnf
      refine vcCond_false lok (rfl) ?_
      conv => whnf
      refine vcCond_true lok (rfl) ?_
      conv => whnf
      refine vcDraw_meet lok mixed (Ext w3) [4] [0, 1, 2, 3, 5, 6, 7, 4, 8, 9]
        (fun t : Option Addr × Nat => [(4, .slice t.1 (bodyF p).length t.2)]) (fun t w' => Own 5 u8v w3.heap.size w' t.1 t.2 (bodyF p) ∧ Ext w3 w') [4] (fun _ => rfl) rfl (by kernel_rfl) (fun w4 hw4 => ⟨hw4 ▸ Ext.drew w3, ?_⟩) ?_
      · have x4 : Ext w3 w4 := hw4 ▸ Ext.drew w3
        conv => whnf
        refine ⟨_, fun w' hw' => (hb3.ext hw').cell (i := 5) rfl, ?_⟩
        conv => whnf
        intro z hz
        replace hz := hz.trans (wu64n (n := p.hav.toNat) (by omega))
        subst hz
        conv => whnf
        refine ⟨_, fun w' hw' => (hb3.ext hw').cell (i := 4) rfl, ?_⟩
        rw [hn]
        conv => whnf
        intro z hz
        replace hz := hz.trans (wu64n (n := n) (by omega))
        subst hz
        conv => whnf
        refine Calls.ret (rputp_calls (ho3.ext x4).sl (by simp [enc_len]) 4 p.hav.toNat (by decide) (by decide) (ver_lt _)) ?_
        rintro _ w6 ⟨a6, c6, rfl, ho6, x6⟩
        conv => whnf
        refine ⟨_, fun _ h => h, x4.trans x6, ?_⟩
        conv => whnf
        refine Calls.ret (rputp_calls ho6.sl (by simp [enc_len]) 1 n (by decide) (by decide) (by show n < 256; omega)) ?_
        rintro _ w7 ⟨a7, c7, rfl, ho7, x7⟩
        conv => whnf
        have eb : enc 1 3 ++ enc 4 p.ver.toNat ++ enc 4 p.hav.toNat ++ enc 1 n = bodyF p := by
          have e1 : bodyF p = enc 1 3 ++ (enc 4 p.ver.toNat ++ (enc 4 p.hav.toNat ++ enc 1 n)) := by unfold bodyF; rw [hk, hn]; rfl
          rw [e1]; simp
        rw [eb] at ho7 ⊢
        exact ⟨(a7, c7), ⟨rfl, trivial⟩, ho7.base (x4.trans x6).size, (x4.trans x6).trans x7⟩
      rintro ⟨a4, c4⟩ w4 ⟨ho4, x4⟩
      have lb : (bodyF p).length ≤ 100 := by
        have e1 : bodyF p = enc 1 3 ++ (enc 4 p.ver.toNat ++ (enc 4 p.hav.toNat ++ enc 1 n)) := by unfold bodyF; rw [hk, hn]; rfl
        rw [e1]; simp [enc_len]
      conv => whnf
      refine Calls.ret (rseal_calls ho4.sl (by omega)) ?_
      rintro _ w8 ⟨a8, c8, rfl, ho8, x8⟩
      conv => whnf
      exact ⟨a8, c8, rfl, ho8.base (x03.trans x4).size, (x03.trans x4).trans x8⟩
end Go.Proofs.Ytgipackjnncabaa
