/- Walks of layer 7, fourth part: a record is appended. -/
import Derived.Test.YtgipackjnncabaaW07c
set_option linter.unusedVariables false
namespace Go.Proofs.Ytgipackjnncabaa
open Go.Vc Go.RowKit

/-- what an Append writes -/
abbrev JMod (g gw p : Nat) : World → World → Prop := Mod fun k => k = g ∨ k = gw ∨ k = p
/-- what is asked of a journal's numbers -/
structure JSok (j : JS) (s : FS) : Prop where
  sec : 256 * (j.sec + 2) ≤ s.ws.length
  cur : j.cur ≤ 1
  end_ : j.end_ ≤ 256
  num : j.num.toNat ≤ 2147483647
  words : j.words.length ≤ 64

theorem jop_sec (ws : List (BitVec 32)) (n : Nat) : (jopF ws n).sec = n := by unfold jopF; split <;> rfl
theorem jop_dead (ws : List (BitVec 32)) (n : Nat) : (jopF ws n).dead = false := by unfold jopF; split <;> rfl

/-- a journal that is opened keeps to bounds -/
theorem jop_ok {s : FS} {n : Nat} (h : 256 * (n + 2) ≤ s.ws.length) : JSok (jopF s.ws n) s := by
  obtain ⟨h1, h2, _⟩ := open_cur s.ws n
  have hk := tell_ok (secF s.ws (n + (jopF s.ws n).cur))
  have hl : (secF s.ws (n + (jopF s.ws n).cur)).length = 256 := secF_len (by omega)
  have hs := jop_sec s.ws n
  have e1 := congrArg JS.end_ h2
  have e2 := congrArg JS.num h2
  have e3 := congrArg JS.words h2
  clear h2
  generalize jopF s.ws n = j at *
  rw [hl] at hk
  refine ⟨by rw [hs]; exact h, h1, ?_, ?_, ?_⟩
  · rw [e1]; exact hk.1
  · rw [e2]; exact hk.2.1
  · rw [e3]; exact hk.2.2.1

theorem Num.progAll {n : Nat} : ∀ (xs : List (BitVec 32)) (s : FS) (i : Nat) (a : Int), Num s n i → Num (progAllF s a xs).1 n (i + xs.length)
  | [], s, i, a, h => h
  | x :: xs, s, i, a, h => by
    have k := h.prog a x
    rw [List.length_cons]
    unfold progAllF
    split
    · exact (Num.progAll xs _ (i + 1) (a + 1) k).up (by omega)
    · exact k.up (by omega)
theorem jput_sec (j : JS) (s : FS) (c e : Nat) (rec : List (BitVec 32)) : (jputF j s c e rec).1.sec = j.sec := by unfold jputF; split <;> rfl
theorem append_sec (j : JS) (s : FS) (rec : List (BitVec 32)) : (appendF j s rec).1.sec = j.sec := by
  unfold appendF
  split
  · rfl
  · split
    · rfl
    · split
      · exact jput_sec _ _ _ _ _
      · split
        · exact jput_sec _ _ _ _ _
        · rfl
theorem jput_num {n i : Nat} {j : JS} {s : FS} {c e : Nat} {rec : List (BitVec 32)} (h : Num s n i) : Num (jputF j s c e rec).2.1 n (i + (rec.length + 4)) := by
  have k := Num.progAll (laidF (j.num + 1#32) rec) s i (((j.sec + c) * 256 + e : Nat) : Int) h
  rw [laidF_len] at k
  unfold jputF
  split <;> exact k
theorem append_num {n i : Nat} {j : JS} {s : FS} {rec : List (BitVec 32)} (h : Num s n i) : Num (appendF j s rec).2.1 n (i + 69) := by
  unfold appendF
  split
  · exact h.up (by omega)
  · split
    · exact h.up (by omega)
    · rename_i hr
      split
      · exact (jput_num h).up (by omega)
      · split
        · exact (jput_num (h.erase _)).up (by omega)
        · exact (h.erase _).up (by omega)

set_option maxHeartbeats 4000000 in
theorem jappend_calls {N : Nat → Prop} {B : Nat} {w : World} {p g gw c i : Nat} {s : FS} {j : JS} (f : FlAt 181 B w g gw c s) (h : JAt N B w p g j) (hg : N g) (hgw : N gw) (n1 : p ≠ g) (n2 : p ≠ gw)
    (jok : JSok j s) (hl : s.ws.length ≤ 65536) (hop : Num s s.ws.length i) (hi : i ≤ 2305843009213693952) {ra : Option Addr} {rc : Nat} {rec : List (BitVec 32)} (hr : ∀ w', JMod g gw p w w' → Sl u32v w' ra rec) (hrl : rec.length ≤ 9223372036854775807) :
    Calls Try.prog 113 #[.pointer (some ⟨p, 0, none⟩), .slice ra rec.length rc] w
      (Ret fun v w' => v = .int .i64 (appendF j s rec).2.2 ∧ FlAt 181 B w' g gw c (appendF j s rec).2.1 ∧ JAt N B w' p g (appendF j s rec).1 ∧ JMod g gw p w w') := by
  have jsec := jok.sec
  have jcur := jok.cur
  have jend := jok.end_
  have jnum := jok.num
  have jwl := jok.words
  obtain ⟨⟨ja, jc, hb, ho, hfar⟩, hlo, hnt, hself⟩ := h
  have S1 : ∀ k, some p = some k → (k = g ∨ k = gw ∨ k = p) := fun k hk => .inr (.inr (Option.some.inj hk).symm)
  have hSN : ∀ k, (k = g ∨ k = gw ∨ k = p) → N k := fun k hk => by rcases hk with rfl | rfl | rfl <;> assumption
  -- the journal met that the power is off
  have kill : ∀ w1 w2, JMod g gw p w w1 → Blk w1 p 128 (j.cells g ja jc) → w2 = w1.setCell ⟨p, 0 + 7, none⟩ (.bool true) → JAt N B w2 p g j.kill ∧ JMod g gw p w1 w2 := by
    intro w1 w2 m1 b1 hw2
    have g2 := gr_of_set hw2
    have m2 : JMod g gw p w1 w2 := Mod.ofGr g2 S1
    have m := m1.trans m2
    refine ⟨⟨⟨ja, jc, ?_, m.keepOwn ho fun k hk q => hfar k hk (hSN k q), hfar⟩, hlo, fun k hk => Nat.lt_of_lt_of_le (hnt k hk) m.size, hself⟩, m2⟩
    rw [hw2]; exact b1.set 7 _
  have offKeep : ∀ w1 w2 t, FlAt 181 B w1 g gw c t → w2 = w1.setCell ⟨p, 0 + 7, none⟩ (.bool true) → FlAt 181 B w2 g gw c t := by
    intro w1 w2 t f1 hw2
    exact f1.keep (S := fun k => k = p) (Mod.ofGr (gr_of_set hw2) fun k hk => (Option.some.inj hk).symm) n1.symm n2.symm
  refine calls_of_vc lok Try.func113 ?_ rfl
  conv => whnf
  refine vcReg_go lok ?_
  conv => whnf
  refine ⟨_, hb.cell (i := 0) rfl, ?_⟩
  conv => whnf
  refine vcCond_false lok (rfl) ?_
  conv => whnf
  refine vcReg_meet lok (fun β : Bool => [(21, .bool β)]) (fun β w' => w' = w ∧ β = (j.dead || s.off)) [21] (fun _ => rfl) rfl ?_ ?_
  · conv => whnf
    refine ⟨_, hb.cell (i := 7) rfl, ?_⟩
    conv => whnf
    refine bcase (fun k1 => ?_) (fun k1 => ?_)
    · conv => whnf
      exact ⟨_, ⟨rfl, trivial⟩, rfl, by rw [k1]; rfl⟩
    · conv => whnf
      refine ⟨_, hb.cell (i := 0) rfl, ?_⟩
      conv => whnf
      refine Calls.ret (fon_calls f) ?_
      rintro _ w1 ⟨rfl, rfl⟩
      conv => whnf
      exact ⟨_, ⟨rfl, trivial⟩, rfl, by rw [k1, Bool.not_not]; rfl⟩
  rintro β w1 ⟨hw1, hβ⟩
  subst hw1
  conv => whnf
  refine vcCond_split lok rfl (fun h1 => ?_) (fun h1 => ?_)
  · rw [hβ, Bool.or_eq_true] at h1
    have e : appendF j s rec = (j.kill, s, 7) := by unfold appendF; rw [if_pos h1]
    rw [e]
    conv => whnf
    refine ⟨hb.can 7 (by simp [JS.cells, jC]) _ rfl, fun w2 hw2 => ?_⟩
    have k2 := kill w1 w2 (Mod.refl _ _) hb hw2
    exact ⟨rfl, offKeep w1 w2 s f hw2, k2.1, k2.2⟩
  rw [hβ, Bool.or_eq_false_iff] at h1
  clear hβ
  have hnd : ¬ (j.dead = true ∨ s.off = true) := by rw [h1.1, h1.2]; simp
  conv => whnf
  refine vcReg_meet lok (fun β : Bool => [(37, .bool β)]) (fun β w' => w' = w1 ∧ β = decide (rec.length < 1 ∨ 64 < rec.length ∨ 2147483647 ≤ j.num.toNat)) [37] (fun _ => rfl) rfl ?_ ?_
  · conv => whnf
    refine bcase (fun k1 => ?_) (fun k1 => ?_)
    · have k1 := dt k1
      conv => whnf
      exact ⟨_, ⟨rfl, trivial⟩, rfl, by rw [decide_eq_true]; omega⟩
    have k1 := df k1
    conv => whnf
    refine bcase (fun k2 => ?_) (fun k2 => ?_)
    · have k2 := dt k2
      conv => whnf
      exact ⟨_, ⟨rfl, trivial⟩, rfl, by rw [decide_eq_true]; omega⟩
    have k2 := df k2
    conv => whnf
    refine ⟨_, hb.cell (i := 5) rfl, ?_⟩
    conv => whnf
    refine ⟨_, ⟨rfl, trivial⟩, rfl, ?_⟩
    rw [decide_eq_decide]
    omega
  rintro β w2 ⟨hw2, hβ⟩
  subst hw2
  conv => whnf
  refine vcCond_split lok rfl (fun h2 => ?_) (fun h2 => ?_)
  · rw [hβ] at h2
    have e : appendF j s rec = (j, s, 3) := by unfold appendF; rw [if_neg hnd, if_pos (dt h2)]
    rw [e]
    conv => whnf
    exact ⟨rfl, f, ⟨⟨ja, jc, hb, ho, hfar⟩, hlo, hnt, hself⟩, Mod.refl _ _⟩
  rw [hβ] at h2
  have h2 := df h2
  clear hβ
  have ea : appendF j s rec = (if j.clean = true ∧ rec.length + 4 ≤ 256 - j.end_ then jputF j s j.cur j.end_ rec
      else if (eraseF s ((j.sec + (1 - j.cur) : Nat) : Int)).2 = 0 then jputF j (eraseF s ((j.sec + (1 - j.cur) : Nat) : Int)).1 (1 - j.cur) 0 rec
      else (j.kill, (eraseF s ((j.sec + (1 - j.cur) : Nat) : Int)).1, 7)) := by unfold appendF; rw [if_neg hnd, if_neg h2]
  conv => whnf
  refine ⟨_, hb.cell (i := 5) rfl, ?_⟩
  conv => whnf
  intro z hz
  have hz26 : z = ((j.num + 1#32).toNat : Int) := by rw [hz, wu32, add1 _ jnum]; omega
  clear hz
  subst hz26
  conv => whnf
  refine Calls.ret (laid_calls (j.num + 1#32) (hr w2 (Mod.refl _ _)) (by omega)) ?_
  rintro _ w3 ⟨a3, c3, rfl, ho3, x3⟩
  conv => whnf
  have m3 : JMod g gw p w2 w3 := Mod.ofExt _ x3
  replace hb := hb.ext x3
  have f3 := f.ext x3
  refine vcDraw_meet lok mixed (fun w' => w' = w3.drew) [] [0, 1, 2, 3, 4, 5, 6, 7, 8, 9] (fun _ : Unit => [(6, .int .i64 j.cur), (7, .int .i64 j.end_)]) (fun _ w' => w' = w3.drew) [6, 7] (fun _ => rfl) rfl (by kernel_rfl) (fun w4 hw4 => ⟨hw4, ?_⟩) ?_
  · have hb4 := hb.ext (hw4 ▸ Ext.drew w3)
    conv => whnf
    refine ⟨_, fun w' hw' => by rw [hw', ← hw4]; exact hb4.cell (i := 2) rfl, ?_⟩
    conv => whnf
    refine ⟨_, fun w' hw' => by rw [hw', ← hw4]; exact hb4.cell (i := 3) rfl, ?_⟩
    conv => whnf
    exact ⟨(), ⟨rfl, rfl, trivial⟩, hw4⟩
  rintro ⟨⟩ w4 hw4
  have x4 : Ext w3 w4 := hw4 ▸ Ext.drew w3
  clear hw4
  replace hb := hb.ext x4
  replace m3 := m3.trans (Mod.ofExt _ x4)
  replace ho3 := ho3.ext x4
  replace f3 := f3.ext x4
  clear x3 x4
  conv => whnf
  refine vcReg_meet lok (fun β : Bool => [(79, .bool β)]) (fun β w' => w' = w4 ∧ β = !decide (j.clean = true ∧ rec.length + 4 ≤ 256 - j.end_)) [79] (fun _ => rfl) rfl ?_ ?_
  · conv => whnf
    refine ⟨_, hb.cell (i := 4) rfl, ?_⟩
    conv => whnf
    refine bcase (fun k1 => ?_) (fun k1 => ?_)
    · conv => whnf
      refine ⟨_, ⟨rfl, trivial⟩, rfl, ?_⟩
      rw [Bool.not_eq_true'] at k1
      rw [k1]; rfl
    conv => whnf
    refine ⟨by omega, ?_⟩
    conv => whnf
    refine ⟨_, ⟨rfl, trivial⟩, rfl, ?_⟩
    rw [Bool.not_eq_false'] at k1
    have e : ((laidF (j.num + 1#32) rec).length : Int) = rec.length + 4 := by rw [laidF_len]; omega
    by_cases k2 : rec.length + 4 ≤ 256 - j.end_
    · rw [decide_eq_false (by omega), decide_eq_true ⟨k1, k2⟩]; rfl
    · rw [decide_eq_true (by omega), decide_eq_false (fun q => k2 q.2)]; rfl
  rintro β w5 ⟨hw5, hβ⟩
  subst hw5
  conv => whnf
  refine vcCond_meet (fun t : Nat × Nat => [(6, .int .i64 t.1), (7, .int .i64 t.2), (0, .pointer (some ⟨p, 0, none⟩)), (1, .slice ra rec.length rc), (5, .slice a3 (laidF (j.num + 1#32) rec).length c3)])
    (fun t w' => ∃ s', FlAt 181 B w' g gw c s' ∧ Num s' s.ws.length (i + 1) ∧ Blk w' p 128 (j.cells g ja jc) ∧ JMod g gw p w2 w' ∧ Own 42 u32v w2.heap.size w' a3 c3 (laidF (j.num + 1#32) rec) ∧ appendF j s rec = jputF j s' t.1 t.2 rec ∧ t.1 ≤ 1 ∧ t.2 + (rec.length + 4) ≤ 256) ?_ ?_
  · refine vcCond_split lok rfl (fun h3 => ?_) (fun h3 => ?_)
    · rw [hβ] at h3
      have h3 : ¬ (j.clean = true ∧ rec.length + 4 ≤ 256 - j.end_) := by
        intro q; rw [decide_eq_true q] at h3; cases h3
      rw [if_neg h3] at ea
      clear hβ
      conv => whnf
      refine ⟨by omega, ?_⟩
      conv => whnf
      rw [show (1 - (j.cur : Int)) = ((1 - j.cur : Nat) : Int) by omega]
      refine vcDraw_meet lok mixed (fun w' => w' = w5.drew) [] [0, 1, 2, 3, 4, 5, 6, 7, 8, 9, 10, 11] (fun β : Bool => [(93, .bool β)])
        (fun β w' => β = !decide ((eraseF s ((j.sec + (1 - j.cur) : Nat) : Int)).2 = 0) ∧ FlAt 181 B w' g gw c (eraseF s ((j.sec + (1 - j.cur) : Nat) : Int)).1 ∧ JMod g gw p w5 w' ∧ Blk w' p 128 (j.cells g ja jc)) [93] (fun _ => rfl) rfl (by kernel_rfl) (fun w6 hw6 => ⟨hw6, ?_⟩) ?_
      · have x6 : Ext w5 w6 := hw6 ▸ Ext.drew w5
        have hb6 := hb.ext x6
        conv => whnf
        refine ⟨_, fun w' hw' => by rw [hw', ← hw6]; exact hb6.cell (i := 0) rfl, ?_⟩
        conv => whnf
        refine ⟨_, fun w' hw' => by rw [hw', ← hw6]; exact hb6.cell (i := 1) rfl, ?_⟩
        conv => whnf
        refine ⟨by omega, ?_⟩
        conv => whnf
        have e : (j.sec : Int) + ((1 - j.cur : Nat) : Int) = ((j.sec + (1 - j.cur) : Nat) : Int) := by omega
        rw [e]
        refine Calls.ret (erase_calls (f3.ext x6) ((j.sec + (1 - j.cur) : Nat) : Int) (by omega) (hop.ok (by omega))) ?_
        rintro _ w7 ⟨rfl, f7, m7⟩
        conv => whnf
        exact ⟨_, ⟨rfl, trivial⟩, rfl, f7, (Mod.ofExt _ x6).trans (m7.sub fun k _ hk => by rcases hk with q | q; exact .inl q; exact .inr (.inl q)), m7.keepBlk hb6 (fun q => by rcases q with q | q; exact n1 q; exact n2 q)⟩
      rintro β6 w6 ⟨hβ6, f6, m6, hb6⟩
      have m26 := m3.trans m6
      conv => whnf
      refine vcCond_split lok rfl (fun h4 => ?_) (fun h4 => ?_)
      · rw [hβ6] at h4
        have h4 : ¬ (eraseF s ((j.sec + (1 - j.cur) : Nat) : Int)).2 = 0 := by
          intro q; rw [decide_eq_true q] at h4; cases h4
        rw [if_neg h4] at ea
        rw [ea]
        conv => whnf
        refine ⟨hb6.can 7 (by simp [JS.cells, jC]) _ rfl, fun w7 hw7 => ?_⟩
        have k7 := kill w6 w7 m26 hb6 hw7
        exact ⟨rfl, offKeep w6 w7 _ f6 hw7, k7.1, m26.trans k7.2⟩
      · rw [hβ6] at h4
        have h4 : (eraseF s ((j.sec + (1 - j.cur) : Nat) : Int)).2 = 0 := by
          by_cases q : (eraseF s ((j.sec + (1 - j.cur) : Nat) : Int)).2 = 0
          · exact q
          · rw [decide_eq_false q] at h4; cases h4
        rw [if_pos h4] at ea
        conv => whnf
        exact ⟨(1 - j.cur, 0), ⟨rfl, rfl, rfl, rfl, rfl, trivial⟩, _, f6, hop.erase _, hb6, m26, m6.keepOwn ho3 (fun k hk q => by have := (ho3.ge k hk).1; have := hnt k (hSN k q); omega), ea, by show 1 - j.cur ≤ 1; omega, by show 0 + _ ≤ _; omega⟩
    · rw [hβ] at h3
      have h3 : j.clean = true ∧ rec.length + 4 ≤ 256 - j.end_ := by
        by_cases q : j.clean = true ∧ rec.length + 4 ≤ 256 - j.end_
        · exact q
        · rw [decide_eq_false q] at h3; cases h3
      rw [if_pos h3] at ea
      exact ⟨(j.cur, j.end_), ⟨rfl, rfl, rfl, rfl, rfl, trivial⟩, s, f3, hop.up (by omega), hb, m3, ho3, ea, jcur, by show j.end_ + _ ≤ _; omega⟩
  rintro ⟨c', e'⟩ w6 ⟨s', f6, hop6, hb6, m6, ho6, ea6, hc6, he6⟩
  clear ea
  rw [ea6]
  clear ea6
  have gat : ∃ a : Nat, a = (j.sec + c') * 256 + e' := ⟨_, rfl⟩
  obtain ⟨at_, hat0⟩ := gat
  have hput : jputF j s' c' e' rec = if (progAllF s' (at_ : Int) (laidF (j.num + 1#32) rec)).2 = 0 then
      (⟨j.sec, c', e' + (rec.length + 4), true, j.num + 1#32, rec, j.dead⟩, (progAllF s' (at_ : Int) (laidF (j.num + 1#32) rec)).1, 0)
      else (j.kill, (progAllF s' (at_ : Int) (laidF (j.num + 1#32) rec)).1, 7) := by rw [hat0]; rfl
  have hLl := laidF_len (j.num + 1#32) rec
  generalize laidF (j.num + 1#32) rec = L at *
  conv => whnf
  refine ⟨_, hb6.cell (i := 1) rfl, ?_⟩
  conv => whnf
  refine ⟨by omega, ?_⟩
  conv => whnf
  refine ⟨by omega, ?_⟩
  conv => whnf
  refine ⟨by omega, ?_⟩
  conv => whnf
  rw [show ((j.sec : Int) + (c' : Int)) * 256 + (e' : Int) = (at_ : Int) by omega]
  have hat : at_ + (rec.length + 4) ≤ s.ws.length := by omega
  conv => whnf
  refine vcLoop_inv lok (σ := Nat)
    (fun k => [(108, .int .i64 k), (106, .slice a3 L.length c3), (107, .int .i64 L.length), (8, .int .i64 at_), (6, .int .i64 c'), (7, .int .i64 e'), (0, .pointer (some ⟨p, 0, none⟩)), (1, .slice ra rec.length rc), (5, .slice a3 L.length c3)])
    (fun k w' => k ≤ L.length ∧ ∃ sk, FlAt 181 B w' g gw c sk ∧ Num sk s.ws.length (i + 1 + k) ∧ Blk w' p 128 (j.cells g ja jc) ∧ JMod g gw p w2 w' ∧ Own 42 u32v w2.heap.size w' a3 c3 L ∧ progAllF s' at_ L = progAllF sk (at_ + k : Nat) (L.drop k)) (fun k => L.length - k)
    0 ⟨rfl, rfl, rfl, rfl, rfl, rfl, rfl, rfl, rfl, trivial⟩ ⟨Nat.zero_le _, s', f6, hop6, hb6, m6, ho6, rfl⟩ ?_
  rintro k w7 ⟨hk, sk, f7, hop7, hb7, m7, ho7, epr⟩
  conv => whnf
  refine vcCond_split lok rfl (fun h5 => ?_) (fun h5 => ?_)
  · have h5 := dt h5
    conv => whnf
    have hkl : k < L.length := by omega
    have g59 := sl_get (ho7.sl) ((k : Int)) (k) (by omega) (by omega)
    obtain ⟨p59, o59, ha59, hb59, hcell59⟩ := g59
    refine ⟨p59, o59, ha59, hb59, ?_⟩
    conv => whnf
    refine ⟨_, hcell59, ?_⟩
    conv => whnf
    have edr : L.drop k = L.getD k 0#32 :: L.drop (k + 1) := by
      rw [List.drop_eq_getElem_cons hkl]
      simp [List.getD, List.getElem?_eq_getElem hkl]
    refine ⟨_, hb7.cell (i := 0) rfl, ?_⟩
    conv => whnf
    refine ⟨by omega, ?_⟩
    conv => whnf
    have hl7 := hop7.len
    rw [show (at_ : Int) + (k : Int) = ((at_ + k : Nat) : Int) by omega]
    refine Calls.ret (prog_calls f7 ((at_ + k : Nat) : Int) (L.getD k 0#32) (by omega) (hop7.ok (by omega))) ?_
    rintro _ w8 ⟨rfl, f8, m8⟩
    conv => whnf
    have m78 : JMod g gw p w7 w8 := m8.sub fun k _ hk => by rcases hk with q | q; exact .inl q; exact .inr (.inl q)
    have hb8 : Blk w8 p 128 (j.cells g ja jc) := m8.keepBlk hb7 (fun q => by rcases q with q | q; exact n1 q; exact n2 q)
    rw [edr, progAllF] at epr
    refine vcCond_split lok rfl (fun h6 => ?_) (fun h6 => ?_)
    · have h6 := ne_true h6
      rw [if_neg h6] at epr
      rw [epr] at hput
      rw [if_neg (show ¬ ((7 : Int) = 0) by decide)] at hput
      rw [hput]
      conv => whnf
      refine ⟨hb8.can 7 (by simp [JS.cells, jC]) _ rfl, fun w9 hw9 => ?_⟩
      have k9 := kill w8 w9 (m7.trans m78) hb8 hw9
      exact ⟨rfl, offKeep w8 w9 _ f8 hw9, k9.1, (m7.trans m78).trans k9.2⟩
    · have h6 := ne_false h6
      rw [if_pos h6] at epr
      conv => whnf
      refine ⟨by omega, ?_⟩
      conv => whnf
      exact ⟨k + 1, ⟨rfl, rfl, rfl, rfl, rfl, rfl, rfl, rfl, rfl, trivial⟩, ⟨hkl, _, f8, (hop7.prog _ _).up (by omega), hb8, m7.trans m78, m78.keepOwn ho7 (fun k hk q => by have := (ho7.ge k hk).1; have := hnt k (hSN k q); omega), epr⟩, by omega⟩
  · have h5 := df h5
    conv => whnf
    have hkl : k = L.length := by omega
    rw [List.drop_of_length_le (by omega), progAllF] at epr
    rw [epr, if_pos rfl] at hput
    rw [hput]
    refine ⟨by omega, ?_⟩
    conv => whnf
    have hb7 : Blk w7 p 128 (jC g j.sec j.cur j.end_ j.clean j.num j.dead j.words.length ja jc) := hb7
    refine ⟨hb7.can 2 (by simp [jC]) _ rfl, fun w8 hw8 => ?_⟩
    have hb8 : Blk w8 p 128 (jC g j.sec c' j.end_ j.clean j.num j.dead j.words.length ja jc) := by rw [hw8]; exact hb7.set 2 _
    have g8 := gr_of_set hw8
    clear hw8
    conv => whnf
    refine ⟨hb8.can 3 (by simp [jC]) _ rfl, fun w9 hw9 => ?_⟩
    have hb9 : Blk w9 p 128 (jC g j.sec c' (e' + (rec.length + 4)) j.clean j.num j.dead j.words.length ja jc) := by
      rw [hw9, show (e' : Int) + (L.length : Int) = ((e' + (rec.length + 4) : Nat) : Int) by omega]; exact hb8.set 3 _
    have g9 := gr_of_set hw9
    clear hw9
    conv => whnf
    refine ⟨hb9.can 4 (by simp [jC]) _ rfl, fun w10 hw10 => ?_⟩
    have hb10 : Blk w10 p 128 (jC g j.sec c' (e' + (rec.length + 4)) true j.num j.dead j.words.length ja jc) := by rw [hw10]; exact hb9.set 4 _
    have g10 := gr_of_set hw10
    clear hw10
    conv => whnf
    refine ⟨_, hb10.cell (i := 5) rfl, ?_⟩
    conv => whnf
    intro z hz
    have hz73 : z = ((j.num + 1#32).toNat : Int) := by rw [hz, wu32, add1 _ jnum]; omega
    clear hz
    subst hz73
    conv => whnf
    refine ⟨hb10.can 5 (by simp [jC]) _ rfl, fun w11 hw11 => ?_⟩
    have hb11 : Blk w11 p 128 (jC g j.sec c' (e' + (rec.length + 4)) true (j.num + 1#32) j.dead j.words.length ja jc) := by rw [hw11]; exact hb10.set 5 _
    have g11 := gr_of_set hw11
    clear hw11
    conv => whnf
    have mp : Mod (fun k => k = p) w7 w11 :=
      (((Mod.ofGr g8 fun k hk => (Option.some.inj hk).symm).trans (Mod.ofGr g9 fun k hk => (Option.some.inj hk).symm)).trans (Mod.ofGr g10 fun k hk => (Option.some.inj hk).symm)).trans (Mod.ofGr g11 fun k hk => (Option.some.inj hk).symm)
    have m11 : JMod g gw p w2 w11 := m7.trans (mp.sub fun k _ hk => .inr (.inr hk))
    have f11 := f7.keep mp n1.symm n2.symm
    have z11 := m11.size
    have g12 := (Own.nil 42 u32v w11.heap.size w11).append (ty := 37) (d := rc) e32.toElem (fun _ => rfl) (hr w11 m11) (by simp; omega) (Nat.le_refl _)
    obtain ⟨a12, c12, w12, hr12, ho12, g12, _⟩ := g12
    rw [List.nil_append] at hr12 ho12
    refine ⟨_, _, hr12, ?_⟩
    have x12 : Ext w11 w12 := Gr.ext g12
    have hb12 := hb11.ext x12
    conv => whnf
    refine ⟨hb12.can 6 (by simp [jC]) _ rfl, fun w13 hw13 => ?_⟩
    have hb13 : Blk w13 p 128 (jC g j.sec c' (e' + (rec.length + 4)) true (j.num + 1#32) j.dead rec.length a12 c12) := by rw [hw13]; exact hb12.set 6 _
    have g13 := gr_of_set hw13
    clear hw13
    have m13 : JMod g gw p w2 w13 := (m11.trans (Mod.ofExt _ x12)).trans (Mod.ofGr g13 S1)
    have f13 := (f11.ext x12).keep (S := fun k => k = p) (Mod.ofGr g13 fun k hk => (Option.some.inj hk).symm) n1.symm n2.symm
    have hpl := hnt p hself
    have hBw := Nat.le_trans hlo (Nat.le_of_lt hpl)
    refine ⟨rfl, f13, ⟨⟨a12, c12, hb13, ?_, fun b hb hn => ?_⟩, hlo, fun k hk => Nat.lt_of_lt_of_le (hnt k hk) m13.size, hself⟩, m13⟩
    · refine (g13.keepOwn ho12 fun k hk e => ?_).base (by omega)
      have := (ho12.ge k hk).1
      have e := Option.some.inj e
      omega
    · have := (ho12.ge b hb).1
      have := hnt b hn
      omega

theorem nappend_calls {w : World} {ra : Option Addr} {rn rc : Nat} : Calls Try.prog 113 #[.pointer none, .slice ra rn rc] w (Ret fun v w' => v = .int .i64 26 ∧ w' = w) := by
  refine calls_of_vc lok Try.func113 ?_ rfl
  conv => whnf
  refine vcReg_go lok ?_
  conv => whnf
  refine vcCond_true lok (rfl) ?_
  conv => whnf
  exact ⟨rfl, rfl⟩
theorem zappend_calls {w : World} {p : Nat} {cs : List Value} (hb : Blk w p 128 cs) (h0 : cs[0]? = some (.pointer none)) {ra : Option Addr} {rn rc : Nat} : Calls Try.prog 113 #[.pointer (some ⟨p, 0, none⟩), .slice ra rn rc] w (Ret fun v w' => v = .int .i64 26 ∧ w' = w) := by
  refine calls_of_vc lok Try.func113 ?_ rfl
  conv => whnf
  refine vcReg_go lok ?_
  conv => whnf
  refine ⟨_, hb.cell (i := 0) h0, ?_⟩
  conv => whnf
  refine vcCond_true lok (rfl) ?_
  conv => whnf
  exact ⟨rfl, rfl⟩
theorem nopen_calls {w : World} (n : Int) : Calls Try.prog 111 #[.pointer none, .int .i64 n] w (Ret fun v w' => v = .tuple #[.pointer none, .int .i64 26] ∧ w' = w) := by
  refine calls_of_vc lok Try.func111 ?_ rfl
  conv => whnf
  refine vcCond_true lok (rfl) ?_
  conv => whnf
  exact ⟨rfl, rfl⟩
end Go.Proofs.Ytgipackjnncabaa
