/- Walks of layer 7, sixth part: the reference's Append. -/
import Derived.Test.YtgipackjnncabaaW07e
set_option linter.unusedVariables false
namespace Go.Proofs.Ytgipackjnncabaa
open Go.Vc Go.RowKit

theorem jop_cur (ws : List (BitVec 32)) (n : Nat) : (jopF ws n).cur = if (tellF (secF ws (n + 0))).number.toNat < (tellF (secF ws (n + 1))).number.toNat then 1 else 0 := by
  rw [Nat.add_zero]
  unfold jopF
  by_cases h : (tellF (secF ws n)).number.toNat < (tellF (secF ws (n + 1))).number.toNat
  · rw [if_pos h, if_pos h]; rfl
  · rw [if_neg h, if_neg h]; rfl
set_option maxHeartbeats 4000000 in
theorem rjappend_calls {N : Nat → Prop} {B : Nat} {w : World} {p g gw c i : Nat} {s : FS} {j : JS} (f : FlAt 81 B w g gw c s) (h : RAt N B w p g j) (hg : N g) (hgw : N gw) (n1 : p ≠ g) (n2 : p ≠ gw)
    (hj : j.dead = true ∨ j = jopF s.ws j.sec) (jok : JSok j s) (hl : s.ws.length ≤ 65536) (hop : Num s s.ws.length i) (hi : i ≤ 2305843009213693952) {ra : Option Addr} {rc : Nat} {rec : List (BitVec 32)} (hr : ∀ w', JMod g gw p w w' → Sl u32v w' ra rec) (hrl : rec.length ≤ 9223372036854775807) :
    Calls Try.prog 119 #[.pointer (some ⟨p, 0, none⟩), .slice ra rec.length rc] w
      (Ret fun v w' => v = .int .i64 (appendF j s rec).2.2 ∧ FlAt 81 B w' g gw c (appendF j s rec).2.1 ∧ RAt N B w' p g (appendF j s rec).1 ∧ JMod g gw p w w') := by
  have jsec := jok.sec
  have jcur := jok.cur
  have jend := jok.end_
  have jnum := jok.num
  have jwl := jok.words
  obtain ⟨⟨ja, jc, hb, ho, hfar⟩, hlo, hnt, hself⟩ := h
  have S1 : ∀ k, some p = some k → (k = g ∨ k = gw ∨ k = p) := fun k hk => .inr (.inr (Option.some.inj hk).symm)
  have hSN : ∀ k, (k = g ∨ k = gw ∨ k = p) → N k := fun k hk => by rcases hk with rfl | rfl | rfl <;> assumption
  have kill : ∀ w1 w2, JMod g gw p w w1 → Blk w1 p 143 (j.rcells g ja jc) → w2 = w1.setCell ⟨p, 0 + 2, none⟩ (.bool true) → RAt N B w2 p g j.kill ∧ JMod g gw p w1 w2 := by
    intro w1 w2 m1 b1 hw2
    have g2 := gr_of_set hw2
    have m2 : JMod g gw p w1 w2 := Mod.ofGr g2 S1
    have m := m1.trans m2
    refine ⟨⟨⟨ja, jc, ?_, m.keepOwn ho fun k hk q => hfar k hk (hSN k q), hfar⟩, hlo, fun k hk => Nat.lt_of_lt_of_le (hnt k hk) m.size, hself⟩, m2⟩
    rw [hw2]; exact b1.set 2 _
  have offKeep : ∀ w1 w2 t, FlAt 81 B w1 g gw c t → w2 = w1.setCell ⟨p, 0 + 2, none⟩ (.bool true) → FlAt 81 B w2 g gw c t := by
    intro w1 w2 t f1 hw2
    exact f1.keep (S := fun k => k = p) (Mod.ofGr (gr_of_set hw2) fun k hk => (Option.some.inj hk).symm) n1.symm n2.symm
  have hcl := f.own.le
  have hcm : maxLen ≤ 9223372036854775807 := by decide
  refine calls_of_vc lok Try.func119 ?_ rfl
  conv => whnf
  refine vcReg_meet lok (fun β : Bool => [(33, .bool β)]) (fun β w' => w' = w ∧ β = (j.dead || s.off)) [33] (fun _ => rfl) rfl ?_ ?_
  · conv => whnf
    refine ⟨_, hb.cell (i := 2) rfl, ?_⟩
    conv => whnf
    refine bcase (fun k1 => ?_) (fun k1 => ?_)
    · conv => whnf
      exact ⟨_, ⟨rfl, trivial⟩, rfl, by rw [k1]; rfl⟩
    · conv => whnf
      refine ⟨_, hb.cell (i := 0) rfl, ?_⟩
      conv => whnf
      refine ⟨_, f.blk.cell (i := 1) rfl, ?_⟩
      conv => whnf
      exact ⟨_, ⟨rfl, trivial⟩, rfl, by rw [k1]; rfl⟩
  rintro β w1 ⟨hw1, hβ⟩
  subst hw1
  conv => whnf
  refine vcCond_split lok rfl (fun h1 => ?_) (fun h1 => ?_)
  · rw [hβ, Bool.or_eq_true] at h1
    have e : appendF j s rec = (j.kill, s, 7) := by unfold appendF; rw [if_pos h1]
    rw [e]
    conv => whnf
    refine ⟨hb.can 2 (by simp [JS.rcells, rC]) _ rfl, fun w2 hw2 => ?_⟩
    have k2 := kill w1 w2 (Mod.refl _ _) hb hw2
    exact ⟨rfl, offKeep w1 w2 s f hw2, k2.1, k2.2⟩
  rw [hβ, Bool.or_eq_false_iff] at h1
  clear hβ
  have hnd : ¬ (j.dead = true ∨ s.off = true) := by rw [h1.1, h1.2]; simp
  have hj : j = jopF s.ws j.sec := by
    rcases hj with q | q
    · rw [h1.1] at q; cases q
    · exact q
  conv => whnf
  refine vcReg_meet lok (fun β : Bool => [(51, .bool β)]) (fun β w' => w' = w1 ∧ β = decide (rec.length < 1 ∨ 64 < rec.length ∨ 2147483647 ≤ j.num.toNat)) [51] (fun _ => rfl) rfl ?_ ?_
  · conv => whnf
    refine bcase (fun k1 => ?_) (fun k1 => ?_)
    · have k1 := dt k1
      conv => whnf
      exact ⟨_, ⟨rfl, trivial⟩, rfl, by rw [decide_eq_true]; omega⟩
    have k1 := df k1
    conv => whnf
    refine bcase (fun k2 => ?_) (fun k2 => ?_)
    · have k2 := dt k2
      conv => whnf
      exact ⟨_, ⟨rfl, trivial⟩, rfl, by rw [decide_eq_true]; omega⟩
    have k2 := df k2
    conv => whnf
    refine ⟨_, hb.cell (i := 4) rfl, ?_⟩
    conv => whnf
    refine ⟨_, ⟨rfl, trivial⟩, rfl, ?_⟩
    rw [decide_eq_decide]
    omega
  rintro β w2 ⟨hw2, hβ⟩
  subst hw2
  conv => whnf
  refine vcCond_split lok rfl (fun h2 => ?_) (fun h2 => ?_)
  · rw [hβ] at h2
    have e : appendF j s rec = (j, s, 3) := by unfold appendF; rw [if_neg hnd, if_pos (dt h2)]
    rw [e]
    conv => whnf
    exact ⟨rfl, f, ⟨⟨ja, jc, hb, ho, hfar⟩, hlo, hnt, hself⟩, Mod.refl _ _⟩
  rw [hβ] at h2
  have h2 := df h2
  clear hβ
  have ea : appendF j s rec = (if j.clean = true ∧ rec.length + 4 ≤ 256 - j.end_ then jputF j s j.cur j.end_ rec
      else if (eraseF s ((j.sec + (1 - j.cur) : Nat) : Int)).2 = 0 then jputF j (eraseF s ((j.sec + (1 - j.cur) : Nat) : Int)).1 (1 - j.cur) 0 rec
      else (j.kill, (eraseF s ((j.sec + (1 - j.cur) : Nat) : Int)).1, 7)) := by unfold appendF; rw [if_neg hnd, if_neg h2]
  have lS : ∀ k, k ≤ 1 → (secF s.ws (j.sec + k)).length = 256 := fun k hk => secF_len (by omega)
  have lA := lS 0 (by decide)
  have lB := lS 1 (by decide)
  have lC := lS j.cur jcur
  have tl : ∀ k, (tellF (secF s.ws (j.sec + k))).number.toNat ≤ 2147483647 := fun k => (tell_ok _).2.1
  have eCur : j.cur = if (tellF (secF s.ws (j.sec + 0))).number.toNat < (tellF (secF s.ws (j.sec + 1))).number.toNat then 1 else 0 := (congrArg JS.cur hj).trans (jop_cur s.ws j.sec)
  have eTold := (open_cur s.ws j.sec).2.1
  rw [← hj] at eTold
  have eEnd : (tellF (secF s.ws (j.sec + j.cur))).end_ = j.end_ := (congrArg JS.end_ eTold).symm
  have eCl : (tellF (secF s.ws (j.sec + j.cur))).clean = j.clean := (congrArg JS.clean eTold).symm
  clear eTold lS
  conv => whnf
  refine vcDraw_go lok mixed (fun w' => w' = w2.drew) [] [0, 1, 2, 3, 4, 5, 6, 7, 8, 9, 10, 11, 12, 13, 14, 15, 16, 17, 18] (by kernel_rfl) (fun w3 hw3 => ⟨hw3, ?_⟩)
  have x3 : Ext w2 w3 := hw3 ▸ Ext.drew w2
  have hb3 := hb.ext x3
  have f3 := f.ext x3
  conv => whnf
  refine ⟨_, fun w' hw' => by rw [hw', ← hw3]; exact hb3.cell (i := 0) rfl, ?_⟩
  conv => whnf
  refine ⟨_, fun w' hw' => by rw [hw', ← hw3]; exact hb3.cell (i := 1) rfl, ?_⟩
  conv => whnf
  refine Calls.ret (secs_calls f3 (by omega) (j.sec + 0) (by omega)) ?_
  rintro _ w4 ⟨aA, rfl, hsA, hw4⟩
  conv => whnf
  subst hw4
  refine Calls.ret (rwalk_calls (hsA _ f3.sl) (by omega) (by omega) (by omega)) ?_
  rintro _ w5 ⟨rA, cA, rfl, hrA, x5⟩
  conv => whnf
  replace hb := hb3.ext x5
  have x25 := x3.trans x5
  have f5 := f3.ext x5
  clear x3 x5 hb3 f3 hw3 hrA hsA
  refine vcDraw_go lok mixed (fun w' => w' = w5.drew) [] [0, 1, 2, 3, 4, 5, 6, 7, 8, 9, 10, 11, 12, 13, 14, 15, 16, 17, 18, 19] (by kernel_rfl) (fun w6 hw6 => ⟨hw6, ?_⟩)
  have x6 : Ext w5 w6 := hw6 ▸ Ext.drew w5
  have hb6 := hb.ext x6
  have f6 := f5.ext x6
  conv => whnf
  refine ⟨_, fun w' hw' => by rw [hw', ← hw6]; exact hb6.cell (i := 0) rfl, ?_⟩
  conv => whnf
  refine ⟨_, fun w' hw' => by rw [hw', ← hw6]; exact hb6.cell (i := 1) rfl, ?_⟩
  conv => whnf
  refine ⟨by omega, ?_⟩
  conv => whnf
  refine Calls.ret (secs_calls f6 (by omega) (j.sec + 1) (by omega)) ?_
  rintro _ w7 ⟨aB, rfl, hsB, hw7⟩
  conv => whnf
  subst hw7
  refine Calls.ret (rwalk_calls (hsB _ f6.sl) (by omega) (by omega) (by omega)) ?_
  rintro _ w8 ⟨rB, cB, rfl, hrB, x8⟩
  conv => whnf
  replace hb := hb6.ext x8
  have x28 := x25.trans (x6.trans x8)
  have f8 := f6.ext x8
  clear x25 x6 x8 hb6 f6 f5 hw6 hrB hsB
  refine ⟨_, hb.cell (i := 1) rfl, ?_⟩
  conv => whnf
  refine ⟨_, hb.cell (i := 1) rfl, ?_⟩
  conv => whnf
  refine ⟨by omega, ?_⟩
  conv => whnf
  refine vcCond_meet (fun _ : Unit => [(13, .int .i64 (j.sec + j.cur : Nat)), (14, .int .i64 (j.sec + (1 - j.cur) : Nat)), (0, .pointer (some ⟨p, 0, none⟩)), (1, .slice ra rec.length rc)]) (fun _ w' => w' = w8) ?_ ?_
  · refine vcCond_split lok rfl (fun h3 => ?_) (fun h3 => ?_)
    · have h3 := dt h3
      conv => whnf
      rw [if_pos (by omega)] at eCur
      rw [eCur]
      refine ⟨_, hb.cell (i := 1) rfl, ?_⟩
      conv => whnf
      refine ⟨by omega, ?_⟩
      conv => whnf
      refine ⟨_, hb.cell (i := 1) rfl, ?_⟩
      conv => whnf
      exact ⟨(), ⟨rfl, rfl, rfl, rfl, trivial⟩, rfl⟩
    · have h3 := df h3
      conv => whnf
      rw [if_neg (by omega)] at eCur
      rw [eCur]
      exact ⟨(), ⟨rfl, rfl, rfl, rfl, trivial⟩, rfl⟩
  rintro ⟨⟩ w9 hw9
  subst hw9
  clear eCur
  conv => whnf
  refine ⟨_, hb.cell (i := 0) rfl, ?_⟩
  conv => whnf
  refine Calls.ret (secs_calls f8 (by omega) (j.sec + j.cur) (by omega)) ?_
  rintro _ w10 ⟨aC, rfl, hsC, hw10⟩
  conv => whnf
  subst hw10
  refine Calls.ret (rwalk_calls (hsC _ f8.sl) (by omega) (by omega) (by omega)) ?_
  rintro _ w11 ⟨rC', cC, rfl, hrC, x11⟩
  conv => whnf
  rw [eEnd, eCl]
  replace hb := hb.ext x11
  have x211 := x28.trans x11
  have f11 := f8.ext x11
  clear x28 x11 f8 hsC hrC
  refine ⟨_, hb.cell (i := 4) rfl, ?_⟩
  conv => whnf
  intro z hz
  have hz47 : z = ((j.num + 1#32).toNat : Int) := by rw [hz, wu32, add1 _ jnum]; omega
  clear hz
  subst hz47
  conv => whnf
  have m11 : JMod g gw p w2 w11 := Mod.ofExt _ x211
  refine Calls.ret (rlaid_calls (j.num + 1#32) (hr w11 m11) (by omega)) ?_
  rintro _ w4 ⟨a3, c3, rfl, ho3, x4⟩
  conv => whnf
  have m3 : JMod g gw p w2 w4 := m11.trans (Mod.ofExt _ x4)
  replace hb := hb.ext x4
  have f3 := f11.ext x4
  have ho3 : Own 42 u32v w2.heap.size w4 a3 c3 (laidF (j.num + 1#32) rec) := ho3.base x211.size
  clear x4 f11
  refine vcReg_meet lok (fun β : Bool => [(131, .bool β)]) (fun β w' => w' = w4 ∧ β = !decide (j.clean = true ∧ rec.length + 4 ≤ 256 - j.end_)) [131] (fun _ => rfl) rfl ?_ ?_
  · conv => whnf
    refine bcase (fun k1 => ?_) (fun k1 => ?_)
    · conv => whnf
      refine ⟨_, ⟨rfl, trivial⟩, rfl, ?_⟩
      rw [Bool.not_eq_true'] at k1
      rw [k1]; rfl
    conv => whnf
    refine ⟨by omega, ?_⟩
    conv => whnf
    refine ⟨_, ⟨rfl, trivial⟩, rfl, ?_⟩
    rw [Bool.not_eq_false'] at k1
    have e : ((laidF (j.num + 1#32) rec).length : Int) = rec.length + 4 := by rw [laidF_len]; omega
    by_cases k2 : rec.length + 4 ≤ 256 - j.end_
    · rw [decide_eq_false (by omega), decide_eq_true ⟨k1, k2⟩]; rfl
    · rw [decide_eq_true (by omega), decide_eq_false (fun q => k2 q.2)]; rfl
  rintro β w5 ⟨hw5, hβ⟩
  subst hw5
  conv => whnf
  refine vcCond_meet (fun t : Nat × Nat => [(13, .int .i64 (j.sec + t.1 : Nat)), (17, .int .i64 t.2), (0, .pointer (some ⟨p, 0, none⟩)), (1, .slice ra rec.length rc), (19, .slice a3 (laidF (j.num + 1#32) rec).length c3)])
    (fun t w' => ∃ s', FlAt 81 B w' g gw c s' ∧ Num s' s.ws.length (i + 1) ∧ Blk w' p 143 (j.rcells g ja jc) ∧ JMod g gw p w2 w' ∧ Own 42 u32v w2.heap.size w' a3 c3 (laidF (j.num + 1#32) rec) ∧ appendF j s rec = jputF j s' t.1 t.2 rec ∧ t.1 ≤ 1 ∧ t.2 + (rec.length + 4) ≤ 256) ?_ ?_
  · refine vcCond_split lok rfl (fun h3 => ?_) (fun h3 => ?_)
    · rw [hβ] at h3
      have h3 : ¬ (j.clean = true ∧ rec.length + 4 ≤ 256 - j.end_) := by
        intro q; rw [decide_eq_true q] at h3; cases h3
      rw [if_neg h3] at ea
      clear hβ
      conv => whnf
      refine ⟨_, hb.cell (i := 0) rfl, ?_⟩
      conv => whnf
      refine Calls.ret (rerase_calls f3 ((j.sec + (1 - j.cur) : Nat) : Int) (by omega) (hop.ok (by omega))) ?_
      rintro _ w6 ⟨rfl, f6, m6⟩
      conv => whnf
      have m56 : JMod g gw p w5 w6 := m6.sub fun k _ hk => by rcases hk with q | q; exact .inl q; exact .inr (.inl q)
      have m26 := m3.trans m56
      have hb6 : Blk w6 p 143 (j.rcells g ja jc) := m6.keepBlk hb (fun q => by rcases q with q | q; exact n1 q; exact n2 q)
      refine vcCond_split lok rfl (fun h4 => ?_) (fun h4 => ?_)
      · have h4 := ne_true h4
        rw [if_neg h4] at ea
        rw [ea]
        conv => whnf
        refine ⟨hb6.can 2 (by simp [JS.rcells, rC]) _ rfl, fun w7 hw7 => ?_⟩
        have k7 := kill w6 w7 m26 hb6 hw7
        exact ⟨rfl, offKeep w6 w7 _ f6 hw7, k7.1, m26.trans k7.2⟩
      · have h4 := ne_false h4
        rw [if_pos h4] at ea
        conv => whnf
        exact ⟨(1 - j.cur, 0), ⟨rfl, rfl, rfl, rfl, rfl, trivial⟩, _, f6, hop.erase _, hb6, m26, m56.keepOwn ho3 (fun k hk q => by have := (ho3.ge k hk).1; have := hnt k (hSN k q); omega), ea, by show 1 - j.cur ≤ 1; omega, by show 0 + _ ≤ _; omega⟩
    · rw [hβ] at h3
      have h3 : j.clean = true ∧ rec.length + 4 ≤ 256 - j.end_ := by
        by_cases q : j.clean = true ∧ rec.length + 4 ≤ 256 - j.end_
        · exact q
        · rw [decide_eq_false q] at h3; cases h3
      rw [if_pos h3] at ea
      exact ⟨(j.cur, j.end_), ⟨rfl, rfl, rfl, rfl, rfl, trivial⟩, s, f3, hop.up (by omega), hb, m3, ho3, ea, jcur, by show j.end_ + _ ≤ _; omega⟩
  rintro ⟨c', e'⟩ w6 ⟨s', f6, hop6, hb6, m6, ho6, ea6, hc6, he6⟩
  clear ea
  rw [ea6]
  clear ea6
  have gat : ∃ a : Nat, a = (j.sec + c') * 256 + e' := ⟨_, rfl⟩
  obtain ⟨at_, hat0⟩ := gat
  have hput : jputF j s' c' e' rec = if (progAllF s' (at_ : Int) (laidF (j.num + 1#32) rec)).2 = 0 then
      (⟨j.sec, c', e' + (rec.length + 4), true, j.num + 1#32, rec, j.dead⟩, (progAllF s' (at_ : Int) (laidF (j.num + 1#32) rec)).1, 0)
      else (j.kill, (progAllF s' (at_ : Int) (laidF (j.num + 1#32) rec)).1, 7) := by rw [hat0]; rfl
  have hLl := laidF_len (j.num + 1#32) rec
  generalize laidF (j.num + 1#32) rec = L at *
  have hat : at_ + (rec.length + 4) ≤ s.ws.length := by omega
  conv => whnf
  refine vcLoop_inv lok (σ := Nat)
    (fun k => [(20, .int .i64 k), (19, .slice a3 L.length c3), (13, .int .i64 (j.sec + c' : Nat)), (17, .int .i64 e'), (0, .pointer (some ⟨p, 0, none⟩)), (1, .slice ra rec.length rc)])
    (fun k w' => k ≤ L.length ∧ ∃ sk, FlAt 81 B w' g gw c sk ∧ Num sk s.ws.length (i + 1 + k) ∧ Blk w' p 143 (j.rcells g ja jc) ∧ JMod g gw p w2 w' ∧ Own 42 u32v w2.heap.size w' a3 c3 L ∧ progAllF s' at_ L = progAllF sk (at_ + k : Nat) (L.drop k)) (fun k => L.length - k)
    0 ⟨rfl, rfl, rfl, rfl, rfl, rfl, trivial⟩ ⟨Nat.zero_le _, s', f6, hop6, hb6, m6, ho6, rfl⟩ ?_
  rintro k w7 ⟨hk, sk, f7, hop7, hb7, m7, ho7, epr⟩
  conv => whnf
  refine vcCond_split lok rfl (fun h5 => ?_) (fun h5 => ?_)
  · have h5 := dt h5
    conv => whnf
    have hkl : k < L.length := by omega
    have edr : L.drop k = L.getD k 0#32 :: L.drop (k + 1) := by
      rw [List.drop_eq_getElem_cons hkl]
      simp [List.getD, List.getElem?_eq_getElem hkl]
    have hl7 := hop7.len
    rw [edr, progAllF] at epr
    refine vcDraw_meet lok mixed (fun w' => w' = w7.drew) [] [0, 1, 2, 3, 4, 5, 6, 7, 8, 9, 10, 11, 12, 13, 14, 15] (fun β : Bool => [(164, .bool β)])
      (fun β w' => β = !decide ((progF sk (at_ + k : Nat) (L.getD k 0#32)).2 = 0) ∧ FlAt 81 B w' g gw c (progF sk (at_ + k : Nat) (L.getD k 0#32)).1 ∧ JMod g gw p w2 w' ∧ Blk w' p 143 (j.rcells g ja jc) ∧ Own 42 u32v w2.heap.size w' a3 c3 L) [164] (fun _ => rfl) rfl (by kernel_rfl) (fun w8 hw8 => ⟨hw8, ?_⟩) ?_
    · have x8 : Ext w7 w8 := hw8 ▸ Ext.drew w7
      have hb8 := hb7.ext x8
      have ho8 := ho7.ext x8
      conv => whnf
      refine ⟨_, fun w' hw' => by rw [hw', ← hw8]; exact hb8.cell (i := 0) rfl, ?_⟩
      conv => whnf
      refine ⟨by omega, ?_⟩
      conv => whnf
      refine ⟨by omega, ?_⟩
      conv => whnf
      refine ⟨by omega, ?_⟩
      conv => whnf
      have g70 := sl_get (ho8.sl) ((k : Int)) (k) (by omega) (by omega)
      obtain ⟨p70, o70, ha70, hb70, hcell70⟩ := g70
      refine ⟨p70, o70, ha70, hb70, ?_⟩
      conv => whnf
      refine ⟨_, fun w' hw' => by rw [hw', ← hw8]; exact hcell70, ?_⟩
      conv => whnf
      rw [show ((j.sec + c' : Nat) : Int) * 256 + (e' : Int) + (k : Int) = ((at_ + k : Nat) : Int) by omega]
      refine Calls.ret (rprog_calls (f7.ext x8) ((at_ + k : Nat) : Int) (L.getD k 0#32) (by omega) (hop7.ok (by omega))) ?_
      rintro _ w9 ⟨rfl, f9, m9⟩
      conv => whnf
      have m89 : JMod g gw p w8 w9 := m9.sub fun k _ hk => by rcases hk with q | q; exact .inl q; exact .inr (.inl q)
      exact ⟨_, ⟨rfl, trivial⟩, rfl, f9, (m7.trans (Mod.ofExt _ x8)).trans m89, m9.keepBlk hb8 (fun q => by rcases q with q | q; exact n1 q; exact n2 q), m89.keepOwn ho8 (fun k hk q => by have := (ho8.ge k hk).1; have := hnt k (hSN k q); omega)⟩
    rintro β8 w8 ⟨hβ8, f8, m8, hb8, ho8⟩
    conv => whnf
    refine vcCond_split lok rfl (fun h6 => ?_) (fun h6 => ?_)
    · rw [hβ8] at h6
      have h6 : ¬ (progF sk (at_ + k : Nat) (L.getD k 0#32)).2 = 0 := by
        intro q; rw [decide_eq_true q] at h6; cases h6
      rw [if_neg h6] at epr
      rw [epr] at hput
      rw [if_neg (show ¬ ((7 : Int) = 0) by decide)] at hput
      rw [hput]
      conv => whnf
      refine ⟨hb8.can 2 (by simp [JS.rcells, rC]) _ rfl, fun w9 hw9 => ?_⟩
      have k9 := kill w8 w9 m8 hb8 hw9
      exact ⟨rfl, offKeep w8 w9 _ f8 hw9, k9.1, m8.trans k9.2⟩
    · rw [hβ8] at h6
      have h6 : (progF sk (at_ + k : Nat) (L.getD k 0#32)).2 = 0 := by
        by_cases q : (progF sk (at_ + k : Nat) (L.getD k 0#32)).2 = 0
        · exact q
        · rw [decide_eq_false q] at h6; cases h6
      rw [if_pos h6] at epr
      conv => whnf
      refine ⟨by omega, ?_⟩
      conv => whnf
      exact ⟨k + 1, ⟨rfl, rfl, rfl, rfl, rfl, rfl, trivial⟩, ⟨hkl, _, f8, (hop7.prog _ _).up (by omega), hb8, m8, ho8, epr⟩, by omega⟩
  · have h5 := df h5
    conv => whnf
    have hkl : k = L.length := by omega
    rw [List.drop_of_length_le (by omega), progAllF] at epr
    rw [epr, if_pos rfl] at hput
    rw [hput]
    have hb7 : Blk w7 p 143 (rC g j.sec j.dead j.num j.words.length ja jc) := hb7
    refine ⟨_, hb7.cell (i := 4) rfl, ?_⟩
    conv => whnf
    intro z hz
    have hz79 : z = ((j.num + 1#32).toNat : Int) := by rw [hz, wu32, add1 _ jnum]; omega
    clear hz
    subst hz79
    conv => whnf
    refine ⟨hb7.can 4 (by simp [rC]) _ rfl, fun w8 hw8 => ?_⟩
    have hb8 : Blk w8 p 143 (rC g j.sec j.dead (j.num + 1#32) j.words.length ja jc) := by rw [hw8]; exact hb7.set 4 _
    have g8 := gr_of_set hw8
    clear hw8
    conv => whnf
    refine ⟨hb8.can 3 (by simp [rC]) _ rfl, fun w11 hw11 => ?_⟩
    have hb11 : Blk w11 p 143 (rC g j.sec j.dead (j.num + 1#32) 0 none 0) := by rw [hw11]; exact hb8.set 3 _
    have g11 := gr_of_set hw11
    clear hw11
    conv => whnf
    have mp : Mod (fun k => k = p) w7 w11 := (Mod.ofGr g8 fun k hk => (Option.some.inj hk).symm).trans (Mod.ofGr g11 fun k hk => (Option.some.inj hk).symm)
    have m11 : JMod g gw p w2 w11 := m7.trans (mp.sub fun k _ hk => .inr (.inr hk))
    have f11 := f7.keep mp n1.symm n2.symm
    have z11 := m11.size
    refine ⟨_, hb11.cell (i := 3) rfl, ?_⟩
    conv => whnf
    have g12 := (Own.nil 42 u32v w11.heap.size w11).append (ty := 37) (d := rc) e32.toElem (fun _ => rfl) (hr w11 m11) (by simp; omega) (Nat.le_refl _)
    obtain ⟨a12, c12, w12, hr12, ho12, g12, _⟩ := g12
    rw [List.nil_append] at hr12 ho12
    refine ⟨_, _, hr12, ?_⟩
    have x12 : Ext w11 w12 := Gr.ext g12
    have hb12 := hb11.ext x12
    conv => whnf
    refine ⟨hb12.can 3 (by simp [rC]) _ rfl, fun w13 hw13 => ?_⟩
    have hb13 : Blk w13 p 143 (rC g j.sec j.dead (j.num + 1#32) rec.length a12 c12) := by rw [hw13]; exact hb12.set 3 _
    have g13 := gr_of_set hw13
    clear hw13
    have m13 : JMod g gw p w2 w13 := (m11.trans (Mod.ofExt _ x12)).trans (Mod.ofGr g13 S1)
    have f13 := (f11.ext x12).keep (S := fun k => k = p) (Mod.ofGr g13 fun k hk => (Option.some.inj hk).symm) n1.symm n2.symm
    have hpl := hnt p hself
    have hBw := Nat.le_trans hlo (Nat.le_of_lt hpl)
    refine ⟨rfl, f13, ⟨⟨a12, c12, hb13, ?_, fun b hb hn => ?_⟩, hlo, fun k hk => Nat.lt_of_lt_of_le (hnt k hk) m13.size, hself⟩, m13⟩
    · refine (g13.keepOwn ho12 fun k hk e => ?_).base (by omega)
      have := (ho12.ge k hk).1
      have e := Option.some.inj e
      omega
    · have := (ho12.ge b hb).1
      have := hnt b hn
      omega
end Go.Proofs.Ytgipackjnncabaa
