/- Walks of layer 7, second part: what a sector tells (the program's). -/
import Derived.Test.YtgipackjnncabaaW07a
import Derived.Test.YtgipackjnncabaaVcX
set_option linter.unusedVariables false
namespace Go.Proofs.Ytgipackjnncabaa
open Go.Vc Go.RowKit

/-- found's cells -/
def foundC (q : BitVec 32) (a : Option Addr) (n c : Nat) (e : Nat) (b : Bool) : List Value := [u32v q, .slice a n c, .int .i64 e, .bool b]
theorem foundC_one (q : BitVec 32) (a : Option Addr) (n c : Nat) (e : Nat) (b : Bool) : ∀ u ∈ foundC q a n c e b, u.oneCell' = true := by
  intro u hu
  simp only [foundC, List.mem_cons, List.not_mem_nil, or_false] at hu
  rcases hu with rfl | rfl | rfl | rfl <;> rfl
def LookPost (a0 : Option Addr) (ws : List (BitVec 32)) (w : World) (v : Value) (w' : World) : Prop :=
  ∃ a c, v = .agg (foundC (tellF ws).number a (tellF ws).words.length c (tellF ws).end_ (tellF ws).clean).toArray ∧ SubSl a0 ws a (tellF ws).words ∧ Ext w w'


set_option maxHeartbeats 2000000 in
theorem look_calls {w : World} {a : Option Addr} {c : Nat} {ws : List (BitVec 32)} (h : Sl u32v w a ws) (hl : ws.length ≤ 65536) (hc : ws.length ≤ c) (hcm : c ≤ 9223372036854775807) :
    Calls Try.prog 165 #[.slice a ws.length c] w (Ret (LookPost a ws w)) := by
  refine calls_of_vcS lok Try.func165 ?_ rfl
  conv => whnf
  intro w1 hw1
  have hb1 : Blk w1 w.heap.size 206 (foundC 0#32 none 0 0 0 false) := by rw [hw1]; exact Blk.new w 206 _
  have x1 : Ext w w1 := by rw [hw1]; exact Ext.new _ _
  have hz1 : w1.heap.size = w.heap.size + 1 := by rw [hw1]; simp
  clear hw1
  conv => whnf
  intro w2 hw2
  have hb2 : Blk w2 w1.heap.size 206 (foundC 0#32 none 0 0 0 false) := by rw [hw2]; exact Blk.new w1 206 _
  have x2 : Ext w w2 := x1.trans (by rw [hw2]; exact Ext.new _ _)
  have hb1 : Blk w2 w.heap.size 206 (foundC 0#32 none 0 0 0 false) := hb1.ext (by rw [hw2]; exact Ext.new _ _)
  have hne : w.heap.size ≠ w1.heap.size := by omega
  have hB : w.heap.size ≤ w1.heap.size := by omega
  clear hw2 hz1
  generalize hbr : w.heap.size = br at *
  generalize hbx : w1.heap.size = bx at *
  conv => whnf
  refine vcLoop_meet 0 (fun t : Option Addr × Nat => [(2, .pointer (some ⟨br, 0, none⟩)), (3, .pointer (some ⟨bx, 0, none⟩)), (0, .slice a ws.length c)])
    (fun t w' => Blk w' br 206 (foundC 0#32 none 0 0 0 false) ∧ Blk w' bx 206 (foundC (tellF ws).number t.1 (tellF ws).words.length t.2 (tellF ws).end_ false) ∧ SubSl a ws t.1 (tellF ws).words ∧ Ext w w') ?_ ?_
  · refine vcLoop_inv lok (σ := Nat × BitVec 32 × List (BitVec 32) × Option Addr × Nat)
      (fun _ => [(2, .pointer (some ⟨br, 0, none⟩)), (3, .pointer (some ⟨bx, 0, none⟩)), (0, .slice a ws.length c)])
      (fun ⟨at_, p, rec, ra, rc⟩ w' => at_ ≤ ws.length ∧ p.toNat ≤ 2147483647 ∧ SubSl a ws ra rec ∧ goF ws 0 0#32 [] = goF ws at_ p rec ∧ Blk w' br 206 (foundC 0#32 none 0 0 0 false) ∧ Blk w' bx 206 (foundC p ra rec.length rc at_ false) ∧ Ext w w') (fun t => ws.length - t.1)
      (0, 0#32, [], none, 0) ⟨rfl, rfl, rfl, trivial⟩ ⟨Nat.zero_le _, by decide, fun _ _ => .inl rfl, rfl, hb1, hb2, x2⟩ ?_
    rintro ⟨at_, p, rec, ra, rc⟩ w3 ⟨hat, hp, hrec, hgo, hr, hx, x3⟩
    have hstop : ¬ goodB (ws.drop at_) p → ∀ w', Blk w' br 206 (foundC 0#32 none 0 0 0 false) → Blk w' bx 206 (foundC p ra rec.length rc at_ false) → SubSl a ws ra rec → Ext w w' →
        ∃ t : Option Addr × Nat, Blk w' br 206 (foundC 0#32 none 0 0 0 false) ∧ Blk w' bx 206 (foundC (tellF ws).number t.1 (tellF ws).words.length t.2 (tellF ws).end_ false) ∧ SubSl a ws t.1 (tellF ws).words ∧ Ext w w' := by
      intro hno w' k1 k2 k3 k4
      have hst := goF_stop (w := ws) (at_ := at_) (prev := p) (rec := rec) hno
      rw [hst] at hgo
      have e : tellF ws = ⟨p, rec, at_, cleanF (ws.drop at_)⟩ := by unfold tellF; rw [hgo]
      rw [e]
      exact ⟨(ra, rc), k1, k2, k3, k4⟩
    conv => whnf
    refine ⟨_, hx.cell (i := 2) rfl, ?_⟩
    conv => whnf
    refine ⟨by omega, ?_⟩
    conv => whnf
    refine vcCond_split lok rfl (fun h1 => ?_) (fun h1 => ?_)
    rotate_left
    · have h1 := df h1
      conv => whnf
      have g := hstop (fun g => by have := g.1.1.1; rw [List.length_drop] at this; omega) w3 hr hx hrec x3
      obtain ⟨t, ht⟩ := g
      exact ⟨t, ⟨rfl, rfl, rfl, trivial⟩, ht⟩
    have h1 := dt h1
    conv => whnf
    refine ⟨_, hx.cell (i := 2) rfl, ?_⟩
    conv => whnf
    refine ⟨⟨by omega, by omega, by omega⟩, ?_⟩
    intro hd hhd
    have hsd := (h.ext x3).drop at_ c hc
    rw [Int.toNat_natCast] at hhd ⊢
    have hsd0 := fun (w0 : World) (h0 : Sl u32v w0 a ws) => h0.drop at_ c hc
    rw [← hhd] at hsd hsd0
    clear hhd
    have hsd0 : SubSl a ws hd (ws.drop at_) := hsd0
    have hdl : (ws.drop at_).length = ws.length - at_ := List.length_drop
    have hgd := @goF_good ws at_ p rec
    have hll := @laid_iff (ws.drop at_)
    rw [← hdl]
    generalize ws.drop at_ = d at *
    have hcd : d.length ≤ c - at_ := by omega
    have hcd2 : c - at_ ≤ 9223372036854775807 := by omega
    generalize c - at_ = cd at *
    conv => whnf
    have g12 := sl_get (hsd) (1) (1) (by omega) (by omega)
    obtain ⟨p12, o12, ha12, hb12, hcell12⟩ := g12
    refine ⟨p12, o12, ha12, hb12, ?_⟩
    conv => whnf
    refine ⟨_, hcell12, ?_⟩
    conv => whnf
    have eN : numB d = d.getD 0 0#32 := rfl
    have eS : sizeB d = (d.getD 1 0#32).toNat := rfl
    have hszlt := (d.getD 1 0#32).isLt
    refine vcReg_meet lok (fun β : Bool => [(23, .bool β)]) (fun β w' => w' = w3 ∧ β = !decide (1 ≤ (numB d).toNat ∧ (numB d).toNat ≤ 2147483647)) [23] (fun _ => rfl) rfl ?_ ?_
    · conv => whnf
      have g14 := sl_get (hsd) (0) (0) (by omega) (by omega)
      obtain ⟨p14, o14, ha14, hb14, hcell14⟩ := g14
      refine ⟨p14, o14, ha14, hb14, ?_⟩
      conv => whnf
      refine ⟨_, hcell14, ?_⟩
      conv => whnf
      refine bcase (fun k1 => ?_) (fun k1 => ?_)
      · have k1 := dt k1
        conv => whnf
        exact ⟨_, ⟨rfl, trivial⟩, rfl, by rw [eq_comm, Bool.not_eq_true', decide_eq_false_iff_not, eN]; omega⟩
      have k1 := df k1
      conv => whnf
      have g17 := sl_get (hsd) (0) (0) (by omega) (by omega)
      obtain ⟨p17, o17, ha17, hb17, hcell17⟩ := g17
      refine ⟨p17, o17, ha17, hb17, ?_⟩
      conv => whnf
      refine ⟨_, hcell17, ?_⟩
      conv => whnf
      refine ⟨_, ⟨rfl, trivial⟩, rfl, ?_⟩
      rw [eN]
      by_cases k2 : (d.getD 0 0#32).toNat ≤ 2147483647
      · rw [decide_eq_false (by omega), decide_eq_true ⟨by omega, k2⟩]; rfl
      · rw [decide_eq_true (by omega), decide_eq_false (fun q => k2 q.2)]; rfl
    rintro β w4 ⟨hw4, hβ⟩
    subst hw4
    conv => whnf
    refine vcCond_split lok rfl (fun h2 => ?_) (fun h2 => ?_)
    · subst h2
      conv => whnf
      refine vcCond_true lok (rfl) ?_
      conv => whnf
      have g := hstop (fun g => by rw [decide_eq_true g.1.1.2.1] at hβ; cases hβ) w4 hr hx hrec x3
      obtain ⟨t, ht⟩ := g
      exact ⟨t, ⟨rfl, rfl, rfl, trivial⟩, ht⟩
    subst h2
    have hq : 1 ≤ (numB d).toNat ∧ (numB d).toNat ≤ 2147483647 := by
      by_cases g : 1 ≤ (numB d).toNat ∧ (numB d).toNat ≤ 2147483647
      · exact g
      · rw [decide_eq_false g] at hβ; cases hβ
    clear hβ
    conv => whnf
    refine vcDraw_meet lok mixed (fun w' => w' = w4.drew) [] [0, 1, 2, 3, 4, 5, 6, 7, 8, 9, 10, 11, 12] (fun β : Bool => [(23, .bool β)]) (fun β w' => w' = w4.drew ∧ β = !decide (p = 0#32 ∨ numB d = p + 1#32)) [23] (fun _ => rfl) rfl (by kernel_rfl) (fun w5 hw5 => ⟨hw5, ?_⟩) ?_
    · have x5 : Ext w4 w5 := hw5 ▸ Ext.drew w4
      have hx5 := hx.ext x5
      have hs5 := hsd.ext x5
      conv => whnf
      refine ⟨_, fun w' hw' => by rw [hw', ← hw5]; exact hx5.cell (i := 0) rfl, ?_⟩
      conv => whnf
      refine bcase (fun k1 => ?_) (fun k1 => ?_)
      · have k1 := dt k1
        conv => whnf
        have g26 := sl_get (hs5) (0) (0) (by omega) (by omega)
        obtain ⟨p26, o26, ha26, hb26, hcell26⟩ := g26
        refine ⟨p26, o26, ha26, hb26, ?_⟩
        conv => whnf
        refine ⟨_, fun w' hw' => by rw [hw', ← hw5]; exact hcell26, ?_⟩
        conv => whnf
        refine ⟨_, fun w' hw' => by rw [hw', ← hw5]; exact hx5.cell (i := 0) rfl, ?_⟩
        conv => whnf
        intro z hz
        have hz28 : z = ((p + 1#32).toNat : Int) := by rw [hz, wu32, add1 p hp]; omega
        clear hz
        subst hz28
        conv => whnf
        refine ⟨_, ⟨rfl, trivial⟩, hw5, ?_⟩
        congr 1
        rw [decide_eq_decide, eN]
        refine Iff.trans int_eq ⟨fun e => .inr e, fun e => ?_⟩
        rcases e with e | e
        · rw [e] at k1; exact absurd k1 (by decide)
        · exact e
      · have k1 := df k1
        conv => whnf
        refine ⟨_, ⟨rfl, trivial⟩, hw5, ?_⟩
        rw [decide_eq_true (.inl (num_zero.1 (by omega)))]; rfl
    rintro β w5 ⟨hw5, hβ⟩
    have x5 : Ext w4 w5 := hw5 ▸ Ext.drew w4
    clear hw5
    replace hx := hx.ext x5
    replace hr := hr.ext x5
    replace hsd := hsd.ext x5
    replace x3 := x3.trans x5
    clear x5
    conv => whnf
    refine vcCond_split lok rfl (fun h2 => ?_) (fun h2 => ?_)
    · subst h2
      conv => whnf
      have g := hstop (fun g => by rw [decide_eq_true g.2] at hβ; cases hβ) w5 hr hx hrec x3
      obtain ⟨t, ht⟩ := g
      exact ⟨t, ⟨rfl, rfl, rfl, trivial⟩, ht⟩
    subst h2
    have hpq : p = 0#32 ∨ numB d = p + 1#32 := by
      by_cases g : p = 0#32 ∨ numB d = p + 1#32
      · exact g
      · rw [decide_eq_false g] at hβ; cases hβ
    clear hβ
    conv => whnf
    refine vcReg_meet lok (fun β : Bool => [(46, .bool β)]) (fun β w' => w' = w5 ∧ β = !decide (1 ≤ sizeB d ∧ sizeB d ≤ 64 ∧ sizeB d + 4 ≤ d.length)) [46] (fun _ => rfl) rfl ?_ ?_
    · conv => whnf
      refine bcase (fun k1 => ?_) (fun k1 => ?_)
      · have k1 := dt k1
        conv => whnf
        exact ⟨_, ⟨rfl, trivial⟩, rfl, by rw [eq_comm, Bool.not_eq_true', decide_eq_false_iff_not]; omega⟩
      have k1 := df k1
      conv => whnf
      refine bcase (fun k2 => ?_) (fun k2 => ?_)
      · have k2 := dt k2
        conv => whnf
        exact ⟨_, ⟨rfl, trivial⟩, rfl, by rw [eq_comm, Bool.not_eq_true', decide_eq_false_iff_not]; omega⟩
      have k2 := df k2
      conv => whnf
      intro z hz
      have hz39 : z = (sizeB d : Int) := by rw [hz, eS]; exact wi64k (by omega)
      clear hz
      subst hz39
      conv => whnf
      refine ⟨by omega, ?_⟩
      conv => whnf
      refine ⟨_, ⟨rfl, trivial⟩, rfl, ?_⟩
      by_cases k3 : sizeB d + 4 ≤ d.length
      · rw [decide_eq_false (by omega), decide_eq_true ⟨by omega, by omega, k3⟩]; rfl
      · rw [decide_eq_true (by omega), decide_eq_false (fun q => k3 q.2.2)]; rfl
    rintro β w6 ⟨hw6, hβ⟩
    subst hw6
    conv => whnf
    refine vcCond_split lok rfl (fun h2 => ?_) (fun h2 => ?_)
    · subst h2
      conv => whnf
      have g := hstop (fun g => by rw [decide_eq_true g.1.1.2.2] at hβ; cases hβ) w6 hr hx hrec x3
      obtain ⟨t, ht⟩ := g
      exact ⟨t, ⟨rfl, rfl, rfl, trivial⟩, ht⟩
    subst h2
    have hsz : 1 ≤ sizeB d ∧ sizeB d ≤ 64 ∧ sizeB d + 4 ≤ d.length := by
      by_cases g : 1 ≤ sizeB d ∧ sizeB d ≤ 64 ∧ sizeB d + 4 ≤ d.length
      · exact g
      · rw [decide_eq_false g] at hβ; cases hβ
    clear hβ
    have hll := hll hsz.2.2
    have eR : recB d = (d.drop 2).take (sizeB d) := rfl
    have eRl := recB_len hsz.2.2
    conv => whnf
    intro z hz
    have hz45 : z = (sizeB d : Int) := by rw [hz, eS]; exact wi64k (by omega)
    clear hz
    subst hz45
    conv => whnf
    refine ⟨by omega, ?_⟩
    conv => whnf
    refine ⟨⟨by omega, by omega⟩, ?_⟩
    have e1 : ((sizeB d : Int) + 2).toNat = (d.take (sizeB d + 2)).length := by rw [List.length_take]; omega
    have hst := hsd.take (sizeB d + 2)
    have hstl : (d.take (sizeB d + 2)).length ≤ 66 := by rw [List.length_take]; omega
    rw [e1]
    clear e1
    generalize d.take (sizeB d + 2) = tk at *
    conv => whnf
    refine Calls.ret (bytes_calls hst (by omega)) ?_
    rintro _ w7 ⟨a7, c7, rfl, ho7, x7⟩
    conv => whnf
    refine Calls.ret (sum_calls ho7.sl (by rw [bytesF_len]; omega)) ?_
    rintro _ w8 ⟨rfl, x8⟩
    conv => whnf
    have x78 := x7.trans x8
    replace hx := hx.ext x78
    replace hr := hr.ext x78
    replace hsd := hsd.ext x78
    replace x3 := x3.trans x78
    clear x78 x7 x8 ho7
    refine vcReg_meet lok (fun β : Bool => [(83, .bool β)]) (fun β w' => w' = w8 ∧ β = !decide (d.getD (sizeB d + 2) 0#32 = sumF (bytesF tk) ∧ d.getD (sizeB d + 3) 0#32 = 0#32)) [83] (fun _ => rfl) rfl ?_ ?_
    · conv => whnf
      refine ⟨by omega, ?_⟩
      conv => whnf
      have g52 := sl_get (hsd) ((sizeB d : Int) + 2) (sizeB d + 2) (by omega) (by omega)
      obtain ⟨p52, o52, ha52, hb52, hcell52⟩ := g52
      refine ⟨p52, o52, ha52, hb52, ?_⟩
      conv => whnf
      refine ⟨_, hcell52, ?_⟩
      conv => whnf
      refine bcase (fun k1 => ?_) (fun k1 => ?_)
      · have k1 := ne_true k1
        conv => whnf
        refine ⟨_, ⟨rfl, trivial⟩, rfl, ?_⟩
        rw [decide_eq_false (fun g => k1 (int_eq.2 g.1))]; rfl
      have k1 := int_eq.1 (ne_false k1)
      conv => whnf
      refine ⟨by omega, ?_⟩
      conv => whnf
      have g56 := sl_get (hsd) ((sizeB d : Int) + 3) (sizeB d + 3) (by omega) (by omega)
      obtain ⟨p56, o56, ha56, hb56, hcell56⟩ := g56
      refine ⟨p56, o56, ha56, hb56, ?_⟩
      conv => whnf
      refine ⟨_, hcell56, ?_⟩
      conv => whnf
      refine ⟨_, ⟨rfl, trivial⟩, rfl, ?_⟩
      congr 1
      rw [decide_eq_decide]
      exact ⟨fun e => ⟨k1, num_zero.1 e⟩, fun e => num_zero.2 e.2⟩
    rintro β w9 ⟨hw9, hβ⟩
    subst hw9
    conv => whnf
    refine vcCond_split lok rfl (fun h2 => ?_) (fun h2 => ?_)
    · subst h2
      conv => whnf
      have g := hstop (fun g => by rw [decide_eq_true (hll.1 g.1.2)] at hβ; cases hβ) w9 hr hx hrec x3
      obtain ⟨t, ht⟩ := g
      exact ⟨t, ⟨rfl, rfl, rfl, trivial⟩, ht⟩
    subst h2
    have hlaid : d.getD (sizeB d + 2) 0#32 = sumF (bytesF tk) ∧ d.getD (sizeB d + 3) 0#32 = 0#32 := by
      by_cases g : d.getD (sizeB d + 2) 0#32 = sumF (bytesF tk) ∧ d.getD (sizeB d + 3) 0#32 = 0#32
      · exact g
      · rw [decide_eq_false g] at hβ; cases hβ
    clear hβ
    have hgood : goodB d p := ⟨⟨⟨by omega, hq, hsz⟩, hll.2 hlaid⟩, hpq⟩
    have hgd := hgd hgood
    conv => whnf
    refine vcDraw_go lok mixed (fun w' => w' = w9.drew) [] [0, 1, 2, 3, 4, 5, 6, 7, 8, 9, 10] (by kernel_rfl) (fun w10 hw10 => ⟨hw10, ?_⟩)
    have x10 : Ext w9 w10 := hw10 ▸ Ext.drew w9
    have hx10 := hx.ext x10
    have hs10 := hsd.ext x10
    conv => whnf
    have g62 := sl_get (hs10) (0) (0) (by omega) (by omega)
    obtain ⟨p62, o62, ha62, hb62, hcell62⟩ := g62
    refine ⟨p62, o62, ha62, hb62, ?_⟩
    conv => whnf
    refine ⟨_, fun w' hw' => by rw [hw', ← hw10]; exact hcell62, ?_⟩
    conv => whnf
    refine ⟨by omega, ?_⟩
    conv => whnf
    refine ⟨⟨by omega, by omega, by omega⟩, ?_⟩
    intro b hb
    have hsl := fun (w0 : World) (h0 : Sl u32v w0 a ws) => Sl.mid (hsd0 w0 h0) 2 (sizeB d + 2) cd (by omega) (by omega) hcd
    rw [show sizeB d + 2 - 2 = sizeB d by omega, ← eR] at hsl
    have e2 : ((sizeB d : Int) + 2).toNat - (2 : Int).toNat = (recB d).length := by omega
    rw [e2]
    clear e2
    have hb2 : b = if cd = 2 then hd else hd.map (·.add (2 * 1)) := hb
    rw [← hb2] at hsl
    clear hb hb2
    have hsl : SubSl a ws b (recB d) := hsl
    generalize recB d = rb at *
    conv => whnf
    refine ⟨hx10.can 0 (by simp [foundC]) _ rfl, fun w11 hw11 => ?_⟩
    have hx11 : Blk w11 bx 206 (foundC (numB d) ra rec.length rc at_ false) := by rw [hw11]; exact hx10.set 0 _
    have g11 := gr_of_set hw11
    clear hw11
    conv => whnf
    refine ⟨hx11.can 1 (by simp [foundC]) _ rfl, fun w12 hw12 => ?_⟩
    have hx12 : Blk w12 bx 206 (foundC (numB d) b rb.length (cd - (2 : Int).toNat) at_ false) := by rw [hw12]; exact hx11.set 1 _
    have g12 := gr_of_set hw12
    clear hw12
    conv => whnf
    refine ⟨_, hx12.cell (i := 2) rfl, ?_⟩
    conv => whnf
    refine ⟨by omega, ?_⟩
    conv => whnf
    refine ⟨by omega, ?_⟩
    conv => whnf
    refine ⟨hx12.can 2 (by simp [foundC]) _ rfl, fun w13 hw13 => ?_⟩
    have hx13 : Blk w13 bx 206 (foundC (numB d) b rb.length (cd - (2 : Int).toNat) (at_ + (sizeB d + 4)) false) := by
      rw [hw13]
      have g := hx12.set 2 (.int .i64 ((at_ : Int) + ((sizeB d : Int) + 4)))
      have e : ((at_ : Int) + ((sizeB d : Int) + 4)) = ((at_ + (sizeB d + 4) : Nat) : Int) := by omega
      rw [e] at g ⊢
      exact g
    have g13 := gr_of_set hw13
    clear hw13
    have hz : w.heap.size ≤ bx := by omega
    have q0 : ∀ g, some bx = some g → w.heap.size ≤ g := fun g hg => by cases hg; exact hz
    have x13 : Ext w w13 := g13.extOf (g12.extOf (g11.extOf (x3.trans x10) q0) q0) q0
    have hr13 := hr.ext x10
    have hr13 : Blk w13 br 206 (foundC 0#32 none 0 0 0 false) := by
      have n1 : some br ≠ some bx := fun e => hne (Option.some.inj e)
      have h11 := hr13.keep (g11.block br hr13.lt n1)
      have h12 := h11.keep (g12.block br h11.lt n1)
      exact h12.keep (g13.block br h12.lt n1)
    conv => whnf
    exact ⟨(at_ + (sizeB d + 4), numB d, rb, b, cd - (2 : Int).toNat), ⟨rfl, rfl, rfl, trivial⟩, ⟨by omega, hq.2, hsl, hgo.trans hgd, hr13, hx13, x13⟩, by show ws.length - (at_ + (sizeB d + 4)) < d.length; omega⟩
  · rintro ⟨ra, rc⟩ w3 ⟨hr, hx, hrec, x3⟩
    have htok := tell_ok ws
    conv => whnf
    refine ⟨hx.can 3 (by simp [foundC]) _ rfl, fun w4 hw4 => ?_⟩
    have hx4 : Blk w4 bx 206 (foundC (tellF ws).number ra (tellF ws).words.length rc (tellF ws).end_ true) := by rw [hw4]; exact hx.set 3 _
    have g4 := gr_of_set hw4
    clear hw4
    conv => whnf
    refine ⟨_, hx4.cell (i := 2) rfl, ?_⟩
    conv => whnf
    refine ⟨⟨by omega, by omega, by omega⟩, ?_⟩
    intro b hb
    have hsl := h.drop (tellF ws).end_ c hc
    rw [Int.toNat_natCast] at hb ⊢
    rw [← hb] at hsl
    clear hb
    have hz : w.heap.size ≤ bx := by omega
    have q0 : ∀ g, some bx = some g → w.heap.size ≤ g := fun g hg => by cases hg; exact hz
    have x4 : Ext w w4 := g4.extOf x3 q0
    have n1 : some br ≠ some bx := fun e => hne (Option.some.inj e)
    have hr4 := hr.keep (g4.block br hr.lt n1)
    have hdl : (ws.drop (tellF ws).end_).length = ws.length - (tellF ws).end_ := List.length_drop
    have eC : (tellF ws).clean = cleanF (ws.drop (tellF ws).end_) := rfl
    rw [← hdl]
    generalize ws.drop (tellF ws).end_ = d at *
    conv => whnf
    refine vcLoop_inv lok (σ := Nat)
      (fun i => [(105, .int .i64 i), (103, .slice b d.length (c - (tellF ws).end_)), (104, .int .i64 d.length), (2, .pointer (some ⟨br, 0, none⟩)), (3, .pointer (some ⟨bx, 0, none⟩))])
      (fun i w' => i ≤ d.length ∧ Blk w' br 206 (foundC 0#32 none 0 0 0 false) ∧ Blk w' bx 206 (foundC (tellF ws).number ra (tellF ws).words.length rc (tellF ws).end_ (cleanF (d.take i))) ∧ Ext w w') (fun i => d.length - i)
      0 ⟨rfl, rfl, rfl, rfl, rfl, trivial⟩ ⟨Nat.zero_le _, hr4, hx4, x4⟩ ?_
    rintro i w5 ⟨hi, hr5, hx5, x5⟩
    conv => whnf
    refine vcCond_split lok rfl (fun h1 => ?_) (fun h1 => ?_)
    · have h1 := dt h1
      conv => whnf
      have hil : i < d.length := by omega
      have hs5 := hsl.ext x5
      have g78 := sl_get (hs5) ((i : Int)) (i) (by omega) (by omega)
      obtain ⟨p78, o78, ha78, hb78, hcell78⟩ := g78
      refine ⟨p78, o78, ha78, hb78, ?_⟩
      conv => whnf
      refine ⟨_, hcell78, ?_⟩
      conv => whnf
      have ecl : cleanF (d.take (i + 1)) = (cleanF (d.take i) && decide (d.getD i 0#32 = ones)) := clean_step d 0 i (Nat.zero_le _) hil
      have fin : ∀ w6, w6 = w5.setCell ⟨bx, 0 + 3, none⟩ (.bool (cleanF (d.take (i + 1)))) → Blk w6 br 206 (foundC 0#32 none 0 0 0 false) ∧ Blk w6 bx 206 (foundC (tellF ws).number ra (tellF ws).words.length rc (tellF ws).end_ (cleanF (d.take (i + 1)))) ∧ Ext w w6 := by
        intro w6 hw6
        have g6 := gr_of_set hw6
        exact ⟨hr5.keep (g6.block br hr5.lt n1), by rw [hw6]; exact hx5.set 3 _, g6.extOf x5 q0⟩
      refine vcReg_meet lok (fun _ : Unit => []) (fun _ w' => Blk w' br 206 (foundC 0#32 none 0 0 0 false) ∧ Blk w' bx 206 (foundC (tellF ws).number ra (tellF ws).words.length rc (tellF ws).end_ (cleanF (d.take (i + 1)))) ∧ Ext w w') [] (fun _ => rfl) rfl ?_ ?_
      · conv => whnf
        refine ⟨_, hx5.cell (i := 3) rfl, ?_⟩
        conv => whnf
        refine bcase (fun k => ?_) (fun k => ?_)
        · conv => whnf
          refine ⟨hx5.can 3 (by simp [foundC]) _ rfl, fun w6 hw6 => ?_⟩
          conv => whnf
          refine ⟨(), trivial, fin w6 ?_⟩
          rw [hw6, ecl, k, Bool.true_and]
          have e : decide (((d.getD i 0#32).toNat : Int) = 4294967295) = decide (d.getD i 0#32 = ones) := decide_eq_decide.2 ones_eq
          rw [e]
        · conv => whnf
          refine ⟨hx5.can 3 (by simp [foundC]) _ rfl, fun w6 hw6 => ?_⟩
          conv => whnf
          refine ⟨(), trivial, fin w6 ?_⟩
          rw [hw6, ecl, k, Bool.false_and]
      rintro ⟨⟩ w6 ⟨hr6, hx6, x6⟩
      conv => whnf
      refine ⟨by omega, ?_⟩
      conv => whnf
      exact ⟨i + 1, ⟨rfl, rfl, rfl, rfl, rfl, trivial⟩, ⟨by omega, hr6, hx6, x6⟩, by omega⟩
    · have h1 := df h1
      conv => whnf
      have hil : i = d.length := by omega
      rw [List.take_of_length_le (by omega), ← eC] at hx5
      refine ⟨_, rfl, hx5.cells, ?_⟩
      conv => whnf
      have k6 := Blk.storeAgg lok hr5 (t := 206) (us := foundC (tellF ws).number ra (tellF ws).words.length rc (tellF ws).end_ (tellF ws).clean) rfl 0 (Nat.le_refl 4) (foundC_one _ _ _ _ _ _)
      obtain ⟨w6, hr6, hb6, g6⟩ := k6
      have hb6 : Blk w6 br 206 (foundC (tellF ws).number ra (tellF ws).words.length rc (tellF ws).end_ (tellF ws).clean) := hb6
      have x6 : Ext w w6 := g6.extOf x5 (fun g hg => by cases hg; omega)
      refine ⟨w6, hr6, ?_⟩
      conv => whnf
      refine ⟨_, rfl, hb6.cells, ?_⟩
      conv => whnf
      exact ⟨ra, rc, rfl, hrec, x6⟩
end Go.Proofs.Ytgipackjnncabaa
