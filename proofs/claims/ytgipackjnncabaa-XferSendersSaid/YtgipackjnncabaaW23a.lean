/- Walks of layer 23: packets. -/
import Derived.Test.YtgipackjnncabaaPl23
import Derived.Test.YtgipackjnncabaaW06b
set_option linter.unusedVariables false
namespace Go.Proofs.Ytgipackjnncabaa
open Go.Vc Go.RowKit

/-- a packet's cells; its data lie at a -/
def Pk.cells (p : Pk) (a : Option Addr) (c : Nat) : List Value := [.int .i64 p.kind, u32v p.ver, .int .i64 p.size, .int .i64 p.chunk, .int .i64 p.state, u32v p.hav, .slice a p.data.length c]
theorem Pk.one (p : Pk) (a : Option Addr) (c : Nat) : ∀ u ∈ p.cells a c, u.oneCell' = true := by simp [Pk.cells, u32v, Value.oneCell']

theorem built112 (k v : Int) : Try.prog.built 112 [(0, .int .i64 k), (1, .int .u32 v)] = some #[.int .i64 k, .int .u32 v, .int .i64 0, .int .i64 0, .int .i64 0, .int .u32 0, .slice none 0 0] := by kernel_rfl

/-- is there such a packet? -/
theorem right_calls {w : World} (p : Pk) (a : Option Addr) (c : Nat) : Calls Try.prog 159 #[.agg (p.cells a c).toArray] w (Ret fun v w' => v = .bool (canP p) ∧ Ext w w') := by
  refine calls_of_vc lok Try.func159 ?_ rfl
  conv => whnf
  intro w1 hw1
  have hb1 : Blk w1 w.heap.size 112 (p.cells a c) := by rw [hw1]; exact Blk.new w 112 _
  have x1 : Ext w w1 := by rw [hw1]; exact Ext.new _ _
  clear hw1
  conv => whnf
  refine ⟨_, hb1.cell0 rfl, ?_⟩
  conv => whnf
  refine ⟨_, hb1.cell (i := 1) rfl, ?_⟩
  conv => whnf
  refine ⟨_, fun w => run_build w 112 _ _ (built112 p.kind p.ver.toNat), ?_⟩
  conv => whnf
  intro w2 hw2
  have hb2 : Blk w2 w1.heap.size 112 [.int .i64 0, .int .u32 0, .int .i64 0, .int .i64 0, .int .i64 0, .int .u32 0, .slice none 0 0] := by rw [hw2]; exact Blk.new w1 112 _
  have x2 : Ext w1 w2 := by rw [hw2]; exact Ext.new _ _
  clear hw2
  conv => whnf
  have k3 := Blk.storeAgg lok hb2 (t := 112) (us := (⟨p.kind, p.ver, 0, 0, 0, 0#32, []⟩ : Pk).cells none 0) rfl 0 (Nat.le_refl 7) (Pk.one _ _ _)
  obtain ⟨w3, hr3, hb3, hg3⟩ := k3
  have hb3 : Blk w3 w1.heap.size 112 ((⟨p.kind, p.ver, 0, 0, 0, 0#32, []⟩ : Pk).cells none 0) := hb3
  have x3 : Ext w1 w3 := hg3.extOf x2 (fun g hg => by cases hg; exact Nat.le_refl _)
  refine ⟨w3, hr3, ?_⟩
  have hb13 := hb1.ext x3
  have z1 := hb1.lt
  generalize hbq : w1.heap.size = bq at *
  generalize hbp : w.heap.size = bp at *
  conv => whnf
  refine ⟨_, hb13.cell0 rfl, ?_⟩
  conv => whnf
  have hE : Ext w w3 := x1.trans x3
  clear hr3 x3 hg3
  refine vcCond_meet (fun t : Bool × Pk => [(4, .bool t.1), (1, .pointer (some ⟨bp, 0, none⟩)), (3, .pointer (some ⟨bq, 0, none⟩))])
    (fun t w' => Blk w' bp 112 (p.cells a c) ∧ Blk w' bq 112 (t.2.cells none 0) ∧ Ext w w' ∧ (canP p = true ↔ t.1 = true ∧ t.2.size = p.size ∧ t.2.chunk = p.chunk ∧ t.2.state = p.state ∧ t.2.hav = p.hav)) ?_ ?_
  · refine vcCond_split lok rfl (fun k1 => ?_) (fun k1 => ?_)
    · have k1 := dt k1
      conv => whnf
      refine ⟨_, hb13.cell (i := 2) rfl, ?_⟩
      conv => whnf
      refine ⟨hb3.can 2 (by simp [Pk.cells]) _ rfl, fun w4 hw4 => ?_⟩
      have hb4 : Blk w4 bq 112 ((⟨p.kind, p.ver, p.size, 0, 0, 0#32, []⟩ : Pk).cells none 0) := by rw [hw4]; exact hb3.set 2 _
      have hg4 := gr_of_set hw4
      have hb14 : Blk w4 bp 112 (p.cells a c) := hb13.keep (hg4.block bp hb13.lt (fun e => by cases e; omega))
      have x4 : Ext w w4 := hg4.extOf hE (fun g hg => by cases hg; omega)
      clear hw4
      conv => whnf
      refine vcReg_meet lok (fun β : Bool => [(4, .bool β)]) (fun β w' => w' = w4 ∧ β = decide ((1 ≤ p.size ∧ p.size ≤ 2048) ∧ p.data.length = 0)) [4] (fun _ => rfl) rfl ?_ ?_
      · conv => whnf
        refine ⟨_, hb14.cell (i := 2) rfl, ?_⟩
        conv => whnf
        refine bcase (fun h2 => ?_) (fun h2 => ?_)
        · have h2 := dt h2
          conv => whnf
          refine ⟨_, hb14.cell (i := 2) rfl, ?_⟩
          conv => whnf
          refine bcase (fun h3 => ?_) (fun h3 => ?_)
          · have h3 := dt h3
            conv => whnf
            refine ⟨_, hb14.cell (i := 6) rfl, ?_⟩
            conv => whnf
            exact ⟨_, ⟨rfl, trivial⟩, rfl, by rw [decide_eq_decide]; omega⟩
          · have h3 := df h3
            conv => whnf
            exact ⟨_, ⟨rfl, trivial⟩, rfl, by rw [eq_comm, decide_eq_false_iff_not]; omega⟩
        · have h2 := df h2
          conv => whnf
          exact ⟨_, ⟨rfl, trivial⟩, rfl, by rw [eq_comm, decide_eq_false_iff_not]; omega⟩
      rintro β w5 ⟨hw5, hβ⟩
      subst hw5
      conv => whnf
      refine ⟨(β, ⟨p.kind, p.ver, p.size, 0, 0, 0#32, []⟩), ⟨rfl, rfl, rfl, trivial⟩, hb14, hb4, x4, ?_⟩
      rw [hβ]
      unfold canP
      rw [decide_eq_true_iff, decide_eq_true_iff]
      constructor
      · rintro (⟨_, h1, h2, h3, h4, h5⟩ | ⟨h1, _⟩ | ⟨h1, _⟩)
        · exact ⟨⟨h1, h5⟩, rfl, h2.symm, h3.symm, h4.symm⟩
        · omega
        · omega
      · rintro ⟨⟨h1, h5⟩, _, h2, h3, h4⟩
        exact .inl ⟨k1, h1, h2.symm, h3.symm, h4.symm, h5⟩
    · have k1 := df k1
      conv => whnf
      refine vcCond_split lok rfl (fun k2 => ?_) (fun k2 => ?_)
      · have k2 := dt k2
        conv => whnf
        refine ⟨_, hb13.cell (i := 3) rfl, ?_⟩
        conv => whnf
        refine ⟨hb3.can 3 (by simp [Pk.cells]) _ rfl, fun w4 hw4 => ?_⟩
        have hb4 : Blk w4 bq 112 ((⟨p.kind, p.ver, 0, p.chunk, 0, 0#32, []⟩ : Pk).cells none 0) := by rw [hw4]; exact hb3.set 3 _
        have hg4 := gr_of_set hw4
        have hb14 : Blk w4 bp 112 (p.cells a c) := hb13.keep (hg4.block bp hb13.lt (fun e => by cases e; omega))
        have x4 : Ext w w4 := hg4.extOf hE (fun g hg => by cases hg; omega)
        clear hw4
        conv => whnf
        refine vcReg_meet lok (fun β : Bool => [(4, .bool β)]) (fun β w' => w' = w4 ∧ β = decide ((0 ≤ p.chunk ∧ p.chunk ≤ 31) ∧ (1 ≤ p.data.length ∧ p.data.length ≤ 64))) [4] (fun _ => rfl) rfl ?_ ?_
        · conv => whnf
          refine ⟨_, hb14.cell (i := 3) rfl, ?_⟩
          conv => whnf
          refine bcase (fun h2 => ?_) (fun h2 => ?_)
          · have h2 := dt h2
            conv => whnf
            refine ⟨_, hb14.cell (i := 3) rfl, ?_⟩
            conv => whnf
            refine bcase (fun h3 => ?_) (fun h3 => ?_)
            · have h3 := dt h3
              conv => whnf
              refine ⟨_, hb14.cell (i := 6) rfl, ?_⟩
              conv => whnf
              refine bcase (fun h4 => ?_) (fun h4 => ?_)
              · have h4 := dt h4
                conv => whnf
                refine ⟨_, hb14.cell (i := 6) rfl, ?_⟩
                conv => whnf
                exact ⟨_, ⟨rfl, trivial⟩, rfl, by rw [decide_eq_decide]; omega⟩
              · have h4 := df h4
                conv => whnf
                exact ⟨_, ⟨rfl, trivial⟩, rfl, by rw [eq_comm, decide_eq_false_iff_not]; omega⟩
            · have h3 := df h3
              conv => whnf
              exact ⟨_, ⟨rfl, trivial⟩, rfl, by rw [eq_comm, decide_eq_false_iff_not]; omega⟩
          · have h2 := df h2
            conv => whnf
            exact ⟨_, ⟨rfl, trivial⟩, rfl, by rw [eq_comm, decide_eq_false_iff_not]; omega⟩
        rintro β w5 ⟨hw5, hβ⟩
        subst hw5
        conv => whnf
        refine ⟨(β, ⟨p.kind, p.ver, 0, p.chunk, 0, 0#32, []⟩), ⟨rfl, rfl, rfl, trivial⟩, hb14, hb4, x4, ?_⟩
        rw [hβ]
        unfold canP
        rw [decide_eq_true_iff, decide_eq_true_iff]
        constructor
        · rintro (⟨h1, _⟩ | ⟨_, h1, h2, h3, h4, h5⟩ | ⟨h1, _⟩)
          · omega
          · exact ⟨⟨h2, h5⟩, h1.symm, rfl, h3.symm, h4.symm⟩
          · omega
        · rintro ⟨⟨h2, h5⟩, h1, _, h3, h4⟩
          exact .inr (.inl ⟨k2, h1.symm, h2, h3.symm, h4.symm, h5⟩)
      · have k2 := df k2
        conv => whnf
        refine vcCond_split lok rfl (fun k3 => ?_) (fun k3 => ?_)
        · have k3 := dt k3
          conv => whnf
          refine vcDraw_meet lok mixed (fun w' => Blk w' bp 112 (p.cells a c)) [5] [0, 1, 2, 3, 4, 5, 6, 7]
            (fun _ : Unit => []) (fun _ w' => Blk w' bp 112 (p.cells a c) ∧ Blk w' bq 112 ((⟨p.kind, p.ver, 0, 0, p.state, p.hav, []⟩ : Pk).cells none 0) ∧ Ext w w') [] (fun _ => rfl) rfl (by kernel_rfl) (fun w4 hw4 => ⟨hb13.ext (hw4 ▸ Ext.drew w3), ?_⟩) ?_
          · have x4 : Ext w3 w4 := hw4 ▸ Ext.drew w3
            have hb34 := hb3.ext x4
            have hb14 := hb13.ext x4
            conv => whnf
            refine ⟨_, fun w' hw' => hw'.cell (i := 5) rfl, ?_⟩
            conv => whnf
            refine ⟨_, fun w' hw' => hw'.cell (i := 4) rfl, ?_⟩
            conv => whnf
            refine ⟨hb34.can 5 (by simp [Pk.cells]) _ rfl, fun w5 hw5 => ?_⟩
            have hb5 : Blk w5 bq 112 ((⟨p.kind, p.ver, 0, 0, 0, p.hav, []⟩ : Pk).cells none 0) := by rw [hw5]; exact hb34.set 5 _
            have hg5 := gr_of_set hw5
            have hb15 : Blk w5 bp 112 (p.cells a c) := hb14.keep (hg5.block bp hb14.lt (fun e => by cases e; omega))
            have x5 : Ext w w5 := hg5.extOf (hE.trans x4) (fun g hg => by cases hg; omega)
            clear hw5
            refine ⟨_, fun _ h => h, hb15, ?_⟩
            conv => whnf
            refine ⟨hb5.can 4 (by simp [Pk.cells]) _ rfl, fun w6 hw6 => ?_⟩
            have hb6 : Blk w6 bq 112 ((⟨p.kind, p.ver, 0, 0, p.state, p.hav, []⟩ : Pk).cells none 0) := by rw [hw6]; exact hb5.set 4 _
            have hg6 := gr_of_set hw6
            exact ⟨(), trivial, hb15.keep (hg6.block bp hb15.lt (fun e => by cases e; omega)), hb6, hg6.extOf x5 (fun g hg => by cases hg; omega)⟩
          rintro _ w4 ⟨hb14, hb4, x4⟩
          conv => whnf
          refine vcReg_meet lok (fun β : Bool => [(4, .bool β)]) (fun β w' => w' = w4 ∧ β = decide ((0 ≤ p.state ∧ p.state ≤ 2) ∧ p.data.length = 0)) [4] (fun _ => rfl) rfl ?_ ?_
          · conv => whnf
            refine ⟨_, hb14.cell (i := 4) rfl, ?_⟩
            conv => whnf
            refine bcase (fun h2 => ?_) (fun h2 => ?_)
            · have h2 := dt h2
              conv => whnf
              refine ⟨_, hb14.cell (i := 4) rfl, ?_⟩
              conv => whnf
              refine bcase (fun h3 => ?_) (fun h3 => ?_)
              · have h3 := dt h3
                conv => whnf
                refine ⟨_, hb14.cell (i := 6) rfl, ?_⟩
                conv => whnf
                exact ⟨_, ⟨rfl, trivial⟩, rfl, by rw [decide_eq_decide]; omega⟩
              · have h3 := df h3
                conv => whnf
                exact ⟨_, ⟨rfl, trivial⟩, rfl, by rw [eq_comm, decide_eq_false_iff_not]; omega⟩
            · have h2 := df h2
              conv => whnf
              exact ⟨_, ⟨rfl, trivial⟩, rfl, by rw [eq_comm, decide_eq_false_iff_not]; omega⟩
          rintro β w5 ⟨hw5, hβ⟩
          subst hw5
          conv => whnf
          refine ⟨(β, ⟨p.kind, p.ver, 0, 0, p.state, p.hav, []⟩), ⟨rfl, rfl, rfl, trivial⟩, hb14, hb4, x4, ?_⟩
          rw [hβ]
          unfold canP
          rw [decide_eq_true_iff, decide_eq_true_iff]
          constructor
          · rintro (⟨h1, _⟩ | ⟨h1, _⟩ | ⟨_, h1, h2, h3, h4⟩)
            · omega
            · omega
            · exact ⟨⟨h3, h4⟩, h1.symm, h2.symm, rfl, rfl⟩
          · rintro ⟨⟨h3, h4⟩, h1, h2, _, _⟩
            exact .inr (.inr ⟨k3, h1.symm, h2.symm, h3, h4⟩)
        · have k3 := df k3
          conv => whnf
          refine ⟨(false, ⟨p.kind, p.ver, 0, 0, 0, 0#32, []⟩), ⟨rfl, rfl, rfl, trivial⟩, hb13, hb3, hE, ?_⟩
          unfold canP
          simp only [decide_eq_true_eq]
          constructor
          · rintro (⟨h1, _⟩ | ⟨h1, _⟩ | ⟨h1, _⟩) <;> omega
          · rintro ⟨h1, _⟩; cases h1
  rintro ⟨ok, q⟩ w4 ⟨hb14, hb4, x4, hiff⟩
  conv => whnf
  refine vcReg_meet lok (fun β : Bool => [(2, .bool β)]) (fun β w' => w' = w4 ∧ β = canP p) [2] (fun _ => rfl) rfl ?_ ?_
  · have no : ∀ {P : Prop}, ¬ (ok = true ∧ q.size = p.size ∧ q.chunk = p.chunk ∧ q.state = p.state ∧ q.hav = p.hav) → false = canP p := fun h => by
      cases hc : canP p with
      | false => rfl
      | true => exact absurd (hiff.1 hc) h
    conv => whnf
    refine bcase (fun h1 => ?_) (fun h1 => ?_)
    rotate_left
    · subst h1
      conv => whnf
      exact ⟨_, ⟨rfl, trivial⟩, rfl, no (P := True) (fun h => by cases h.1)⟩
    subst h1
    conv => whnf
    refine ⟨_, hb4.cell (i := 2) rfl, ?_⟩
    conv => whnf
    refine ⟨_, hb14.cell (i := 2) rfl, ?_⟩
    conv => whnf
    refine bcase (fun h2 => ?_) (fun h2 => ?_)
    rotate_left
    · have h2 := df h2
      conv => whnf
      exact ⟨_, ⟨rfl, trivial⟩, rfl, no (P := True) (fun h => h2 h.2.1)⟩
    have h2 := dt h2
    conv => whnf
    refine ⟨_, hb4.cell (i := 3) rfl, ?_⟩
    conv => whnf
    refine ⟨_, hb14.cell (i := 3) rfl, ?_⟩
    conv => whnf
    refine bcase (fun h3 => ?_) (fun h3 => ?_)
    rotate_left
    · have h3 := df h3
      conv => whnf
      exact ⟨_, ⟨rfl, trivial⟩, rfl, no (P := True) (fun h => h3 h.2.2.1)⟩
    have h3 := dt h3
    conv => whnf
    refine ⟨_, hb4.cell (i := 4) rfl, ?_⟩
    conv => whnf
    refine ⟨_, hb14.cell (i := 4) rfl, ?_⟩
    conv => whnf
    refine bcase (fun h4 => ?_) (fun h4 => ?_)
    rotate_left
    · have h4 := df h4
      conv => whnf
      exact ⟨_, ⟨rfl, trivial⟩, rfl, no (P := True) (fun h => h4 h.2.2.2.1)⟩
    have h4 := dt h4
    conv => whnf
    refine ⟨_, hb4.cell (i := 5) rfl, ?_⟩
    conv => whnf
    refine ⟨_, hb14.cell (i := 5) rfl, ?_⟩
    conv => whnf
    refine ⟨_, ⟨rfl, trivial⟩, rfl, ?_⟩
    by_cases h5 : q.hav = p.hav
    · rw [hiff.2 ⟨rfl, h2, h3, h4, h5⟩, decide_eq_true (int_eq.2 h5)]
    · rw [decide_eq_false (fun h => h5 (int_eq.1 h))]
      exact no (P := True) (fun h => h5 h.2.2.2.2)
  rintro β w5 ⟨hw5, hβ⟩
  subst hw5
  conv => whnf
  exact ⟨by rw [hβ], x4⟩

/-- the reference's -/
theorem can_calls {w : World} (p : Pk) (a : Option Addr) (c : Nat) : Calls Try.prog 161 #[.agg (p.cells a c).toArray] w (Ret fun v w' => v = .bool (canP p) ∧ Ext w w') := by
  refine calls_of_vc lok Try.func161 ?_ rfl
  conv => whnf
  intro w1 hw1
  have hb1 : Blk w1 w.heap.size 70 (p.cells a c) := by rw [hw1]; exact Blk.new w 70 _
  have x1 : Ext w w1 := by rw [hw1]; exact Ext.new _ _
  clear hw1
  have hci : canP p = decide ((p.kind = 1 ∧ (1 ≤ p.size ∧ p.size ≤ 2048) ∧ p.chunk = 0 ∧ p.state = 0 ∧ p.hav = 0#32 ∧ p.data.length = 0) ∨
    (p.kind = 2 ∧ p.size = 0 ∧ (0 ≤ p.chunk ∧ p.chunk ≤ 31) ∧ p.state = 0 ∧ p.hav = 0#32 ∧ (1 ≤ p.data.length ∧ p.data.length ≤ 64)) ∨
    (p.kind = 3 ∧ p.size = 0 ∧ p.chunk = 0 ∧ (0 ≤ p.state ∧ p.state ≤ 2) ∧ p.data.length = 0)) := rfl
  have h0 : ((p.hav.toNat : Int) = 0) ↔ p.hav = 0#32 := int_eq (x := p.hav) (y := 0#32)
  conv => whnf
  refine ⟨_, hb1.cell0 rfl, ?_⟩
  conv => whnf
  refine vcCond_split lok rfl (fun k1 => ?_) (fun k1 => ?_)
  · have k1 := dt k1
    conv => whnf
    refine vcReg_meet lok (fun β : Bool => [(2, .bool β)]) (fun β w' => w' = w1 ∧ β = canP p) [2] (fun _ => rfl) rfl ?_ ?_
    · conv => whnf
      refine ⟨_, hb1.cell (i := 2) rfl, ?_⟩
      conv => whnf
      refine bcase (fun h2 => ?_) (fun h2 => ?_)
      rotate_left
      · have h2 := df h2
        conv => whnf
        exact ⟨_, ⟨rfl, trivial⟩, rfl, by rw [hci, eq_comm, decide_eq_false_iff_not]; omega⟩
      have h2 := dt h2
      conv => whnf
      refine ⟨_, hb1.cell (i := 2) rfl, ?_⟩
      conv => whnf
      refine bcase (fun h3 => ?_) (fun h3 => ?_)
      rotate_left
      · have h3 := df h3
        conv => whnf
        exact ⟨_, ⟨rfl, trivial⟩, rfl, by rw [hci, eq_comm, decide_eq_false_iff_not]; omega⟩
      have h3 := dt h3
      conv => whnf
      refine ⟨_, hb1.cell (i := 3) rfl, ?_⟩
      conv => whnf
      refine bcase (fun h4 => ?_) (fun h4 => ?_)
      rotate_left
      · have h4 := df h4
        conv => whnf
        exact ⟨_, ⟨rfl, trivial⟩, rfl, by rw [hci, eq_comm, decide_eq_false_iff_not]; omega⟩
      have h4 := dt h4
      conv => whnf
      refine ⟨_, hb1.cell (i := 4) rfl, ?_⟩
      conv => whnf
      refine bcase (fun h5 => ?_) (fun h5 => ?_)
      rotate_left
      · have h5 := df h5
        conv => whnf
        exact ⟨_, ⟨rfl, trivial⟩, rfl, by rw [hci, eq_comm, decide_eq_false_iff_not]; omega⟩
      have h5 := dt h5
      conv => whnf
      refine ⟨_, hb1.cell (i := 5) rfl, ?_⟩
      conv => whnf
      refine bcase (fun h6 => ?_) (fun h6 => ?_)
      rotate_left
      · have h6 := fun e => df h6 (h0.2 e)
        conv => whnf
        exact ⟨_, ⟨rfl, trivial⟩, rfl, by rw [hci, eq_comm, decide_eq_false_iff_not]; rintro (⟨_, _, _, _, h, _⟩ | ⟨h, _⟩ | ⟨h, _⟩); exact h6 h; omega; omega⟩
      have h6 := h0.1 (dt h6)
      conv => whnf
      refine ⟨_, hb1.cell (i := 6) rfl, ?_⟩
      conv => whnf
      refine ⟨_, ⟨rfl, trivial⟩, rfl, ?_⟩
      rw [hci, decide_eq_decide]
      constructor
      · intro h7; exact .inl ⟨k1, ⟨h2, h3⟩, h4, h5, h6, by omega⟩
      · rintro (⟨_, _, _, _, _, h⟩ | ⟨h, _⟩ | ⟨h, _⟩) <;> omega
    rintro β w5 ⟨hw5, hβ⟩
    subst hw5
    conv => whnf
    exact ⟨by rw [hβ], x1⟩
  · have k1 := df k1
    conv => whnf
    refine vcCond_split lok rfl (fun k2 => ?_) (fun k2 => ?_)
    · have k2 := dt k2
      conv => whnf
      refine vcReg_meet lok (fun β : Bool => [(2, .bool β)]) (fun β w' => w' = w1 ∧ β = canP p) [2] (fun _ => rfl) rfl ?_ ?_
      · conv => whnf
        refine ⟨_, hb1.cell (i := 2) rfl, ?_⟩
        conv => whnf
        refine bcase (fun h2 => ?_) (fun h2 => ?_)
        rotate_left
        · have h2 := df h2
          conv => whnf
          exact ⟨_, ⟨rfl, trivial⟩, rfl, by rw [hci, eq_comm, decide_eq_false_iff_not]; omega⟩
        have h2 := dt h2
        conv => whnf
        refine ⟨_, hb1.cell (i := 3) rfl, ?_⟩
        conv => whnf
        refine bcase (fun h3 => ?_) (fun h3 => ?_)
        rotate_left
        · have h3 := df h3
          conv => whnf
          exact ⟨_, ⟨rfl, trivial⟩, rfl, by rw [hci, eq_comm, decide_eq_false_iff_not]; omega⟩
        have h3 := dt h3
        conv => whnf
        refine ⟨_, hb1.cell (i := 3) rfl, ?_⟩
        conv => whnf
        refine bcase (fun h4 => ?_) (fun h4 => ?_)
        rotate_left
        · have h4 := df h4
          conv => whnf
          exact ⟨_, ⟨rfl, trivial⟩, rfl, by rw [hci, eq_comm, decide_eq_false_iff_not]; omega⟩
        have h4 := dt h4
        conv => whnf
        refine ⟨_, hb1.cell (i := 4) rfl, ?_⟩
        conv => whnf
        refine bcase (fun h5 => ?_) (fun h5 => ?_)
        rotate_left
        · have h5 := df h5
          conv => whnf
          exact ⟨_, ⟨rfl, trivial⟩, rfl, by rw [hci, eq_comm, decide_eq_false_iff_not]; omega⟩
        have h5 := dt h5
        conv => whnf
        refine ⟨_, hb1.cell (i := 5) rfl, ?_⟩
        conv => whnf
        refine bcase (fun h6 => ?_) (fun h6 => ?_)
        rotate_left
        · have h6 := fun e => df h6 (h0.2 e)
          conv => whnf
          exact ⟨_, ⟨rfl, trivial⟩, rfl, by rw [hci, eq_comm, decide_eq_false_iff_not]; rintro (⟨h, _⟩ | ⟨_, _, _, _, h, _⟩ | ⟨h, _⟩); omega; exact h6 h; omega⟩
        have h6 := h0.1 (dt h6)
        conv => whnf
        refine ⟨_, hb1.cell (i := 6) rfl, ?_⟩
        conv => whnf
        refine bcase (fun h7 => ?_) (fun h7 => ?_)
        rotate_left
        · have h7 := df h7
          conv => whnf
          exact ⟨_, ⟨rfl, trivial⟩, rfl, by rw [hci, eq_comm, decide_eq_false_iff_not]; omega⟩
        have h7 := dt h7
        conv => whnf
        refine ⟨_, hb1.cell (i := 6) rfl, ?_⟩
        conv => whnf
        refine ⟨_, ⟨rfl, trivial⟩, rfl, ?_⟩
        rw [hci, decide_eq_decide]
        constructor
        · intro h8; exact .inr (.inl ⟨k2, h2, ⟨h3, h4⟩, h5, h6, by omega, by omega⟩)
        · rintro (⟨h, _⟩ | ⟨_, _, _, _, _, h⟩ | ⟨h, _⟩) <;> omega
      rintro β w5 ⟨hw5, hβ⟩
      subst hw5
      conv => whnf
      exact ⟨by rw [hβ], x1⟩
    · have k2 := df k2
      conv => whnf
      refine vcCond_split lok rfl (fun k3 => ?_) (fun k3 => ?_)
      · have k3 := dt k3
        conv => whnf
        refine vcReg_meet lok (fun β : Bool => [(2, .bool β)]) (fun β w' => w' = w1 ∧ β = canP p) [2] (fun _ => rfl) rfl ?_ ?_
        · conv => whnf
          refine ⟨_, hb1.cell (i := 2) rfl, ?_⟩
          conv => whnf
          refine bcase (fun h2 => ?_) (fun h2 => ?_)
          rotate_left
          · have h2 := df h2
            conv => whnf
            exact ⟨_, ⟨rfl, trivial⟩, rfl, by rw [hci, eq_comm, decide_eq_false_iff_not]; omega⟩
          have h2 := dt h2
          conv => whnf
          refine ⟨_, hb1.cell (i := 3) rfl, ?_⟩
          conv => whnf
          refine bcase (fun h3 => ?_) (fun h3 => ?_)
          rotate_left
          · have h3 := df h3
            conv => whnf
            exact ⟨_, ⟨rfl, trivial⟩, rfl, by rw [hci, eq_comm, decide_eq_false_iff_not]; omega⟩
          have h3 := dt h3
          conv => whnf
          refine ⟨_, hb1.cell (i := 4) rfl, ?_⟩
          conv => whnf
          refine bcase (fun h4 => ?_) (fun h4 => ?_)
          rotate_left
          · have h4 := df h4
            conv => whnf
            exact ⟨_, ⟨rfl, trivial⟩, rfl, by rw [hci, eq_comm, decide_eq_false_iff_not]; omega⟩
          have h4 := dt h4
          conv => whnf
          refine ⟨_, hb1.cell (i := 4) rfl, ?_⟩
          conv => whnf
          refine bcase (fun h5 => ?_) (fun h5 => ?_)
          rotate_left
          · have h5 := df h5
            conv => whnf
            exact ⟨_, ⟨rfl, trivial⟩, rfl, by rw [hci, eq_comm, decide_eq_false_iff_not]; omega⟩
          have h5 := dt h5
          conv => whnf
          refine ⟨_, hb1.cell (i := 6) rfl, ?_⟩
          conv => whnf
          refine ⟨_, ⟨rfl, trivial⟩, rfl, ?_⟩
          rw [hci, decide_eq_decide]
          constructor
          · intro h8; exact .inr (.inr ⟨k3, h2, h3, ⟨h4, h5⟩, by omega⟩)
          · rintro (⟨h, _⟩ | ⟨h, _⟩ | ⟨_, _, _, _, h⟩) <;> omega
        rintro β w5 ⟨hw5, hβ⟩
        subst hw5
        conv => whnf
        exact ⟨by rw [hβ], x1⟩
      · have k3 := df k3
        conv => whnf
        exact ⟨by rw [hci, decide_eq_false (by omega)], x1⟩
end Go.Proofs.Ytgipackjnncabaa
